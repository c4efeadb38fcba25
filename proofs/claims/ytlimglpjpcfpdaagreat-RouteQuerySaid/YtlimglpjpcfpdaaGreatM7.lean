/- Texts of this proof, one behind another. -/
import Derived.Test.YtlimglpjpcfpdaaGreatM2
import Derived.Test.YtlimglpjpcfpdaaGreatM4
import Derived.Test.YtlimglpjpcfpdaaGreatM6
import Derived.Test.YtlimglpjpcfpdaaGreatM3
set_option linter.unusedVariables false
set_option linter.unusedSimpArgs false
section
open Go Mk
namespace Go.Proofs.YtlimglpjpcfpdaaGreat
set_option maxHeartbeats 4000000
attribute [local irreducible] Calls
instance:Ry Tryz.prog 223 "multikernel/route.add" 294:=⟨by kernel_rfl,⟨_,NU.h⟩⟩
instance:Ry Tryz.prog 223 "multikernel/route.take" 296:=⟨by kernel_rfl,⟨_,NU.h⟩⟩
instance:Ry Tryz.prog 223 "multikernel/route.empty" 295:=⟨by kernel_rfl,⟨_,NU.h⟩⟩
instance:Ry Tryz.prog 223 "Push" 306:=⟨by kernel_rfl,⟨_,NU.h⟩⟩
instance:Ry Tryz.prog 223 "Pop" 305:=⟨by kernel_rfl,⟨_,NU.h⟩⟩
instance:RF Tryz.prog 223 "Len" 293 224:=⟨by kernel_rfl,NU.h⟩
instance:RF Tryz.prog 223 "Less" 301 224:=⟨by kernel_rfl,NU.h⟩
instance:RF Tryz.prog 223 "Swap" 302 224:=⟨by kernel_rfl,NU.h⟩
instance:dB Tryz.prog 223:=⟨by kernel_rfl⟩
instance:dB Tryz.prog 205:=⟨by kernel_rfl⟩
def Q1(p:Pl):List Value:=[.int .i64 p.1,.int .i64 p.2]
abbrev IW(a:Option Addr)(n c:Nat)(xs:List Pl):B2:=.own (.slice a n c) 205 2 (xs.map Q1)
abbrev Bp(b:Nat)(v:Value):B2:=.blk b (.cells #[v] 224)
abbrev VK(b:Nat):Value:=.iface 223 (.pointer (some ⟨b,0,none⟩))
theorem Mh{xs:List Pl}{k:Nat}{x:Pl}(h:xs[k]? = some x):(xs.map Q1)[k]? = some (Q1 x):=by rw[List.getElem?_map,h];rfl
theorem UI{Γ:C8}{S:List B2}{w:World}{a:Option Addr}{n c:Nat}(hw:Wd Γ S w) :
  Calls Tryz.prog 293 #[.slice a n c] w fun e w'=>e=.returned (.int .i64 n)∧Wd Γ S w':=by
 refine A9 Tryz.func293 rfl rfl ?_
 refine A6 ?_;exact⟨_,rfl,rfl,hw⟩
theorem Zt{Γ:C8}{S:List B2}{w:World}{a:Option Addr}{n c:Nat}{xs:List Pl}{i j:Nat}(hi:i<xs.length)(hj:j<xs.length)(hw:Wd Γ (IW a n c xs::S) w) :
  Calls Tryz.prog 301 #[.slice a n c,.int .i64 i,.int .i64 j] w fun e w'=>e=.returned (.bool (decide (hk xs i<hk xs j)))∧Wd Γ (IW a n c xs::S) w':=by
 obtain⟨a',n',c',e,hn,hnc,-⟩:=hw.own_shape (i:=0) rfl
 cases e
 simp only[List.length_map]at hn
 obtain⟨x,hx⟩:=B4 (l:=xs) (k:=i) (by omega)
 obtain⟨y,hy⟩:=B4 (l:=xs) (k:=j) (by omega)
 have hx':=Mh hx
 have hy':=Mh hy
 rw[TY hx,TY hy];refine A9 Tryz.func301 rfl rfl ?_
 refine A6 ?_;refine I5 (by kernel_rfl) (by kernel_rfl) hw ?_
 refine EX ?_;intro w hw;refine A6 ?_;exact⟨_,rfl,rfl,hw⟩
theorem Jl{Γ:C8}{S:List B2}{w:World}{a:Option Addr}{n c:Nat}{xs:List Pl}{i j:Nat}(hi:i<xs.length)(hj:j<xs.length)(hw:Wd Γ (IW a n c xs::S) w) :
  Calls Tryz.prog 302 #[.slice a n c,.int .i64 i,.int .i64 j] w fun e w'=>e=.returned (.tuple #[])∧Wd Γ (IW a n c (swp xs i j)::S) w':=by
 obtain⟨a',n',c',e,hn,hnc,-⟩:=hw.own_shape (i:=0) rfl
 cases e
 simp only[List.length_map]at hn
 obtain⟨x,hx⟩:=B4 (l:=xs) (k:=i) (by omega)
 obtain⟨y,hy⟩:=B4 (l:=xs) (k:=j) (by omega)
 have hx':=Mh hx
 have hy':=Mh hy
 have hsw:swp xs i j=(xs.set i y).set j x:=by unfold swp;rw[List.getD_eq_getElem?_getD,hy,List.getD_eq_getElem?_getD,hx];rfl
 refine A9 Tryz.func302 rfl rfl ?_
 refine A6 ?_;refine Qx [] _ [[],[],[],[],[],[],[],[],[],[],[],[],[],[0],[],[0]] [[],[],[],[],[],[],[0],[0],[],[],[0],[0],[0],[0],[0],[0]] hw ?_
 repeat(first|refine mY ?_|refine mP ?_|refine U0 ?_|refine s8 ?_|refine S5 ?_)
 refine NR (k:=i) (r:=Q1 y) ?_
 repeat(first|refine mY ?_|refine mP ?_|refine U0 ?_|refine s8 ?_|refine S5 ?_)
 refine NR (k:=j) (r:=Q1 x) ?_
 repeat(first|refine mY ?_|refine mP ?_|refine U0 ?_|refine s8 ?_|refine S5 ?_)
 intro w hw;have hw:=Wd.left (S:=B2.own _ _ _ _::_) hw
 have hw:Wd Γ (.own (.slice a n c) 205 2 (((xs.map Q1).set i (Q1 y)).set j (Q1 x))::S) w:=hw
 rw[←List.map_set,←List.map_set,←hsw]at hw;exact⟨_,rfl,rfl,hw⟩
theorem Xu{Γ:C8}{S:List B2}{w:World}{b:Nat}{v:Value}{xs:List Pl}{x:Pl}(hN:xs.length≤1000000)(hw:Wd Γ (Bp b v::.own v 205 2 (xs.map Q1)::S) w) :
  Calls Tryz.prog 306 #[.pointer (some ⟨b,0,none⟩),.iface 205 (.agg (Q1 x).toArray)] w fun e w'=>e=.returned (.tuple #[])∧∃v',Wd Γ (Bp b v'::.own v' 205 2 ((xs++[x]).map Q1)::S) w':=by
 obtain⟨a,n,c,rfl,hn,hnc,-⟩:=hw.own_shape (i:=1) rfl
 simp only[List.length_map]at hn
 refine A9 Tryz.func306 rfl rfl ?_
 refine A6 ?_;refine Eh [] _ [[],[],[],[],[],[],[1],[0],[],[0]] [[],[],[],[0],[],[],[1],[0,1],[],[0]] [[11],[10]] hw ?_
 repeat(first|refine mY ?_|refine mP ?_|refine U0 ?_|refine s8 ?_|refine S5 ?_)
 refine mY (v:=.agg (Q1 x).toArray) ?_ (hy:=fun Y w g hw=>Oc Tryz.underlying205 rfl)
 repeat(first|refine mY ?_|refine mP ?_|refine U0 ?_|refine s8 ?_|refine S5 ?_)
 refine g8 [Q1 x] ?_
 refine HF ?_
 repeat(first|refine mY ?_|refine mP ?_|refine U0 ?_|refine s8 ?_|refine S5 ?_)
 refine AU ?_
 refine S5 fun w g hw=>?_
 have hw:=Wd.dropEnd hw
 have hw:Wd Γ (Bp b (g 11)::.own (g 11) 205 2 (xs.map Q1++[Q1 x])::S) w:=hw
 rw[show xs.map Q1++[Q1 x]=(xs++[x]).map Q1 from by simp]at hw
 exact⟨_,rfl,rfl,_,hw⟩
theorem y5{Γ:C8}{S:List B2}{w:World}{b:Nat}{v:Value}(hw:Wd Γ (Bp b v::S) w):(loadVar 224 ⟨b,0,none⟩).run Tryz.prog w=.ok v w:=
 Ng (i:=0) hw rfl rfl
theorem Mz{Γ:C8}{b:Nat}{a:Option Addr}{n c:Nat}{xs:List Pl}{i j:Nat}(hi:i<xs.length)(hj:j<xs.length) :
  PS Tryz.prog Γ [Bp b (.slice a n c),IW a n c xs] 301 [.slice a n c,.int .i64 i,.int .i64 j] (.bool (decide (hk xs i<hk xs j))):=
 ⟨fun Y w hw=>(Zt hi hj (S:=Bp b (.slice a n c)::Y) (Wd.ps [1] hw)).mono fun e w' ⟨h1,h2⟩=>⟨h1,Wd.ps [1] h2⟩⟩
theorem ZQ{j:Nat}(h:j≤1000000):IntKind.i64.wrap (((j:Int)-1).tdiv 2)=(((j-1) / 2:Nat):Int):=by
 by_cases e:j=0
 ·subst e;rfl
 ·obtain⟨k,rfl⟩:∃k,j=k+1:=⟨j-1,by omega⟩
  rw[show ((k+1:Nat):Int)-1=(k:Int) from by omega,Nat.add_sub_cancel,Int.tdiv_eq_ediv_of_nonneg (by omega)]
  rw[show (k:Int) / 2=((k / 2:Nat):Int) from by omega]
  exact wrap_i64 (by omega) (by omega)
theorem eI{Γ:C8}{S:List B2}{w:World}{b:Nat}{a:Option Addr}{n c:Nat}{xs:List Pl}{j:Nat}(hN:xs.length≤1000000)(hj:j<xs.length)(hu:fN xs j)(hw:Wd Γ (Bp b (.slice a n c)::IW a n c xs::S) w) :
  Calls Tryz.prog 299 #[VK b,.int .i64 j] w fun e w'=>e=.returned (.tuple #[])∧∃ys,ys.Perm xs∧l6 ys ys.length∧Wd Γ (Bp b (.slice a n c)::IW a n c ys::S) w':=by
 refine A9 Tryz.func299 rfl rfl ?_
 refine A6 ?_;refine B5 (fun μ ρ w=>∃(ys:List Pl),μ<ys.length∧ys.Perm xs∧fN ys μ∧Has ρ [(0,VK b),(1,.int .i64 μ)]∧Wd Γ (Bp b (.slice a n c)::IW a n c ys::S) w) j ⟨xs,hj,.refl _,hu,⟨rfl,rfl,trivial⟩,hw⟩ ?_
 clear hw hu hj;rintro j ρ w ⟨ys,hj,hp,hu,hρ,hw⟩
 have hl:=hp.length_eq
 rw[hρ.eq];clear hρ;refine FD ?_
 refine BW (fun ρ w=>Has ρ [(0,VK b),(1,.int .i64 j),(4,.int .i64 ((j-1) / 2:Nat))]∧Wd Γ (Bp b (.slice a n c)::IW a n c ys::S) w) ?_ ?_
 ·refine A6 ?_;exact⟨⟨rfl,rfl,congrArg (Value.int .i64) (ZQ (by omega)),trivial⟩,hw⟩
 clear hw;rintro ρ w ⟨hρ,hw⟩
 rw[hρ.eq];clear hρ;refine A6 ?_;refine Wq (fun _=>Mz (j:=(j-1) / 2) hj (by omega)) (y5 hw) ?_
 intro w hw;refine A6 ?_;refine A7 rfl (fun h=>?_) (fun h=>?_)
 ·have h:(decide (((((j-1) / 2:Nat)):Int)=j) || !decide (hk ys j<hk ys ((j-1) / 2)))=true:=h
  have hs:j=0∨hk ys ((j-1) / 2)≤hk ys j:=by
   rcases Bool.or_eq_true_iff.1 h with h|h
   ·have:=of_decide_eq_true h;omega
   ·have:¬hk ys j<hk ys ((j-1) / 2):=by simpa using h
    omega
  have hw:Wd Γ (Bp b (.slice a n c)::IW a n c ys::S) w:=hw
  refine A6 ?_;exact⟨_,rfl,rfl,ys,hp,aT hu hs,hw⟩
 ·have h:(decide (((((j-1) / 2:Nat)):Int)=j) || !decide (hk ys j<hk ys ((j-1) / 2)))=false:=h
  obtain⟨h1,h2⟩:=Bool.or_eq_false_iff.1 h
  have h1:=of_decide_eq_false h1
  have h2:hk ys j<hk ys ((j-1) / 2):=by simpa using h2
  have hw:Wd Γ (Bp b (.slice a n c)::IW a n c ys::S) w:=hw
  refine A6 ?_;refine Oz (y5 hw) ((Jl (i:=(j-1) / 2) (j:=j) (by omega) hj (Wd.ps [1] hw)).mono fun e w hh=>?_)
  obtain⟨rfl,hw⟩:=hh;refine⟨_,rfl,?_⟩;have hw:Wd Γ (Bp b (.slice a n c)::IW a n c (swp ys ((j-1) / 2) j)::S) w:=Wd.ps [1] hw
  refine A6 ?_;exact⟨(j-1) / 2,by omega,swp ys ((j-1) / 2) j,by rw[FB];omega,(Jb (by omega) hj).trans hp,ad hu (by omega) hj h2,⟨rfl,rfl,trivial⟩,hw⟩
theorem Ws{Γ:C8}{S:List B2}{w:World}{b:Nat}{a:Option Addr}{n c:Nat}{xs:List Pl}{m:Nat}(hN:xs.length≤1000000)(hm:m+1=xs.length)(hu:Lr xs 0 m)(hw:Wd Γ (Bp b (.slice a n c)::IW a n c xs::S) w) :
  Calls Tryz.prog 300 #[VK b,.int .i64 0,.int .i64 m] w fun e w'=>∃r,e=.returned (.bool r)∧∃ys,ys.Perm xs∧ys[m]? = xs[m]?∧l6 ys m∧Wd Γ (Bp b (.slice a n c)::IW a n c ys::S) w':=by
 refine A9 Tryz.func300 rfl rfl ?_
 refine A6 ?_;refine B5 (fun μ ρ w=>∃(i:Nat) (ys:List Pl),μ=m-i∧i≤m∧ys.Perm xs∧ys[m]? = xs[m]?∧Lr ys i m∧Has ρ [(0,VK b),(1,.int .i64 0),(2,.int .i64 m),(6,.bool false),(7,.int .i64 i)]∧Wd Γ (Bp b (.slice a n c)::IW a n c ys::S) w) m ⟨0,xs,by omega,by omega,.refl _,rfl,hu,⟨rfl,rfl,rfl,rfl,rfl,trivial⟩,hw⟩ ?_
 clear hw hu;rintro μ ρ w ⟨i,ys,hμ,hi,hp,hx,hu,hρ,hw⟩
 have hl:=hp.length_eq
 rw[hρ.eq];clear hρ;refine A6 ?_;refine A7 rfl (fun h=>?_) (fun h=>?_)
 ·have h:(decide ((2*(i:Int)+1)≥m)||decide ((2*(i:Int)+1)<0))=true:=h
  have hs:m≤2*i+1:=by
   rcases Bool.or_eq_true_iff.1 h with h|h
   ·have:=of_decide_eq_true h;omega
   ·have:=of_decide_eq_true h;omega
  refine A6 ?_;exact⟨_,rfl,_,rfl,ys,hp,hx,LW hu (fun k k0 kn kp=>by omega),hw⟩
 ·have h:(decide ((2*(i:Int)+1)≥m)||decide ((2*(i:Int)+1)<0))=false:=h
  have hs:2*i+1<m:=by
   have:=of_decide_eq_false (Bool.or_eq_false_iff.1 h).1;omega
  clear h;iterate 7 (first|refine U9 ?_|(refine V5 ?_;intro w hw))
  refine Ft (fun ρ w=>∃j:Nat,j<m∧0<j∧(j-1) / 2=i∧(∀k,0<k→k<m→(k-1) / 2=i→hk ys j≤hk ys k)∧Has ρ [(0,VK b),(1,.int .i64 0),(2,.int .i64 m),(6,.bool false),(7,.int .i64 i),(9,.int .i64 j)]∧Wd Γ (Bp b (.slice a n c)::IW a n c ys::S) w) ?_ ?_
  ·refine A6 ?_;refine Wq (c:=decide (2*(i:Int)+1+1<m)) (fun hc=>Mz (xs:=ys) (i:=2*i+2) (j:=2*i+1) (by have:=of_decide_eq_true hc;omega) (by omega)) (y5 hw) ?_
   intro w hw;have hw:Wd Γ (Bp b (.slice a n c)::IW a n c ys::S) w:=hw
   refine A6 ?_;refine A7 rfl (fun h=>?_) (fun h=>?_)
   ·have h:(decide (2*(i:Int)+1+1<m)&&decide (hk ys (2*i+2)<hk ys (2*i+1)))=true:=h
    obtain⟨h1,h2⟩:=Bool.and_eq_true_iff.1 h
    have h1:=of_decide_eq_true h1
    have h2:=of_decide_eq_true h2
    refine A6 ?_;refine⟨2*i+2,by omega,by omega,by omega,fun k k0 kn kp=>?_,⟨rfl,rfl,rfl,rfl,rfl,rfl,trivial⟩,hw⟩
    rcases (show k=2*i+1∨k=2*i+2 by omega) with rfl|rfl
    ·omega
    ·omega
   ·have h:(decide (2*(i:Int)+1+1<m)&&decide (hk ys (2*i+2)<hk ys (2*i+1)))=false:=h
    refine A6 ?_;refine⟨2*i+1,by omega,by omega,by omega,fun k k0 kn kp=>?_,⟨rfl,rfl,rfl,rfl,rfl,rfl,trivial⟩,hw⟩
    rcases (show k=2*i+1∨k=2*i+2 by omega) with rfl|rfl
    ·omega
    ·rw[decide_eq_true (show 2*(i:Int)+1+1<m by omega),Bool.true_and]at h
     have:=of_decide_eq_false h
     omega
  ·clear hw;rintro ρ w ⟨j,hjm,hj0,hjp,hmin,hρ,hw⟩
   rw[hρ.eq];clear hρ;refine A6 ?_;refine dM (Mz (xs:=ys) (i:=j) (j:=i) (by omega) (by omega)) (y5 hw) ?_
   intro w hw;have hw:Wd Γ (Bp b (.slice a n c)::IW a n c ys::S) w:=hw
   refine A6 ?_;refine A7 rfl (fun h=>?_) (fun h=>?_)
   ·have h:(!decide (hk ys j<hk ys i))=true:=h
    have h:¬hk ys j<hk ys i:=by simpa using h
    refine A6 ?_;refine⟨_,rfl,_,rfl,ys,hp,hx,LW hu (fun k k0 kn kp=>?_),hw⟩
    have:=hmin k k0 kn kp
    omega
   ·have h:(!decide (hk ys j<hk ys i))=false:=h
    have h:hk ys j<hk ys i:=by simpa using h
    refine A6 ?_;refine Oz (y5 hw) ((Jl (i:=i) (j:=j) (by omega) (by omega) (Wd.ps [1] hw)).mono fun e w hh=>?_)
    obtain⟨rfl,hw⟩:=hh;refine⟨_,rfl,?_⟩;have hw:Wd Γ (Bp b (.slice a n c)::IW a n c (swp ys i j)::S) w:=Wd.ps [1] hw
    refine A6 ?_;refine⟨m-j,by omega,j,swp ys i j,rfl,by omega,(Jb (by omega) (by omega)).trans hp,?_,Ux hu (by omega) hjm hj0 hjp h hmin,⟨rfl,rfl,rfl,rfl,rfl,trivial⟩,hw⟩
    rw[swp_get (by omega) (by omega),if_neg (by omega),if_neg (by omega)];exact hx
theorem ZA{Γ:C8}{S:List B2}{w:World}{b:Nat}{a:Option Addr}{n c:Nat}{xs:List Pl}{m:Nat}{x:Pl}(hN:xs.length≤1000000)(hm:m+1=xs.length)(hx:xs[m]? = some x)(hw:Wd Γ (Bp b (.slice a n c)::IW a n c xs::S) w) :
  Calls Tryz.prog 305 #[.pointer (some ⟨b,0,none⟩)] w fun e w'=>e=.returned (.iface 205 (.agg (Q1 x).toArray))∧∃v',Wd Γ (Bp b v'::.own v' 205 2 ((xs.take m).map Q1)::S) w':=by
 obtain⟨a',n',c',e,hn,hnc,-⟩:=hw.own_shape (i:=1) rfl
 cases e
 simp only[List.length_map]at hn
 have hx':xs[((n:Int)-1).toNat]? = some x:=by rw[show ((n:Int)-1).toNat=m from by omega];exact hx
 refine A9 Tryz.func305 rfl rfl ?_
 refine A6 ?_;refine Q8 [Bp b (.slice a n c),IW a n c xs] [fun _=>[],fun _=>S] [[],[],[],[],[],[],[],[],[],[],[0],[0]] [[],[],[],[],[],[],[],[],[],[],[0],[0]] [[3],[]] (by have:=hw;simpa[List.range,List.range.loop,ML] using this) ?_
 refine R1 ?_;refine GD ?_
 refine BN ?_
 refine S5 fun w g hw=>?_
 have hw:Wd Γ (Bp b (.slice a n c)::IW a n c xs::Mw (g 3) _::(S++[])) w:=hw
 rw[List.append_nil]at hw;obtain⟨b3,hg3,hw⟩:=(Wd.ps [2] hw).openAt
 have hw:Wd Γ (.blk b3 (.cells (Q1 x).toArray 205)::Bp b (.slice a n c)::IW a n c xs::S) w:=hw
 refine Ob (l:=[(0,.pointer (some ⟨b,0,none⟩)),(3,.pointer (some ⟨b3,0,none⟩))]) ⟨rfl,hg3,trivial⟩ fun ρ' hρ'=>?_
 rw[hρ'.eq];clear hρ' hg3;refine A6 ?_;refine Qx [.blk b3 (.cells (Q1 x).toArray 205)] _ [[],[],[],[],[],[],[],[],[],[],[],[0]] [[],[],[],[0],[],[],[0],[],[],[],[],[0]] hw ?_
 refine R1 ?_;refine AX (j:=0) (vs:=[.slice a ((n:Int)-1).toNat c]) ?_
 repeat(first|refine mY ?_|refine mP ?_|refine U0 ?_|refine s8 ?_|refine S5 ?_)
 intro w hw;rw[show ((n:Int)-1).toNat=m from by omega]at hw
 have hw:Wd Γ (.blk b3 (.cells (Q1 x).toArray 205)::((Bp b (.slice a m c)::IW a n c xs::S)++[])) w:=hw
 rw[List.append_nil]at hw;have hw:=Wd.own_take (i:=2) (m:=m) hw rfl (by omega)
 rw[←List.map_take]at hw;have hw:Wd Γ (.blk b3 (.cells (Q1 x).toArray 205)::Bp b (.slice a m c)::IW a m c (xs.take m)::S) w:=hw
 refine A6 ?_;refine lY (v:=.iface 205 (.agg (Q1 x).toArray)) ?_ (hy:=S0 rfl)
 refine A6 ?_;exact⟨_,rfl,rfl,_,hw.drop⟩
theorem VJ{Γ:C8}{S:List B2}{w:World}{b:Nat}{v:Value}{xs:List Pl}{x:Pl}(hN:xs.length+1≤1000000)(hh:l6 xs xs.length)(hw:Wd Γ (Bp b v::.own v 205 2 (xs.map Q1)::S) w) :
  Calls Tryz.prog 297 #[VK b,.iface 205 (.agg (Q1 x).toArray)] w fun e w'=>e=.returned (.tuple #[])∧∃v' ys,ys.Perm (x::xs)∧l6 ys ys.length∧Wd Γ (Bp b v'::.own v' 205 2 (ys.map Q1)::S) w':=by
 refine A9 Tryz.func297 rfl rfl ?_
 refine A6 ?_;refine VH ((Xu (by omega) hw).mono fun e w hh'=>?_)
 obtain⟨rfl,v',hw⟩:=hh';obtain⟨a,n,c,rfl,hn,hnc,-⟩:=hw.own_shape (i:=1) rfl
 simp only[List.length_map,List.length_append,List.length_singleton]at hn
 refine⟨_,rfl,?_⟩;refine A6 ?_;refine Oz (y5 hw) ((UI hw).mono fun e w hh'=>?_)
 obtain⟨rfl,hw⟩:=hh';refine⟨_,rfl,?_⟩;have e1:((n:Int)-1)=(xs.length:Nat):=by omega
 refine A6 ?_;rw[e1];refine D3 ((eI (j:=xs.length) (by simp;omega) (by simp) (be hh) hw).mono fun e w hh'=>?_)
 obtain⟨rfl,ys,hp,hy,hw⟩:=hh';refine⟨_,rfl,?_⟩;refine A6 ?_;exact⟨_,rfl,rfl,_,ys,hp.trans List.perm_append_comm,hy,hw⟩
theorem Xj{Γ:C8}{S:List B2}{w:World}{b:Nat}{v:Value}{xs:List Pl}(hN:xs.length≤1000000)(h0:xs≠[])(hh:l6 xs xs.length)(hw:Wd Γ (Bp b v::.own v 205 2 (xs.map Q1)::S) w) :
  Calls Tryz.prog 298 #[VK b] w fun e w'=>∃x v' ys,e=.returned (.iface 205 (.agg (Q1 x).toArray))∧(x::ys).Perm xs∧(∀y∈xs,x.2≤y.2)∧l6 ys ys.length∧Wd Γ (Bp b v'::.own v' 205 2 (ys.map Q1)::S) w':=by
 obtain⟨a,n,c,rfl,hn,hnc,-⟩:=hw.own_shape (i:=1) rfl
 simp only[List.length_map]at hn
 obtain⟨m,hm⟩:∃m,xs.length=m+1:=⟨xs.length-1,by have:=List.length_pos_iff.2 h0;omega⟩
 obtain⟨x,hx⟩:=B4 (l:=xs) (k:=0) (by omega)
 have e1:((n:Int)-1)=(m:Nat):=by omega
 refine A9 Tryz.func298 rfl rfl ?_
 refine A6 ?_;refine Oz (y5 hw) ((UI hw).mono fun e w hh'=>?_)
 obtain⟨rfl,hw⟩:=hh';refine⟨_,rfl,?_⟩;refine A6 ?_;rw[e1];refine Oz (y5 hw) ((Jl (i:=0) (j:=m) (by omega) (by omega) (Wd.ps [1] hw)).mono fun e w hh'=>?_)
 obtain⟨rfl,hw⟩:=hh';refine⟨_,rfl,?_⟩;have hw:Wd Γ (Bp b (.slice a n c)::IW a n c (swp xs 0 m)::S) w:=Wd.ps [1] hw
 refine A6 ?_;refine D3 ((Ws (m:=m) (by rw[FB];omega) (by rw[FB];omega) (WH hh hm) hw).mono fun e w hh'=>?_)
 obtain⟨r,rfl,ys,hp,hy,hz,hw⟩:=hh';rw[swp_get (by omega) (by omega),if_pos rfl,hx]at hy
 have hl:=hp.length_eq
 rw[FB]at hl;refine⟨_,rfl,?_⟩;refine A6 ?_;refine VH ((ZA (m:=m) (by omega) (by omega) hy hw).mono fun e w hh'=>?_)
 obtain⟨rfl,v',hw⟩:=hh';refine⟨_,rfl,?_⟩;refine A6 ?_;exact⟨_,rfl,x,v',ys.take m,rfl,(Va hp (by omega) hy).trans (Jb (by omega) (by omega)),Wk hh hx,Vk hz (by omega),hw⟩
theorem OY{Γ:C8}{S:List B2}{w:World}{b:Nat}{v:Value}{xs:List Pl}{n d:Int}(hN:xs.length+1≤1000000)(hh:l6 xs xs.length)(hw:Wd Γ (Bp b v::.own v 205 2 (xs.map Q1)::S) w) :
  Calls Tryz.prog 294 #[.pointer (some ⟨b,0,none⟩),.int .i64 n,.int .i64 d] w fun e w'=>e=.returned (.tuple #[])∧∃v' ys,ys.Perm ((n,d)::xs)∧l6 ys ys.length∧Wd Γ (Bp b v'::.own v' 205 2 (ys.map Q1)::S) w':=by
 refine A9 Tryz.func294 rfl rfl ?_
 refine A6 ?_;refine lY (v:=VK b) ?_ (hy:=S0 rfl)
 refine A6 ?_;refine lY (v:=.iface 205 (.agg (Q1 (n,d)).toArray)) ?_ (hy:=S0 rfl)
 refine A6 ?_;refine D3 ((VJ hN hh hw).mono fun e w hh'=>?_)
 obtain⟨rfl,h⟩:=hh';refine⟨_,rfl,?_⟩;refine A6 ?_;exact⟨_,rfl,rfl,h⟩
theorem SP{Γ:C8}{S:List B2}{w:World}{b:Nat}{v:Value}{xs:List Pl}(hw:Wd Γ (Bp b v::.own v 205 2 (xs.map Q1)::S) w) :
  Calls Tryz.prog 295 #[.pointer (some ⟨b,0,none⟩)] w fun e w'=>e=.returned (.bool (decide ((xs.length:Int)=0)))∧Wd Γ (Bp b v::.own v 205 2 (xs.map Q1)::S) w':=by
 obtain⟨a,n,c,rfl,hn,hnc,-⟩:=hw.own_shape (i:=1) rfl
 simp only[List.length_map]at hn
 subst hn;refine A9 Tryz.func295 rfl rfl ?_
 refine A6 ?_;exact⟨_,rfl,rfl,hw⟩
theorem VQ{Γ:C8}{S:List B2}{w:World}{b:Nat}{v:Value}{xs:List Pl}(hN:xs.length≤1000000)(h0:xs≠[])(hh:l6 xs xs.length)(hw:Wd Γ (Bp b v::.own v 205 2 (xs.map Q1)::S) w) :
  Calls Tryz.prog 296 #[.pointer (some ⟨b,0,none⟩)] w fun e w'=>∃(x:Pl) (v':Value) (ys:List Pl),e=.returned (.tuple #[.int .i64 x.1,.int .i64 x.2])∧(x::ys).Perm xs∧(∀y∈xs,x.2≤y.2)∧l6 ys ys.length∧Wd Γ (Bp b v'::.own v' 205 2 (ys.map Q1)::S) w':=by
 refine A9 Tryz.func296 rfl rfl ?_
 refine A6 ?_;refine lY (v:=VK b) ?_ (hy:=S0 rfl)
 refine A6 ?_;refine D3 ((Xj hN h0 hh hw).mono fun e w hh'=>?_)
 obtain⟨x,v',ys,rfl,h1,h2,h3,hw⟩:=hh';refine⟨_,rfl,?_⟩;refine A6 ?_;refine lY (v:=.agg (Q1 x).toArray) ?_ (hy:=Oc Tryz.underlying205 rfl)
 refine C0 ?_;intro b4 w hw;refine B1 ?_;intro w hw;have hw:Wd Γ (.blk b4 (.cells (Q1 x).toArray 205)::Bp b v'::.own v' 205 2 (ys.map Q1)::S) w:=hw
 refine A6 ?_;refine I5 (by kernel_rfl) (by kernel_rfl) hw ?_
 refine EX ?_;intro w hw;refine A6 ?_;exact⟨_,rfl,x,v',ys,rfl,h1,h2,h3,hw.drop⟩
def D8(ls:List G3)(x:Int):List Pl:=ls.flatMap fun l=>(if l.A=x then [(l.B,l.Latency)] else [])++(if l.B=x then [(l.A,l.Latency)] else [])
def Bl(N:Int→List Pl)(a:Int)(p:Pl):Int→List Pl:=fun x=>if a=x then N x++[p] else N x
theorem Uq{ls:List G3}{k:Nat}{l:G3}(h:ls[k]? = some l):Bl (Bl (D8 (ls.take k)) l.A (l.B,l.Latency)) l.B (l.A,l.Latency)=D8 (ls.take (k+1)):=by
 funext x
 rw[C9 h];unfold Bl D8;simp only[List.flatMap_append,List.flatMap_cons,List.flatMap_nil,List.append_nil]
 by_cases h1:l.A=x <;> by_cases h2:l.B=x <;> simp[h1,h2]
abbrev G1(bm:Nat)(l:List (Int×Value)):B2:=B2.mpT Tryz.prog 3 (id:Value→Value) bm l
def UR(N:Int→List Pl)(e:Int×Value):B2:=.own e.2 205 2 ((N e.1).map Q1)
def Mg(Γ:C8)(S:List B2)(bm:Nat)(N:Int→List Pl)(w:World):Prop:=
 ∃l:List (Int×Value),(l.map (·.1)).Nodup∧(∀x,F1 l x=none→N x=[])∧Wd Γ (G1 bm l::(l.map (UR N)++S)) w
def H7(l:List (Int×Value))(a:Int):List (Int×Value):=l.filter fun p=>!decide (p.1=a)
def Ar(l:List (Int×Value))(a:Int)(v:Value):Prop:=F1 l a=some v∨(F1 l a=none∧v=.slice none 0 0)
theorem PT{Γ:C8}{S:List B2}{bm:Nat}{N:Int→List Pl}{w:World}{l:List (Int×Value)}(hn:(l.map (·.1)).Nodup)(h0:∀x,F1 l x=none→N x=[])(hw:Wd Γ (G1 bm l::(l.map (UR N)++S)) w)(a:Int) :
  ∃v,Ar l a v∧Wd Γ (G1 bm l::.own v 205 2 ((N a).map Q1)::((H7 l a).map (UR N)++S)) w:=by
 cases hg:F1 l a with
 | some v=>
  refine⟨v,.inl hg,hw.perm (List.Perm.cons _ ?_)⟩
  exact((Ag hn hg).map (UR N)).append_right S
 | none=>
  refine⟨.slice none 0 0,.inr ⟨hg,rfl⟩,?_⟩
  have h1:=(Wd.addNil (a:=none) (E:=205) (sz:=2) hw).ps [1]
  rw[h0 a hg];have:H7 l a=l:=Y1 hg
  rw[this];exact h1
theorem MI{Γ:C8}{S:List B2}{bm:Nat}{N:Int→List Pl}{w:World}{l:List (Int×Value)}{a:Int}{p:Pl}{v:Value}(hn:(l.map (·.1)).Nodup)(h0:∀x,F1 l x=none→N x=[])(hw:Wd Γ (G1 bm (Q3 l a v)::.own v 205 2 ((N a).map Q1++[Q1 p])::((H7 l a).map (UR N)++S)) w) :
  Mg Γ S bm (Bl N a p) w:=by
 refine⟨Q3 l a v,Hq hn a v,fun x hx=>?_,hw.perm (List.Perm.cons _ ?_)⟩
 ·rw[CP]at hx;by_cases e:a=x
  ·rw[if_pos e]at hx;cases hx
  ·rw[if_neg e]at hx;unfold Bl;rw[if_neg e];exact h0 x hx
 ·have h1:(H7 l a).map (UR N)=(H7 l a).map (UR (Bl N a p)):=List.map_congr_left fun e he=>by
   have:=(List.mem_filter.1 he).2
   unfold UR Bl;rw[if_neg (by intro h;simp[h]at this)]
  have h2:B2.own v 205 2 ((N a).map Q1++[Q1 p])=UR (Bl N a p) (a,v):=by
   unfold UR Bl;simp
  rw[h1,h2];exact(((FQ hn a v).map (UR (Bl N a p))).append_right S).symm
theorem Lq{Γ:C8}{S R:List B2}{A B b:B2}{w:World}(hw:Wd Γ (A::B::(R++b::S)) w):Wd Γ (b::A::B::(R++S)) w:=
 hw.perm (((List.perm_middle.cons _).cons _).trans (((List.Perm.swap _ _ _).cons _).trans (.swap _ _ _)))
theorem OG{Γ:C8}{S R:List B2}{A B b:B2}{w:World}(hw:Wd Γ (b::A::B::(R++S)) w):Wd Γ (A::B::(R++b::S)) w:=
 hw.perm (((List.perm_middle.cons _).cons _).trans (((List.Perm.swap _ _ _).cons _).trans (.swap _ _ _))).symm
theorem NO{ls:List G3}{x:Int}:(D8 ls x).length≤2*ls.length:=by
 induction ls with
 | nil=>simp[D8]
 | cons l ls ih=>
  have:D8 (l::ls) x=((if l.A=x then [(l.B,l.Latency)] else [])++(if l.B=x then [(l.A,l.Latency)] else []))++D8 ls x:=by simp[D8]
  rw[this];simp only[List.length_append,List.length_cons]
  split <;> split <;> simp <;> omega
theorem ZG{N:Int→List Pl}{a x:Int}{p:Pl}:(Bl N a p x).length≤(N x).length+1:=by
 unfold Bl;split <;> simp
theorem Mg.drop{Γ:C8}{S:List B2}{b:B2}{bm:Nat}{N:Int→List Pl}{w:World}(h:Mg Γ (b::S) bm N w):Mg Γ S bm N w:=by
 obtain⟨l,h1,h2,hw⟩:=h;exact⟨l,h1,h2,(hw.perm ((List.perm_middle.cons _).trans (.swap _ _ _))).drop⟩
theorem M5{Γ:C8}{S:List B2}{w:World}{ρ:Fr}{d:Option Tmp}{T ty ET:TypeId}{pos:String}{es:Array Edge}{g:Option (Nat×Bool)}{x y:Operand}{l:List (Int×Value)}{a:Int}{v:Value}{bm i:Nat}[hM:BU Tryz.prog T 3 ET][hz:WN Tryz.prog ET (.slice none 0 0)](hw:Wd Γ S w)(hv:Ar l a v)(hi:S[i]? = some (G1 bm l))(hx:ev ρ x=.map (some bm))(hy:ev ρ y=.int .i64 a) :
  Mk.Yields Tryz.prog ⟨d,.lookup T x y false,ty,pos,es,g⟩ ρ w v:=by
 rcases hv with hv|⟨hv,rfl⟩
 ·exact L6 (f:=(id:Value→Value)) hw hx hy hi hv false
 ·exact L5 (f:=(id:Value→Value)) hw hx hy hi hv false
theorem EB{Γ:C8}{u:Value}{H:H1}[hh:Cl Γ u H](hc:H.Links.length≤1000){S:List B2}{w:World}(hw:Wd Γ S w) :
  Calls Tryz.prog 123 #[u] w fun e w'=>∃bm,e=.returned (.map (some bm))∧Mg Γ S bm (D8 H.Links) w':=by
 obtain⟨a1,n1,c1,a2,n2,c2,a3,n3,c3,a4,n4,c4,a5,n5,c5,cs,rfl,hcs,hok,hsz,r1,r2,r3,r4,r5⟩:=hh.h;obtain⟨hn3,hm3,hx3⟩:=C6 r3
 simp only[List.length_map]at hn3
 refine A9 Tryz.func123 rfl rfl ?_
 refine A6 ?_;refine H9 ?_;intro b1 w hw;refine A6 ?_;refine F0 rfl rfl (J1 (K:=3) (α:=Int) (f:=(id:Value→Value)) hw fun bm w hw=>?_)
 have hw:=hw.ps [1]
 have hw:Wd Γ (.blk b1 (.cells #[.string H.Name,.slice a1 n1 c1,.slice a2 n2 c2,.slice a3 n3 c3,.slice a4 n4 c4,.slice a5 n5 c5] 69)::G1 bm []::S) w:=hw
 refine A6 ?_;refine B5 (fun μ ρ w=>∃(k:Nat),μ+k=n3∧Has ρ [(1,.pointer (some ⟨b1,0,none⟩)),(3,.map (some bm)),(8,.slice a3 n3 c3),(9,.int .i64 n3),(10,.int .i64 k)]∧Mg Γ (.blk b1 (.cells #[.string H.Name,.slice a1 n1 c1,.slice a2 n2 c2,.slice a3 n3 c3,.slice a4 n4 c4,.slice a5 n5 c5] 69)::S) bm (D8 (H.Links.take k)) w) n3 ⟨0,by omega,⟨rfl,rfl,rfl,rfl,rfl,trivial⟩,[],by simp,fun _ _=>rfl,hw.ps [1]⟩ ?_
 clear hw;rintro μ ρ w ⟨k,hk,hρ,l,hnd,h0,hw⟩
 rw[hρ.eq];clear hρ;refine A6 ?_;refine A7 rfl (fun h=>?_) (fun h=>?_)
 ·have hkn:k<n3:=by have:=of_decide_eq_true h;omega
  clear h;obtain⟨x,hx⟩:=B4 (l:=H.Links) (k:=k) (by omega)
  refine A6 ?_;refine C0 ?_;intro b5 w hw;refine B1 ?_;intro w hw;have hw:Wd Γ (.blk b5 (.cells (enc x).toArray 140)::G1 bm l::(l.map (UR (D8 (H.Links.take k)))++(.blk b1 (.cells #[.string H.Name,.slice a1 n1 c1,.slice a2 n2 c2,.slice a3 n3 c3,.slice a4 n4 c4,.slice a5 n5 c5] 69)::S))) w:=hw
  replace hw:=hw.perm ((List.Perm.swap _ _ _).trans (List.Perm.cons _ List.perm_middle.symm))
  obtain⟨v,hv,hw⟩:=PT hnd h0 hw x.A
  obtain⟨a0,m0,c0,rfl,hm0,hmc0,-⟩:=hw.own_shape (i:=1) rfl
  simp only[List.length_map]at hm0
  have hlen:m0≤4000:=by rw[hm0];have:=NO (ls:=H.Links.take k) (x:=x.A);simp at this;omega
  have hw:=Lq hw
  refine A6 ?_;refine Eh [.blk b5 (.cells (enc x).toArray 140)] _ [[],[],[],[],[],[],[],[],[],[],[],[],[1],[0],[0]] [[],[],[],[],[],[],[0],[],[],[],[],[],[1],[0,1],[0]] [[27],[26]] hw ?_
  refine R1 ?_;refine mY (v:=.slice a0 m0 c0) ?_ (hy:=fun Y w g hw=>M5 hw hv (i:=1) rfl rfl rfl)
  refine R1 ?_;refine mY (v:=.agg (Q1 (x.B,x.Latency)).toArray) ?_ (hy:=fun Y w g hw=>f9 rfl)
  refine g8 [Q1 (x.B,x.Latency)] ?_
  refine HF (j:=1) ?_
  refine Je (j:=0) ?_
  refine S5 fun w g hw=>?_
  have hw:=Wd.dropEnd hw
  have hw:Wd Γ (.blk b5 (.cells (enc x).toArray 140)::G1 bm (Q3 l x.A (g 27))::.own (g 27) 205 2 ((D8 (H.Links.take k) x.A).map Q1++[Q1 (x.B,x.Latency)])::((H7 l x.A).map (UR (D8 (H.Links.take k)))++.blk b1 (.cells #[.string H.Name,.slice a1 n1 c1,.slice a2 n2 c2,.slice a3 n3 c3,.slice a4 n4 c4,.slice a5 n5 c5] 69)::S)) w:=hw
  have hA:=MI hnd h0 (OG hw)
  generalize g 27=gg at *
  obtain⟨l,hnd,h0,hw⟩:=hA;obtain⟨v,hv,hw⟩:=PT hnd h0 hw x.B
  obtain⟨a0,m0,c0,rfl,hm0,hmc0,-⟩:=hw.own_shape (i:=1) rfl
  simp only[List.length_map]at hm0
  have hlen:m0≤4000:=by rw[hm0];have:=ZG (N:=D8 (H.Links.take k)) (a:=x.A) (p:=(x.B,x.Latency)) (x:=x.B) ; have:=NO (ls:=H.Links.take k) (x:=x.B);simp at this;omega
  have hw:=Lq hw
  refine A6 ?_;refine Eh [.blk b5 (.cells (enc x).toArray 140)] _ [[],[],[],[],[],[],[],[],[],[],[],[],[1],[0],[0]] [[],[],[],[],[],[],[0],[],[],[],[],[],[1],[0,1],[0]] [[41],[40]] hw ?_
  refine R1 ?_;refine mY (v:=.slice a0 m0 c0) ?_ (hy:=fun Y w g hw=>M5 hw hv (i:=1) rfl rfl rfl)
  refine R1 ?_;refine mY (v:=.agg (Q1 (x.A,x.Latency)).toArray) ?_ (hy:=fun Y w g hw=>f9 rfl)
  refine g8 [Q1 (x.A,x.Latency)] ?_
  refine HF (j:=1) ?_
  refine Je (j:=0) ?_
  refine S5 fun w g hw=>?_
  have hw:=Wd.dropEnd hw
  have hw:Wd Γ (.blk b5 (.cells (enc x).toArray 140)::G1 bm (Q3 l x.B (g 41))::.own (g 41) 205 2 ((Bl (D8 (H.Links.take k)) x.A (x.B,x.Latency) x.B).map Q1++[Q1 (x.A,x.Latency)])::((H7 l x.B).map (UR (Bl (D8 (H.Links.take k)) x.A (x.B,x.Latency)))++.blk b1 (.cells #[.string H.Name,.slice a1 n1 c1,.slice a2 n2 c2,.slice a3 n3 c3,.slice a4 n4 c4,.slice a5 n5 c5] 69)::S)) w:=hw
  have hA:=MI hnd h0 (OG hw)
  generalize g 41=gg at *
  have hA:=Mg.drop hA
  rw[Uq hx]at hA;refine A6 ?_;exact⟨μ-1,by omega,k+1,by omega,⟨rfl,rfl,rfl,rfl,rfl,trivial⟩,hA⟩
 ·have hkn:¬k<n3:=by have:=of_decide_eq_false h;omega
  have hA:Mg Γ (.blk b1 (.cells #[.string H.Name,.slice a1 n1 c1,.slice a2 n2 c2,.slice a3 n3 c3,.slice a4 n4 c4,.slice a5 n5 c5] 69)::S) bm (D8 (H.Links.take k)) w:=⟨l,hnd,h0,hw⟩
  rw[List.take_of_length_le (by omega)]at hA
  refine A6 ?_;exact⟨_,rfl,bm,rfl,hA.drop⟩
end Go.Proofs.YtlimglpjpcfpdaaGreat
end
section
namespace Go.Proofs.YtlimglpjpcfpdaaGreat
inductive Way (nb:Int→List Pl) (s:Int):Int→Int→Prop
 | refl:Way nb s s 0
 | step {x d:Int} {q:Pl}:Way nb s x d→q∈nb x→Way nb s q.1 (d+q.2)
def BZ(O:List Int)(x:Int):Int:=O.getD x.toNat (-1)
def Na(nb:Int→List Pl)(s x d:Int):Prop:=(0≤d∧Way nb s x d∧∀d',Way nb s x d'→d≤d')∨(d = -1∧∀d',¬Way nb s x d')
theorem Na.uniq{nb:Int→List Pl}{s x d e:Int}(h:Na nb s x d)(k:Na nb s x e):d=e:=by
 rcases h with⟨h0,h1,h2⟩|⟨h1,h2⟩ <;> rcases k with⟨k0,k1,k2⟩|⟨k1,k2⟩
 ·have:=h2 _ k1;have:=k2 _ h1;omega
 ·exact(k2 _ h1).elim
 ·exact(h2 _ k1).elim
 ·rw[h1,k1]
structure PE(nb:Int→List Pl)(s L:Int):Prop where
 rng:∀x,∀q∈nb x,0≤q.1∧q.1<64∧0≤q.2∧q.2≤L
 st:0≤s∧s<64
theorem Way.nonneg{nb:Int→List Pl}{s L:Int}(hn:PE nb s L){x d:Int}(h:Way nb s x d):0≤d:=by
 induction h with
 | refl=>omega
 | step _ hq ih=>have:=hn.rng _ _ hq;omega
theorem Way.rng{nb:Int→List Pl}{s L:Int}(hn:PE nb s L){x d:Int}(h:Way nb s x d):0≤x∧x<64:=by
 cases h with
 | refl=>exact hn.st
 | step _ hq=>have:=hn.rng _ _ hq;omega
structure TP(nb:Int→List Pl)(s:Int)(O:List Int)(xs:List Pl):Prop where
 len:O.length=64
 neg:∀x,BZ O x = -1∨0≤BZ O x
 way:∀p∈xs,Way nb s p.1 p.2
 done:∀x,0≤x→x<64→0≤BZ O x→Way nb s x (BZ O x)∧∀d,Way nb s x d→BZ O x≤d
 closed:∀x,0≤x→x<64→0≤BZ O x→∀q∈nb x,0≤BZ O q.1∨(q.1,BZ O x+q.2)∈xs
 start:0≤BZ O s∨(s,0)∈xs
section
variable {nb:Int→List Pl}{s L:Int}{O:List Int}{xs ys:List Pl}
theorem HR(x:Int):BZ (List.replicate 64 (-1)) x = -1:=by
 unfold BZ;rw[List.getD_eq_getElem?_getD,List.getElem?_replicate];split <;> rfl
theorem UK{d p:Int}(hl:O.length=64)(h0:0≤p)(h1:p<64){x:Int}(hx:0≤x):BZ (O.set p.toNat d) x=if x=p then d else BZ O x:=by
 unfold BZ;rw[List.getD_eq_getElem?_getD,List.getElem?_set,List.getD_eq_getElem?_getD];by_cases e:x=p
 ·subst e;rw[if_pos rfl,if_pos rfl,if_pos (by omega)];rfl
 ·rw[if_neg e,if_neg (by omega)]
theorem TP.init:TP nb s (List.replicate 64 (-1)) [(s,0)] where
 len:=by simp
 neg x:=.inl (HR x)
 way p hp:=by simp at hp;subst hp;exact .refl
 done x _ _ h:=by rw[HR]at h;omega
 closed x _ _ h:=by rw[HR]at h;omega
 start:=.inr (by simp)
theorem TP.reach(hn:PE nb s L)(h:TP nb s O xs){x d:Int}(hw:Way nb s x d):0≤BZ O x∨∃q∈xs,q.2≤d:=by
 induction hw with
 | refl=>
  rcases h.start with h1|h1
  ·exact .inl h1
  ·exact .inr ⟨_,h1,Int.le_refl _⟩
 | @step x d q hx hq ih=>
  have hr:=hn.rng _ _ hq
  rcases ih with ih|⟨p,hp,hd⟩
  ·obtain⟨h0,h1⟩:=hx.rng hn
   rcases h.closed x h0 h1 ih q hq with h2|h2
   ·exact .inl h2
   ·have:=(h.done x h0 h1 ih).2 d hx
    exact .inr ⟨_,h2,by show BZ O x+q.2≤d+q.2;omega⟩
  ·exact .inr ⟨p,hp,by omega⟩
theorem TP.skip(h:TP nb s O xs){p:Pl}(hp:(p::ys).Perm xs)(hs:0≤BZ O p.1):TP nb s O ys where
 len:=h.len
 neg:=h.neg
 way q hq:=h.way q (hp.mem_iff.1 (by simp[hq]))
 done:=h.done
 closed x h0 h1 hx q hq:=by
  rcases h.closed x h0 h1 hx q hq with h2|h2
  ·exact .inl h2
  ·rcases List.mem_cons.1 (hp.mem_iff.2 h2) with h3|h3
   ·left;rw[←h3]at hs;exact hs
   ·exact .inr h3
 start:=by
  rcases h.start with h2|h2
  ·exact .inl h2
  ·rcases List.mem_cons.1 (hp.mem_iff.2 h2) with h3|h3
   ·left;rw[←h3]at hs;exact hs
   ·exact .inr h3
theorem TP.settle(hn:PE nb s L)(h:TP nb s O xs){p:Pl}(hp:(p::ys).Perm xs)(hmin:∀q∈xs,p.2≤q.2)(hs:BZ O p.1<0){zs:List Pl}(hz:zs.Perm ((nb p.1).map (fun q=>(q.1,p.2+q.2))++ys)) :
  TP nb s (O.set p.1.toNat p.2) zs:=by
 have hpm:p∈xs:=hp.mem_iff.1 (by simp)
 have hwp:=h.way p hpm
 obtain⟨p0,p1⟩:=hwp.rng hn
 have hpn:=hwp.nonneg hn
 have hO:∀ {x:Int},0≤x→BZ (O.set p.1.toNat p.2) x=if x=p.1 then p.2 else BZ O x:=UK h.len p0 p1
 refine⟨by simp[h.len],fun x=>?_,fun q hq=>?_,fun x h0 h1 hx=>?_,fun x h0 h1 hx q hq=>?_,?_⟩
 ·by_cases hx:0≤x
  ·rw[hO hx];split
   ·exact .inr hpn
   ·exact h.neg x
  ·have hz:BZ (O.set p.1.toNat p.2) x=BZ (O.set p.1.toNat p.2) 0:=by unfold BZ;rw[show x.toNat=(0:Int).toNat by omega]
   have hz2:BZ O x=BZ O 0:=by unfold BZ;rw[show x.toNat=(0:Int).toNat by omega]
   rw[hz,hO (by omega)];split
   ·exact .inr hpn
   ·exact h.neg 0
 ·rcases List.mem_append.1 (hz.mem_iff.1 hq) with hq|hq
  ·obtain⟨r,hr,rfl⟩:=List.mem_map.1 hq
   exact hwp.step hr
  ·exact h.way q (hp.mem_iff.1 (by simp[hq]))
 ·rw[hO h0]at hx ⊢
  by_cases e:x=p.1
  ·subst e;rw[if_pos rfl]at hx ⊢
   refine⟨hwp,fun d hd=>?_⟩
   rcases h.reach hn hd with h2|⟨q,hq,h2⟩
   ·omega
   ·have:=hmin q hq;omega
  ·rw[if_neg e]at hx ⊢
   exact h.done x h0 h1 hx
 ·obtain⟨q0,q1,-⟩:=hn.rng _ _ hq
  rw[hO h0]at hx ⊢
  rw[hO q0];by_cases eq:q.1=p.1
  ·left;rw[if_pos eq];exact hpn
  ·rw[if_neg eq];by_cases e:x=p.1
   ·subst e;right
    rw[if_pos rfl];exact hz.mem_iff.2 (List.mem_append_left _ (List.mem_map.2 ⟨q,hq,rfl⟩))
   ·rw[if_neg e]at hx ⊢
    rcases h.closed x h0 h1 hx q hq with h2|h2
    ·exact .inl h2
    ·rcases List.mem_cons.1 (hp.mem_iff.2 h2) with h3|h3
     ·exact(eq (by rw[←h3])).elim
     ·exact .inr (hz.mem_iff.2 (List.mem_append_right _ h3))
 ·rw[hO hn.st.1];by_cases e:s=p.1
  ·left;rw[if_pos e];exact hpn
  ·rw[if_neg e];rcases h.start with h2|h2
   ·exact .inl h2
   ·rcases List.mem_cons.1 (hp.mem_iff.2 h2) with h3|h3
    ·exact(e (by rw[←h3])).elim
    ·exact .inr (hz.mem_iff.2 (List.mem_append_right _ h3))
theorem TP.final(hn:PE nb s L)(h:TP nb s O []){x:Int}(h0:0≤x)(h1:x<64):Na nb s x (BZ O x):=by
 rcases h.neg x with h2|h2
 ·refine .inr ⟨h2,fun d hd=>?_⟩
  rcases h.reach hn hd with h3|⟨q,hq,-⟩
  ·omega
  ·simp at hq
 ·exact .inl ⟨h2,h.done x h0 h1 h2⟩
def JX(nb:Int→List Pl)(O:List Int):Nat→Nat
 | 0=>0
 | n+1=>JX nb O n+if O.getD n (-1)<0 then (nb n).length else 0
theorem Sz{B:Nat}(hB:∀x,(nb x).length≤B):∀n,JX nb O n≤n*B
 | 0=>by simp[JX]
 | n+1=>by
  have:=Sz hB n
  have:=hB n
  unfold JX;rw[Nat.add_mul,Nat.one_mul];split <;> omega
theorem Oi{p:Nat}{d:Int}(hl:O.length=64)(hp:p<64)(hs:O.getD p (-1)<0)(hd:0≤d):∀n,JX nb (O.set p d) n+(if p<n then (nb p).length else 0)=JX nb O n
 | 0=>by simp[JX]
 | n+1=>by
  have ih:=Oi hl hp hs hd n
  unfold JX;have hg:(O.set p d).getD n (-1)=if n=p then d else O.getD n (-1):=by
   rw[List.getD_eq_getElem?_getD,List.getElem?_set,List.getD_eq_getElem?_getD];by_cases e:n=p
   ·subst e;rw[if_pos rfl,if_pos rfl,if_pos (by omega)];rfl
   ·rw[if_neg e,if_neg (Ne.symm e)]
  rw[hg];by_cases e:n=p
  ·subst e;rw[if_pos rfl,if_neg (by omega),if_pos hs,if_pos (by omega)]
   rw[if_neg (by omega)]at ih
   omega
  ·rw[if_neg e];by_cases e2:p<n
   ·rw[if_pos e2]at ih;rw[if_pos (show p<n+1 by omega)];omega
   ·rw[if_neg e2]at ih;rw[if_neg (show ¬p<n+1 by omega)];omega
end
end Go.Proofs.YtlimglpjpcfpdaaGreat
end
section
open Go Mk
namespace Go.Proofs.YtlimglpjpcfpdaaGreat
set_option maxHeartbeats 8000000
attribute [local irreducible] Calls
theorem Jz{Γ:C8}{S:List B2}{bm:Nat}{N:Int→List Pl}{w:World}(h:Mg Γ S bm N w):∃Γ' l,Γ.le Γ'∧(∀x v,Ar l x v→D9 Γ' v 2 ((N x).map Q1))∧Wd Γ' (G1 bm l::S) w:=by
 obtain⟨l,hn,h0,hw⟩:=h;have Aj:Wd Γ (l.map (fun e=>B2.own e.2 205 2 ((N e.1).map Q1))++(G1 bm l::S)) w:=hw.perm List.perm_middle.symm
 obtain⟨Γ',hle,hr,hw3⟩:=Ei l Aj
 refine⟨Γ',l,hle,fun x v hv=>?_,hw3⟩
 rcases hv with hv|⟨hv,rfl⟩
 ·have:=(Ag hn hv).mem_iff.2 (List.mem_cons_self ..)
  exact hr _ this
 ·rw[h0 x hv];exact Yy
theorem IY(l:List (Int×Value))(x:Int):∃v,Ar l x v:=by
 cases h:F1 l x with
 | some v=>exact⟨v,.inl h⟩
 | none=>exact⟨_,.inr ⟨h,rfl⟩⟩
def Z9(ls:List G3):Prop:=ls.length≤1000∧∀l∈ls,0≤l.A∧l.A<64∧0≤l.B∧l.B<64∧1≤l.Latency∧l.Latency≤1000000
theorem Hd{ls:List G3}{s:Int}(h:Z9 ls)(hs:0≤s∧s<64):PE (D8 ls) s 1000000:=⟨fun x q hq=>by
 unfold D8 at hq;obtain⟨l,hl,hq⟩:=List.mem_flatMap.1 hq
 have:=h.2 l hl
 rcases List.mem_append.1 hq with hq|hq
 ·split at hq
  ·simp only[List.mem_singleton]at hq;subst hq;simp only[];omega
  ·simp at hq
 ·split at hq
  ·simp only[List.mem_singleton]at hq;subst hq;simp only[];omega
  ·simp at hq,hs⟩
theorem Kt{Γ:C8}{u:Value}{H:H1}[hh:Cl Γ u H](hL:Z9 H.Links){s:Int}(hs:0≤s∧s<64){w:World}(hw:Wd Γ [] w) :
  Calls Tryz.prog 70 #[u,.int .i64 s] w fun e w'=>∃Γ' v O,Γ.le Γ'∧e=.returned v∧O.length=64∧(∀x,0≤x→x<64→Na (D8 H.Links) s x (BZ O x)∧BZ O x≤128001000000)∧Wd Γ' [.own v 3 1 (A8 O)] w':=by
 have hc:=hL.1
 have hn:=Hd hL hs
 refine A9 Tryz.func70 rfl rfl ?_
 have hh':=hh
 obtain⟨a1,n1,c1,a2,n2,c2,a3,n3,c3,a4,n4,c4,a5,n5,c5,cs,rfl,-⟩:=hh.h;refine A6 ?_;refine H9 ?_;intro b2 w hw;have hw:Wd Γ [.blk b2 (.cells #[.string H.Name,.slice a1 n1 c1,.slice a2 n2 c2,.slice a3 n3 c3,.slice a4 n4 c4,.slice a5 n5 c5] 69)] w:=hw
 refine A6 ?_;refine OT ?_
 refine A6 ?_;refine D3 ((EB (H:=H) hc hw).mono fun e w hq=>?_)
 obtain⟨bm,rfl,hA⟩:=hq;clear hw;obtain⟨Γ1,l,hle,hrep,hw⟩:=Jz hA
 refine⟨_,rfl,?_⟩;refine A6 ?_;refine GG (len:=64) ?_
 intro ao w hw;have hw:Wd Γ1 [.own (.slice (some ao) 64 64) 3 1 (A8 (List.replicate 64 0)),G1 bm l,.blk b2 (.cells #[.string H.Name,.slice a1 n1 c1,.slice a2 n2 c2,.slice a3 n3 c3,.slice a4 n4 c4,.slice a5 n5 c5] 69)] w:=hw
 refine A6 ?_;refine B5 (fun μ ρ w=>∃(k:Nat) (O:List Int),μ+k=64∧O.length=64∧(∀i,i<k→O[i]? = some (-1))∧Has ρ [(1,.int .i64 s),(5,.map (some bm)),(6,.slice (some ao) 64 64),(17,.int .i64 (64:Nat)),(18,.int .i64 k)]∧Wd Γ1 [.own (.slice (some ao) 64 64) 3 1 (A8 O),G1 bm l,.blk b2 (.cells #[.string H.Name,.slice a1 n1 c1,.slice a2 n2 c2,.slice a3 n3 c3,.slice a4 n4 c4,.slice a5 n5 c5] 69)] w) 64 ⟨0,_,by omega,by simp,fun i h=>by omega,⟨rfl,rfl,rfl,rfl,rfl,trivial⟩,hw⟩ ?_
 clear hw;rintro μ ρ w ⟨k,O,hk,hO,hall,hρ,hw⟩
 rw[hρ.eq];clear hρ;refine A6 ?_;refine A7 rfl (fun h=>?_) (fun h=>?_)
 ·have hkn:k<64:=by have:=of_decide_eq_true h;omega
  clear h;refine A6 ?_;refine Cq (k:=k) (r:=[.int .i64 (-1)]) ?_
  intro w hw;have hw:Wd Γ1 [.own (.slice (some ao) 64 64) 3 1 (A8 (O.set k (-1))),G1 bm l,.blk b2 (.cells #[.string H.Name,.slice a1 n1 c1,.slice a2 n2 c2,.slice a3 n3 c3,.slice a4 n4 c4,.slice a5 n5 c5] 69)] w:=by
   have e:A8 (O.set k (-1))=(A8 O).set k [.int .i64 (-1)]:=by unfold A8;rw[List.map_set]
   rw[e];exact hw
  refine A6 ?_;refine⟨μ-1,by omega,k+1,O.set k (-1),by omega,by simp[hO],fun i hi=>?_,⟨rfl,rfl,rfl,rfl,rfl,trivial⟩,hw⟩
  rw[List.getElem?_set];by_cases e:k=i
  ·subst e;rw[if_pos rfl,if_pos (by omega)]
  ·rw[if_neg e];exact hall i (by omega)
 have hkn:¬k<64:=by have:=of_decide_eq_false h;omega
 have hO2:O=List.replicate 64 (-1):=by
  refine List.ext_getElem? fun i=>?_
  rw[List.getElem?_replicate];by_cases e:i<64
  ·rw[if_pos e];exact hall i (by omega)
  ·rw[if_neg e,List.getElem?_eq_none (by omega)]
 subst hO2;clear h hkn hall hO hk;refine A6 ?_;refine B6 [] ?_
 intro aq w hw;refine H9 ?_;intro bq w hw;have hw:Wd Γ1 [Bp bq (.slice (some aq) 0 0),.own (.slice (some aq) 0 0) 205 2 (([]:List Pl).map Q1),.own (.slice (some ao) 64 64) 3 1 (A8 (List.replicate 64 (-1))),G1 bm l,.blk b2 (.cells #[.string H.Name,.slice a1 n1 c1,.slice a2 n2 c2,.slice a3 n3 c3,.slice a4 n4 c4,.slice a5 n5 c5] 69)] w:=hw
 refine lY (v:=VK bq) ?_ (hy:=S0 rfl)
 refine A6 ?_;refine VH ((OY (n:=s) (d:=0) (by simp) (fun k h1 h2=>by simp at h2) hw).mono fun e w hq=>?_)
 obtain⟨rfl,v0,xs0,hp0,hh0,hw⟩:=hq;refine⟨_,rfl,?_⟩;refine A6 ?_;refine Te ?_
 refine A6 ?_;generalize hM0:1+JX (D8 H.Links) (List.replicate 64 (-1)) 64=M0
 have hMb:M0≤128001:=by
  have:=Sz (nb:=D8 H.Links) (O:=List.replicate 64 (-1)) (B:=2000) (fun x=>by have:=NO (ls:=H.Links) (x:=x);omega) 64
  omega
 have hl0:=hp0.length_eq
 simp only[List.length_singleton]at hl0
 refine B5 (fun μ ρ w=>∃(v:Value) (xs:List Pl) (O:List Int),μ=xs.length+JX (D8 H.Links) O 64∧μ≤M0∧l6 xs xs.length∧TP (D8 H.Links) s O xs∧(∀p∈xs,p.2+1000000*(μ:Int)≤1000000*(M0:Int))∧(∀z,0≤z→BZ O z≤1000000*(M0:Int))∧Has ρ [(5,.map (some bm)),(6,.slice (some ao) 64 64),(8,VK bq)]∧Wd Γ1 [Bp bq v,.own v 205 2 (xs.map Q1),.own (.slice (some ao) 64 64) 3 1 (A8 O),G1 bm l,.blk b2 (.cells #[.string H.Name,.slice a1 n1 c1,.slice a2 n2 c2,.slice a3 n3 c3,.slice a4 n4 c4,.slice a5 n5 c5] 69)] w) (xs0.length+JX (D8 H.Links) (List.replicate 64 (-1)) 64) ⟨v0,xs0,List.replicate 64 (-1),rfl,by omega,hh0,?_,?_,fun z _=>by rw[HR];omega,⟨rfl,rfl,rfl,trivial⟩,hw⟩ ?_
 ·have e:=List.perm_singleton.1 hp0
  rw[e];exact TP.init
 ·intro p hp;have e:=List.perm_singleton.1 hp0
  rw[e]at hp;simp only[List.mem_singleton]at hp;subst hp
  simp only[]
  omega
 clear hw hp0 hh0 hl0;rintro μ ρ w ⟨v,xs,O,hμ,hμM,hheap,hD,hbd,hOb,hρ,hw⟩
 rw[hρ.eq];clear hρ;refine A6 ?_;refine VH ((SP hw).mono fun e w hq=>?_)
 obtain⟨rfl,hw⟩:=hq;refine⟨_,rfl,?_⟩;refine A6 ?_;refine A7 rfl (fun h=>?_) (fun h=>?_)
 ·have h:(!decide ((xs.length:Int)=0))=true:=h
  have hne:xs≠[]:=fun e=>by subst e;simp at h
  clear h;refine A6 ?_;refine VH ((VQ (by omega) hne hheap hw).mono fun e w hq=>?_)
  obtain⟨x,v,ys,rfl,hp,hmin,hhy,hw⟩:=hq;refine⟨_,rfl,?_⟩;have hpl:=hp.length_eq
  simp only[List.length_cons]at hpl
  have hxm:x∈xs:=hp.mem_iff.1 (by simp)
  have hwx:=hD.way x hxm
  obtain⟨x0,x1⟩:=hwx.rng hn
  have hxn:=hwx.nonneg hn
  have hxb:=hbd x hxm
  obtain⟨y,hy⟩:=B4 (l:=O) (k:=x.1.toNat) (by have:=hD.len;omega)
  have hoy:BZ O x.1=y:=by unfold BZ;rw[List.getD_eq_getElem?_getD,hy];rfl
  refine A6 ?_;refine A7 rfl (fun h=>?_) (fun h=>?_)
  ·have h:0≤y:=of_decide_eq_true h
   refine A6 ?_;refine⟨μ-1,by omega,v,ys,O,by omega,by omega,hhy,hD.skip hp (by omega),fun p hpm=>?_,hOb,⟨rfl,rfl,rfl,trivial⟩,hw⟩
   have:=hbd p (hp.mem_iff.1 (by simp[hpm]))
   omega
  ·have h:¬0≤y:=of_decide_eq_false h
   refine A6 ?_;refine Cq (k:=x.1.toNat) (r:=[.int .i64 x.2]) ?_
   intro w hw;have hw:Wd Γ1 [Bp bq v,.own v 205 2 (ys.map Q1),.own (.slice (some ao) 64 64) 3 1 (A8 (O.set x.1.toNat x.2)),G1 bm l,.blk b2 (.cells #[.string H.Name,.slice a1 n1 c1,.slice a2 n2 c2,.slice a3 n3 c3,.slice a4 n4 c4,.slice a5 n5 c5] 69)] w:=by
    have e:A8 (O.set x.1.toNat x.2)=(A8 O).set x.1.toNat [.int .i64 x.2]:=by unfold A8;rw[List.map_set]
    rw[e];exact hw
   obtain⟨va,hva⟩:=IY l x.1
   have hra:=hrep x.1 va hva
   obtain⟨aa,na,ca,rfl,hna,hnca,hca⟩:=hra.shape;simp only[List.length_map]at hna
   have hdeg:=Oi (nb:=D8 H.Links) (d:=x.2) hD.len (p:=x.1.toNat) (by omega) (by unfold BZ at hoy;omega) hxn 64
   rw[if_pos (by omega),show ((x.1.toNat:Nat):Int)=x.1 by omega]at hdeg
   refine A6 ?_;refine lY (v:=.slice aa na ca) ?_ (hy:=M5 hw hva (i:=3) rfl rfl rfl)
   refine A6 ?_;refine B5 (fun μ2 ρ w=>∃(k:Nat) (v:Value) (zs:List Pl),μ2+k=na∧zs.Perm (((D8 H.Links x.1).take k).map (fun q=>(q.1,x.2+q.2))++ys)∧l6 zs zs.length∧Has ρ [(5,.map (some bm)),(6,.slice (some ao) 64 64),(8,VK bq),(10,.int .i64 x.2),(50,.slice aa na ca),(51,.int .i64 na),(52,.int .i64 k)]∧Wd Γ1 [Bp bq v,.own v 205 2 (zs.map Q1),.own (.slice (some ao) 64 64) 3 1 (A8 (O.set x.1.toNat x.2)),G1 bm l,.blk b2 (.cells #[.string H.Name,.slice a1 n1 c1,.slice a2 n2 c2,.slice a3 n3 c3,.slice a4 n4 c4,.slice a5 n5 c5] 69)] w) na ⟨0,v,ys,by omega,.refl _,hhy,⟨rfl,rfl,rfl,rfl,rfl,rfl,rfl,trivial⟩,hw⟩ ?_
   clear hw hhy;rintro μ2 ρ w ⟨k,v,zs,hk,hz,hhz,hρ,hw⟩
   have hzl:=hz.length_eq
   simp only[List.length_append,List.length_map,List.length_take]at hzl
   rw[hρ.eq];clear hρ;refine A6 ?_;refine A7 rfl (fun h=>?_) (fun h=>?_)
   ·have hkn:k<na:=by have:=of_decide_eq_true h;omega
    clear h;obtain⟨q,hq⟩:=B4 (l:=D8 H.Links x.1) (k:=k) (by omega)
    obtain⟨q0,q1,q2,q3⟩:=hn.rng x.1 q (List.mem_of_getElem? hq)
    refine A6 ?_;refine C0 ?_;intro b12 w hw;refine B1 ?_;intro w hw;have hw:Wd Γ1 [.blk b12 (.cells (Q1 q).toArray 205),Bp bq v,.own v 205 2 (zs.map Q1),.own (.slice (some ao) 64 64) 3 1 (A8 (O.set x.1.toNat x.2)),G1 bm l,.blk b2 (.cells #[.string H.Name,.slice a1 n1 c1,.slice a2 n2 c2,.slice a3 n3 c3,.slice a4 n4 c4,.slice a5 n5 c5] 69)] w:=hw
    refine A6 ?_;refine VH ((OY (n:=q.1) (d:=x.2+q.2) (by omega) hhz (hw.ps [2,2])).mono fun e w hq2=>?_)
    obtain⟨rfl,v',ws,hp2,hh2,hw⟩:=hq2;refine⟨_,rfl,?_⟩;have hw:=hw.ds [2]
    refine A6 ?_;refine⟨μ2-1,by omega,k+1,v',ws,by omega,?_,hh2,⟨rfl,rfl,rfl,rfl,rfl,rfl,rfl,trivial⟩,hw⟩
    rw[C9 hq,List.map_append,List.append_assoc];exact hp2.trans ((hz.cons _).trans List.perm_middle.symm)
   ·have hkn:¬k<na:=by have:=of_decide_eq_false h;omega
    rw[List.take_of_length_le (by omega)]at hz
    have hzl:=hz.length_eq
    simp only[List.length_append,List.length_map]at hzl
    have hD2:=hD.settle hn hp hmin (by omega) hz
    refine A6 ?_;refine⟨μ-1,by omega,v,zs,O.set x.1.toNat x.2,by omega,by omega,hhz,hD2,fun p hpm=>?_,fun z hz0=>by rw[UK hD.len x0 x1 hz0];split;(· omega);exact hOb z hz0,⟨rfl,rfl,rfl,trivial⟩,hw⟩
    rcases List.mem_append.1 (hz.mem_iff.1 hpm) with hpm|hpm
    ·obtain⟨q,hq,rfl⟩:=List.mem_map.1 hpm
     have:=(hn.rng _ _ hq).2.2.2
     simp only[]
     omega
    ·have:=hbd p (hp.mem_iff.1 (by simp[hpm]))
     omega
 ·have h:(!decide ((xs.length:Int)=0))=false:=h
  have he:xs=[]:=by
   have h:decide ((xs.length:Int)=0)=true:=by simpa using h
   have:=of_decide_eq_true h
   exact List.length_eq_zero_iff.1 (by omega)
  subst he;refine A6 ?_;exact⟨_,rfl,Γ1,_,O,hle,rfl,hD.len,fun x h0 h1=>⟨hD.final hn h0 h1,by have:=hOb x h0;omega⟩,hw.ds [0,0,1,1]⟩
theorem x7{Γ:C8}{u:Value}{H:H1}[hh:Cl Γ u H](hL:Z9 H.Links){s:Int}(hs:0≤s∧s<64){S:List B2}{w:World}(hw:Wd Γ S w) :
  Calls Tryz.prog 70 #[u,.int .i64 s] w fun e w'=>∃v O,e=.returned v∧O.length=64∧(∀x,0≤x→x<64→Na (D8 H.Links) s x (BZ O x)∧BZ O x≤128001000000)∧Wd Γ (.own v 3 1 (A8 O)::S) w':=by
 haveI:Cl (dn Γ w) u H:=hh.mono (RS hw)
 refine(Kt (Γ:=dn Γ w) hL hs (Ru hw)).mono fun e w' hq=>?_
 obtain⟨Γ',v,O,hle,rfl,hO,hd,hw'⟩:=hq;exact⟨v,O,rfl,hO,hd,Jw (R:=[_]) hw hle Ld hw'⟩
noncomputable def K0(nb:Int→List Pl)(s x:Int):Int:=@Classical.epsilon _ ⟨(0:Int)⟩ (Na nb s x)
theorem Na.eq{nb:Int→List Pl}{s x d:Int}(h:Na nb s x d):K0 nb s x=d:=(Classical.epsilon_spec_aux ⟨0⟩ (Na nb s x) ⟨d,h⟩).uniq h
theorem IE{H:H1}(h:F3 H=0):AF H=true∧U1 H=true∧(M4 H&&J2 H)=true∧x5 H=true∧Y7 H=true∧As H=true∧Jt H=true∧Kj H=true∧Ig H=true:=by
 unfold F3 at h;by_cases e1:AF H=false
 ·rw[if_pos e1]at h;cases h
 rw[if_neg e1]at h;by_cases e2:U1 H=false
 ·rw[if_pos e2]at h;cases h
 rw[if_neg e2]at h;by_cases e3:(M4 H&&J2 H)=false
 ·rw[if_pos e3]at h;cases h
 rw[if_neg e3]at h;by_cases e4:x5 H=false
 ·rw[if_pos e4]at h;cases h
 rw[if_neg e4]at h;by_cases e5:Y7 H=false
 ·rw[if_pos e5]at h;cases h
 rw[if_neg e5]at h;by_cases e6:As H=false
 ·rw[if_pos e6]at h;cases h
 rw[if_neg e6]at h;by_cases e7:Jt H=false
 ·rw[if_pos e7]at h;cases h
 rw[if_neg e7]at h;by_cases e8:Kj H=false
 ·rw[if_pos e8]at h;cases h
 rw[if_neg e8]at h;by_cases e9:Ig H=false
 ·rw[if_pos e9]at h;cases h
 exact⟨by simpa using e1,by simpa using e2,by simpa using e3,by simpa using e4,by simpa using e5,by simpa using e6,by simpa using e7,by simpa using e8,by simpa using e9⟩
theorem T6{H:H1}(h:F3 H=0):Z9 H.Links:=by
 obtain⟨-,h2,h3,-⟩:=IE h
 obtain⟨-,-,-,l3,-⟩:=w5 h2
 refine⟨by omega,fun l hl=>?_⟩
 unfold M4 at h3;simp only[Bool.and_eq_true]at h3
 have:=List.all_eq_true.1 h3.1.2.2 l hl
 simp[Au,K3,AE]at this
 omega
noncomputable def W0(H:H1)(a b:Int):Int:=if F3 H=0 then (if a<0∨64≤a∨b<0∨64≤b then 6 else 0) else F3 H
instance gD{Γ:C8}{u:Value}{H:H1}[hh:Cl Γ u H](a b:Int):PG Tryz.prog Γ 73 [u,.int .i64 a,.int .i64 b] (.int .i64 (W0 H a b)):=⟨fun S w hw=>by
 have hh':=hh
 obtain⟨a1,n1,c1,a2,n2,c2,a3,n3,c3,a4,n4,c4,a5,n5,c5,cs,rfl,-⟩:=hh.h;refine A9 Tryz.func73 rfl rfl ?_
 refine A6 ?_;refine H9 ?_;intro b1 w hw;have hw:Wd Γ (.blk b1 (.cells #[.string H.Name,.slice a1 n1 c1,.slice a2 n2 c2,.slice a3 n3 c3,.slice a4 n4 c4,.slice a5 n5 c5] 69)::S) w:=hw
 unfold W0;repeat first|refine U9 ?_|refine V5 ?_;intro w hw
 refine A7 rfl (fun h=>?_) (fun h=>?_)
 ·have h:¬F3 H=0:=by simpa using h
  rw[if_neg h];refine A6 ?_;exact⟨_,rfl,rfl,hw.drop⟩
 ·have h:F3 H=0:=by simpa using h
  rw[if_pos h];refine A6 ?_;refine A7 rfl (fun h2=>?_) (fun h2=>?_)
  ·have h2:(((decide (a<0)||decide (a≥64))||decide (b<0))||decide (b≥64))=true:=h2
   rw[if_pos (by simp at h2;omega)]
   refine A6 ?_;exact⟨_,rfl,rfl,hw.drop⟩
  ·have h2:(((decide (a<0)||decide (a≥64))||decide (b<0))||decide (b≥64))=false:=h2
   rw[if_neg (by simp at h2;omega)]
   refine A6 ?_;exact⟨_,rfl,rfl,hw.drop⟩⟩
noncomputable def Gz(H:H1)(a b:Int):Int×Int:=if W0 H a b=0 then (if K0 (D8 H.Links) a b<0 then (0,60) else (K0 (D8 H.Links) a b,0)) else (0,W0 H a b)
theorem Pg{H:H1}{a b:Int}(h:W0 H a b=0):F3 H=0∧0≤a∧a<64∧0≤b∧b<64:=by
 unfold W0 at h;by_cases e:F3 H=0
 ·rw[if_pos e]at h;by_cases e2:a<0∨64≤a∨b<0∨64≤b
  ·rw[if_pos e2]at h;cases h
  ·exact⟨e,by omega,by omega,by omega,by omega⟩
 ·rw[if_neg e]at h;exact absurd h e
instance Ot{Γ:C8}{u:Value}{H:H1}[hh:Cl Γ u H](a b:Int):PG Tryz.prog Γ 21 [u,.int .i64 a,.int .i64 b] (.tuple #[.int .i64 (Gz H a b).1,.int .i64 (Gz H a b).2]):=⟨fun S w hw=>by
 have hh':=hh
 obtain⟨a1,n1,c1,a2,n2,c2,a3,n3,c3,a4,n4,c4,a5,n5,c5,cs,rfl,-⟩:=hh.h;refine A9 Tryz.func21 rfl rfl ?_
 refine A6 ?_;refine H9 ?_;intro b1 w hw;have hw:Wd Γ (.blk b1 (.cells #[.string H.Name,.slice a1 n1 c1,.slice a2 n2 c2,.slice a3 n3 c3,.slice a4 n4 c4,.slice a5 n5 c5] 69)::S) w:=hw
 unfold Gz;repeat first|refine U9 ?_|refine V5 ?_;intro w hw
 refine A7 rfl (fun h=>?_) (fun h=>?_)
 ·have h:¬W0 H a b=0:=by simpa using h
  rw[if_neg h];refine A6 ?_;exact⟨_,rfl,rfl,hw.drop⟩
 have h:W0 H a b=0:=by simpa using h
 rw[if_pos h];obtain⟨hv,ha0,ha1,hb0,hb1⟩:=Pg h
 refine A6 ?_;refine D3 ((x7 (H:=H) (T6 hv) ⟨ha0,ha1⟩ hw).mono fun e w hq=>?_)
 obtain⟨v,O,rfl,hO,hd,hw⟩:=hq;obtain⟨ao,no,co,rfl,hno,hnc,-⟩:=hw.own_shape (i:=0) rfl
 simp only[A8,List.length_map]at hno
 obtain⟨y,hy⟩:=B4 (l:=O) (k:=b.toNat) (by omega)
 have hyb:BZ O b=y:=by unfold BZ;rw[List.getD_eq_getElem?_getD,hy];rfl
 have hdb:=(hd b hb0 hb1).1
 rw[hyb]at hdb;rw[hdb.eq];refine⟨_,rfl,?_⟩;refine A6 ?_;refine A7 rfl (fun h=>?_) (fun h=>?_)
 ·have h:y<0:=of_decide_eq_true h
  rw[if_pos h];refine A6 ?_;exact⟨_,rfl,rfl,hw.ds [0,0]⟩
 ·have h:¬y<0:=of_decide_eq_false h
  rw[if_neg h];refine A6 ?_;exact⟨_,rfl,rfl,hw.ds [0,0]⟩⟩
def CN(left:Int→Int)(c nx:Int)(q:Pl):Int:=if q.2+left q.1=left c∧(nx<0∨q.1<nx) then q.1 else nx
def Jv(nb:Int→List Pl)(left:Int→Int)(c:Int):Int:=(nb c).foldl (CN left c) (-1)
inductive MU (nb:Int→List Pl) (left:Int→Int) (b:Int):Int→List Int→Prop
 | nil:MU nb left b b []
 | cons {c:Int} {l:List Int}:c≠b→MU nb left b (Jv nb left c) l→MU nb left b c (Jv nb left c::l)
theorem IF{left : Int → Int}{c : Int} : ∀ (l : List Pl) (nx : Int), (nx = -1 ∨ 0 ≤ nx) → (∀ q ∈ l, 0 ≤ q.1) →
    (l.foldl (CN left c) nx=nx∧∀q∈l,q.2+left q.1=left c→0≤nx∧nx≤q.1) ∨
    (∃q∈l,q.2+left q.1=left c∧l.foldl (CN left c) nx=q.1∧(∀r∈l,r.2+left r.1=left c→q.1≤r.1)∧(0≤nx→q.1≤nx))
  | [],nx,_,_=>.inl ⟨rfl,by simp⟩
  | q::l,nx,hx,hl=>by
    have hq0:=hl q (by simp)
    rw[List.foldl_cons];by_cases e:q.2+left q.1=left c∧(nx<0∨q.1<nx)
    · have hs:CN left c nx q=q.1:=by unfold CN;rw[if_pos e]
      rw[hs];rcases IF l q.1 (.inr hq0) (fun r hr=>hl r (by simp[hr])) with⟨h1,h2⟩|⟨r,hr,h1,h2,h3,h4⟩
      · refine .inr ⟨q,by simp,e.1,h1,fun r hr he=>?_,fun h0=>by omega⟩
        rcases List.mem_cons.1 hr with rfl|hr
        · omega
        · exact(h2 r hr he).2
      · refine .inr ⟨r,by simp[hr],h1,h2,fun t ht he=>?_,fun h0=>by have:=h4 hq0;omega⟩
        rcases List.mem_cons.1 ht with rfl|ht
        · exact h4 hq0
        · exact h3 t ht he
    · have hs:CN left c nx q=nx:=by unfold CN;rw[if_neg e]
      rw[hs];rcases IF l nx hx (fun r hr=>hl r (by simp[hr])) with⟨h1,h2⟩|⟨r,hr,h1,h2,h3,h4⟩
      · refine .inl ⟨h1,fun r hr he=>?_⟩
        rcases List.mem_cons.1 hr with rfl|hr
        · constructor <;> · have : ¬ (nx < 0 ∨ r.1 < nx) := fun hh => e ⟨he, hh⟩
                            omega
        · exact h2 r hr he
      · refine .inr ⟨r,by simp[hr],h1,h2,fun t ht he=>?_,h4⟩
        rcases List.mem_cons.1 ht with rfl|ht
        · have:¬(nx<0∨t.1<nx):=fun hh=>e ⟨he,hh⟩
          have:=h4 (by omega)
          omega
        · exact h3 t ht he
theorem Tf{ls:List G3}{x:Int}{q:Pl}(h:q∈D8 ls x):(x,q.2)∈D8 ls q.1:=by
 unfold D8 at h ⊢
 obtain⟨l,hl,hq⟩:=List.mem_flatMap.1 h
 refine List.mem_flatMap.2 ⟨l,hl,?_⟩
 rcases List.mem_append.1 hq with hq|hq
 ·split at hq
  ·rename_i e;simp only[List.mem_singleton]at hq;subst hq;subst e;simp
  ·simp at hq
 ·split at hq
  ·rename_i e;simp only[List.mem_singleton]at hq;subst hq;subst e;simp
  ·simp at hq
theorem Tw{ls:List G3}{x:Int}{q:Pl}(hL:Z9 ls)(h:q∈D8 ls x):1≤q.2:=by
 unfold D8 at h;obtain⟨l,hl,hq⟩:=List.mem_flatMap.1 h
 have:=hL.2 l hl
 rcases List.mem_append.1 hq with hq|hq <;>
 ·split at hq
  ·simp only[List.mem_singleton]at hq;subst hq;simp only[];omega
  ·simp at hq
theorem cQ{ls:List G3}{b c:Int}{left:Int→Int}(hL:Z9 ls)(hb:0≤b∧b<64)(hl:∀x,0≤x→x<64→Na (D8 ls) b x (left x))(hc:0≤c∧c<64)(h0:0≤left c)(hne:c≠b) :
  ∃q∈D8 ls c,q.2+left q.1=left c∧Jv (D8 ls) left c=q.1∧(∀r∈D8 ls c,r.2+left r.1=left c→q.1≤r.1)∧0≤left q.1∧1≤q.2∧0≤q.1∧q.1<64:=by
 have hn:=Hd hL hb
 have hex:∃q∈D8 ls c,q.2+left q.1=left c:=by
  rcases hl c hc.1 hc.2 with⟨_,h1,h2⟩|⟨h1,-⟩
  ·generalize hd:left c=d at *
   cases h1 with
   | refl=>exact(hne rfl).elim
   | @step x d' q hx hq=>
    have hxr:=hx.rng hn
    refine⟨(x,q.2),Tf hq,?_⟩
    have hxn:=hx.nonneg hn
    rcases hl x hxr.1 hxr.2 with⟨_,k1,k2⟩|⟨_,k2⟩
    ·have:=k2 _ hx
     have:=h2 _ (k1.step hq)
     simp only[]
     omega
    ·exact(k2 _ hx).elim
  ·omega
 obtain⟨q0,hq0,hq1⟩:=hex;have hz:=hn.rng c
 rcases IF (left:=left) (c:=c) (D8 ls c) (-1) (.inl rfl) (fun q hq=>(hz q hq).1) with⟨h1,h2⟩|⟨q,hq,h1,h2,h3,-⟩
 ·have:=(h2 q0 hq0 hq1).1;omega
 ·refine⟨q,hq,h1,h2,h3,?_,Tw hL hq,(hz q hq).1,(hz q hq).2.1⟩
  rcases hl q.1 (hz q hq).1 (hz q hq).2.1 with⟨k0,-,-⟩|⟨k1,k2⟩
  ·exact k0
  ·rcases hl c hc.1 hc.2 with⟨_,m1,-⟩|⟨m1,-⟩
   ·exact(k2 _ (m1.step hq)).elim
   ·omega
end Go.Proofs.YtlimglpjpcfpdaaGreat
end
section
open Go Mk
namespace Go.Proofs.YtlimglpjpcfpdaaGreat
theorem Way.least{nb:Int→List Pl}{s L:Int}(hn:PE nb s L){x:Int}:∀(n:Nat) (d:Int),Way nb s x d→d.toNat≤n→∃m,Way nb s x m∧∀d',Way nb s x d'→m≤d'
 | 0,d,h,hd=>⟨d,h,fun d' h'=>by have:=h'.nonneg hn;have:=h.nonneg hn;omega⟩
 | n+1,d,h,hd=>by
  by_cases e:∃d',Way nb s x d'∧d'<d
  ·obtain⟨d',h',hlt⟩:=e;have:=h'.nonneg hn
   exact Way.least hn n d' h' (by omega)
  ·exact⟨d,h,fun d' h'=>by
    by_cases hlt:d'<d
    ·exact(e ⟨d',h',hlt⟩).elim
    ·omega⟩
theorem Kq{nb:Int→List Pl}{s L:Int}(hn:PE nb s L)(x:Int):Na nb s x (K0 nb s x):=by
 have:∃d,Na nb s x d:=by
  by_cases h:∃d,Way nb s x d
  ·obtain⟨d,h⟩:=h;obtain⟨m,h1,h2⟩:=Way.least hn d.toNat d h (Nat.le_refl _)
   exact⟨m,.inl ⟨h1.nonneg hn,h1,h2⟩⟩
  ·exact⟨-1,.inr ⟨rfl,fun d hd=>h ⟨d,hd⟩⟩⟩
 obtain⟨d,hd⟩:=this;rw[hd.eq];exact hd
noncomputable def Pe(nb:Int→List Pl)(s k:Int):Nat:=(List.range 64).countP fun y:Nat=>decide (0≤K0 nb s y)&&decide (K0 nb s y≤k)
theorem LY{α:Type}{p q:α→Bool}:∀(l:List α),(∀x∈l,p x=true→q x=true)→(∃x∈l,q x=true∧p x=false)→l.countP p+1≤l.countP q
 | [],_,⟨x,hx,_⟩=>by simp at hx
 | y::l,h,⟨x,hx,h1,h2⟩=>by
  rw[List.countP_cons,List.countP_cons];have hle:l.countP p≤l.countP q:=List.countP_mono_left fun x hx=>h x (by simp[hx])
  have hy:=h y (by simp)
  rcases List.mem_cons.1 hx with rfl|hx
  ·rw[h1,h2];simp;omega
  ·have ih:=LY l (fun x hx=>h x (by simp[hx])) ⟨x,hx,h1,h2⟩
   by_cases e:p y=true
   ·rw[e,hy e];simp;omega
   ·have e:p y=false:=by simpa using e
    rw[e];simp only[Bool.false_eq_true,if_false];omega
theorem Vz{ls:List G3}{s:Int}(hL:Z9 ls)(hs:0≤s∧s<64):∀(n:Nat) (x:Int),(K0 (D8 ls) s x).toNat≤n→0≤K0 (D8 ls) s x→K0 (D8 ls) s x+1000000≤1000000*(Pe (D8 ls) s (K0 (D8 ls) s x):Int):=by
 have hn:=Hd hL hs
 have hself:∀x,0≤x→x<64→0≤K0 (D8 ls) s x→1≤Pe (D8 ls) s (K0 (D8 ls) s x):=fun x h0 h1 hd=>by
  unfold Pe;refine List.countP_pos_iff.2 ⟨x.toNat,by simp;omega,?_⟩
  rw[show ((x.toNat:Nat):Int)=x by omega]
  simp[hd]
 intro n;induction n with
 | zero=>
  intro x hx h0;have hr:0≤x∧x<64:=by
   rcases Kq hn x with⟨-,h,-⟩|⟨h,-⟩
   ·exact h.rng hn
   ·omega
  have:=hself x hr.1 hr.2 h0
  omega
 | succ n ih=>
  intro x hx h0;rcases Kq hn x with⟨-,hw,hmin⟩|⟨h,-⟩
  ·have hr:=hw.rng hn
   generalize hd:K0 (D8 ls) s x=d at *
   cases hw with
   | refl=>
    have:=hself s hs.1 hs.2 (by omega)
    rw[hd]at this;omega
   | @step u d' q hu hq=>
    have hur:=hu.rng hn
    have hqp:=Tw hL hq
    have hqr:=hn.rng _ _ hq
    rcases Kq hn u with⟨hu0,hu1,hu2⟩|⟨-,h⟩
    ·have e1:=hu2 _ hu
     have e2:=hmin _ (hu1.step hq)
     have hi:=ih u (by omega) hu0
     have hc:Pe (D8 ls) s (K0 (D8 ls) s u)+1≤Pe (D8 ls) s (d'+q.2):=by
      unfold Pe;refine LY _ (fun y _ hy=>?_) ⟨q.1.toNat,by simp;omega,?_,?_⟩
      ·simp at hy ⊢;omega
      ·rw[show ((q.1.toNat:Nat):Int)=q.1 by omega,hd];simp;omega
      ·rw[show ((q.1.toNat:Nat):Int)=q.1 by omega,hd];simp;omega
     omega
    ·exact(h _ hu).elim
  ·omega
theorem SN{ls:List G3}{s x:Int}(hL:Z9 ls)(hs:0≤s∧s<64):-1≤K0 (D8 ls) s x∧K0 (D8 ls) s x≤63000000:=by
 have hn:=Hd hL hs
 rcases Kq hn x with⟨h0,-⟩|⟨h,-⟩
 ·have:=Vz hL hs _ x (Nat.le_refl _) h0
  have h64:Pe (D8 ls) s (K0 (D8 ls) s x)≤64:=by
   unfold Pe;exact Nat.le_trans List.countP_le_length (by simp)
  omega
 ·omega
theorem Way.trans{nb:Int→List Pl}{s x d:Int}(h:Way nb s x d){y e:Int}(k:Way nb x y e):Way nb s y (d+e):=by
 induction k with
 | refl=>rw[Int.add_zero];exact h
 | step _ hq ih=>rw[←Int.add_assoc];exact ih.step hq
theorem Way.one{nb:Int→List Pl}{x:Int}{q:Pl}(h:q∈nb x):Way nb x q.1 q.2:=by
 have:=(Way.refl (nb:=nb) (s:=x)).step h
 rwa [Int.zero_add]at this
theorem Way.symm{ls:List G3}{s x d:Int}(h:Way (D8 ls) s x d):Way (D8 ls) x s d:=by
 induction h with
 | refl=>exact .refl
 | @step x d q _ hq ih=>
  have:=(Way.one (Tf hq)).trans ih
  simp only[]at this
  rwa [Int.add_comm]at this
theorem SI{ls:List G3}{l:G3}(h:l∈ls):(l.B,l.Latency)∈D8 ls l.A:=List.mem_flatMap.2 ⟨l,h,by simp⟩
theorem SF{ls:List G3}{l:G3}(h:l∈ls):(l.A,l.Latency)∈D8 ls l.B:=List.mem_flatMap.2 ⟨l,h,by simp⟩
theorem Ly{ls:List G3}{s x:Int}(h:Reach ls s x):∃d,Way (D8 ls) s x d:=by
 induction h with
 | refl=>exact⟨0,.refl⟩
 | ab hl _ ih=>obtain⟨d,ih⟩:=ih;exact⟨_,ih.step (SI hl)⟩
 | ba hl _ ih=>obtain⟨d,ih⟩:=ih;exact⟨_,ih.step (SF hl)⟩
theorem Ki{ls:List G3}{s a b:Int}(hL:Z9 ls)(ha:0≤a∧a<64)(h1:Reach ls s a)(h2:Reach ls s b):0≤K0 (D8 ls) a b:=by
 obtain⟨d,h1⟩:=Ly h1
 obtain⟨e,h2⟩:=Ly h2
 rcases Kq (Hd hL ha) b with⟨h,-⟩|⟨-,h⟩
 ·exact h
 ·exact(h _ (h1.symm.trans h2)).elim
abbrev Mx:=Int→Int→Int
section
variable {E:Mx}{m i k L:Int}
end
section
variable {E D:Mx}{m i k:Int}
end
section
variable {ls:List G3}{E:Mx}{m i k L:Int}
end
def y4(t:Int→Int)(a b:Int):Int:=Ew (cI (t b) (t a)) (cI a b)
theorem Sv{a b:Int}:cI a b<0↔a<b:=by unfold cI;split <;> (try split) <;> omega
theorem fY{a b:Int}:cI a b=0↔a=b:=by unfold cI;split <;> (try split) <;> omega
theorem TI{t:Int→Int}{a b:Int}:Go.Proofs.ltOf (y4 t) a b=true↔t b<t a∨(t a=t b∧a<b):=by
 unfold Go.Proofs.ltOf y4 Ew;rw[decide_eq_true_eq];by_cases h:cI (t b) (t a)=0
 ·rw[if_pos h,Sv];rw[fY]at h;omega
 ·rw[if_neg h,Sv];rw[fY]at h;omega
theorem Ch{t:Int→Int}{a b:Int}:Go.Proofs.ltOf (y4 t) a b=false↔t a<t b∨(t a=t b∧b≤a):=by
 have h:Go.Proofs.ltOf (y4 t) a b=false↔¬Go.Proofs.ltOf (y4 t) a b=true:=by simp
 rw[h,TI];omega
theorem WZ(t:Int→Int):Go.Sort.SWO (Go.Proofs.ltOf (y4 t)) where
 irrefl x:=by rw[Ch];omega
 trans x y z:=by simp only[TI];omega
 ntrans x y z:=by simp only[Ch];omega
theorem YR(t:Int→Int)(x y:Int)(h:Go.Proofs.ltOf (y4 t) x y=false)(k:Go.Proofs.ltOf (y4 t) y x=false):x=y:=by
 rw[Ch]at h k;omega
def CW(t:Int→Int)(l:List Int):List Int:=l.mergeSort fun x y=>!(Go.Proofs.ltOf (y4 t)) y x
theorem Av(t:Int→Int)(l:List Int):(CW t l).Perm l:=List.mergeSort_perm _ _
theorem ES{t t':Int→Int}{l:List Int}(h:∀a∈l,t a=t' a):CW t l=CW t' l:=by
 have:=List.map_mergeSort (f:=(id:Int→Int)) (r:=fun x y=>!(Go.Proofs.ltOf (y4 t)) y x) (s:=fun x y=>!(Go.Proofs.ltOf (y4 t')) y x) (l:=l) (fun a ha b hb=>by
  show (!(Go.Proofs.ltOf (y4 t)) b a)=(!(Go.Proofs.ltOf (y4 t')) b a)
  unfold Go.Proofs.ltOf y4;rw[h a ha,h b hb])
 simpa[CW] using this
theorem EU(t:Int→Int)(l:List Int):(CW t l).Pairwise fun x y=>t y<t x∨(t x=t y∧x≤y):=by
 have:=List.pairwise_mergeSort (le:=fun x y=>!(Go.Proofs.ltOf (y4 t)) y x) (fun a b c=>by simp only[Bool.not_eq_true',Ch];omega) (fun a b=>by simp only[Bool.or_eq_true,Bool.not_eq_true',Ch];omega) l
 refine this.imp fun h=>?_
 rw[Bool.not_eq_true',Ch]at h;omega
theorem LQ{t:Int→Int}{l l':List Int}(h:l.Perm l'):CW t l=CW t l':=by
 have p:(CW t l).Perm (CW t l'):=(Av t l).trans (h.trans (Av t l').symm)
 exact p.eq_of_pairwise (fun a b _ _ h k=>by omega) (EU t l) (EU t l')
section
variable (far:Int→Int→Int)(cost:Int)(ch:Int→List Int)
def j5(cost:Int)(t:Int→Int):Nat→Int→List Int→Int
 | _,m,[]=>m
 | i,m,c::l=>j5 cost t (i+1) (max m (((i:Int)+1)*cost+t c)) l
def hF:Nat→Int→Int
 | 0,_=>0
 | k+1,c=>j5 cost (fun d=>far c d+hF k d) 0 0 (CW (fun d=>far c d+hF k d) (ch c))
def Qq:Nat→Int→Prop
 | 0,_=>False
 | k+1,c=>∀d∈ch c,Qq k d
inductive Do:Int→Int→Prop
 | refl (c:Int):Do c c
 | step {c d x:Int}:d∈ch c→Do d x→Do c x
def hh(c:Int):Int:=hF far cost ch 4 c
def tl(c d:Int):Int:=far c d+hh far cost ch d
def AG(c:Int):List Int:=CW (tl far cost ch c) (ch c)
end
section
variable {far:Int→Int→Int}{cost:Int}{ch:Int→List Int}
theorem Qq.mono:∀ {k m:Nat} {c:Int},Qq ch k c→k≤m→Qq ch m c
 | 0,_,_,h,_=>h.elim
 | k+1,0,_,_,hm=>by omega
 | k+1,m+1,c,h,hm=>fun d hd=>Qq.mono (h d hd) (by omega)
theorem DV{t t':Int→Int}:∀ {l:List Int} {i:Nat} {m:Int},(∀a∈l,t a=t' a)→j5 cost t i m l=j5 cost t' i m l
 | [],_,_,_=>rfl
 | c::l,i,m,h=>by
  unfold j5;rw[h c (by simp)]
  exact DV fun a ha=>h a (by simp[ha])
theorem MC:∀ {k m:Nat} {c:Int},Qq ch k c→k≤m→hF far cost ch m c=hF far cost ch k c
 | 0,_,_,h,_=>h.elim
 | k+1,0,_,_,hm=>by omega
 | k+1,m+1,c,h,hm=>by
  have ht:∀d∈ch c,far c d+hF far cost ch m d=far c d+hF far cost ch k d:=fun d hd=>by rw[MC (h d hd) (by omega)]
  unfold hF;rw[ES ht];exact DV fun a ha=>ht a ((Av _ _).mem_iff.1 ha)
theorem dU{k:Nat}{c:Int}(hd:Qq ch k c)(hk:k≤4):hh far cost ch c=j5 cost (tl far cost ch c) 0 0 (AG far cost ch c):=by
 have hd4:Qq ch 4 c:=hd.mono hk
 unfold hh;rw[show (4:Nat)=3+1 from rfl];unfold hF;have ht:∀d∈ch c,far c d+hF far cost ch 3 d=tl far cost ch c d:=fun d hdm=>by
  unfold tl hh;rw[MC (hd4 d hdm) (show 3≤4 by omega)]
 rw[ES ht];exact DV fun a ha=>ht a ((Av _ _).mem_iff.1 ha)
theorem Do.trans{a b c:Int}(h:Do ch a b)(k:Do ch b c):Do ch a c:=by
 induction h with
 | refl=>exact k
 | step hd _ ih=>exact .step hd (ih k)
theorem Qq.rch{k:Nat}{a b:Int}(h:Do ch a b)(hd:Qq ch k a):Qq ch k b:=by
 induction h with
 | refl=>exact hd
 | step hm _ ih=>
  cases k with
  | zero=>exact hd.elim
  | succ k=>exact ih ((hd _ hm).mono (by omega))
theorem PD{c d:Int}(hd:d∈ch c)(hr:Do ch d c):∀ {k:Nat},¬Qq ch k c
 | 0,h=>h
 | k+1,h=>PD hd hr (k:=k) ((h d hd).rch hr)
theorem V2(c:Int):(AG far cost ch c).Perm (ch c):=Av _ _
noncomputable def KC(far:Int→Int→Int)(cost:Int)(ch:Int→List Int)(D:Int→Prop)(cur:Int→List Int):Int→List Int:=fun x=>@ite _ (D x) (Classical.propDecidable _) (AG far cost ch x) (cur x)
theorem DZ{D:Int→Prop}{cur:Int→List Int}{x:Int}(h:D x):KC far cost ch D cur x=AG far cost ch x:=if_pos h
theorem p9{D:Int→Prop}{cur:Int→List Int}{x:Int}(h:¬D x):KC far cost ch D cur x=cur x:=if_neg h
theorem cX{D D':Int→Prop}{cur:Int→List Int}:KC far cost ch D' (KC far cost ch D cur)=KC far cost ch (fun x=>D x∨D' x) cur:=by
 funext x
 by_cases h:D' x
 ·rw[DZ h,DZ (.inr h)]
 ·rw[p9 h];by_cases h2:D x
  ·rw[DZ h2,DZ (.inl h2)]
  ·rw[p9 h2,p9 (fun h3=>h3.elim h2 h)]
theorem VG{D D':Int→Prop}{cur:Int→List Int}(h:∀x,D x↔D' x):KC far cost ch D cur=KC far cost ch D' cur:=by
 have:D=D':=funext fun x=>propext (h x)
 rw[this]
theorem Ol{D:Int→Prop}{cur:Int→List Int}{x:Int}(h:(cur x).Perm (ch x)):(KC far cost ch D cur x).Perm (ch x):=by
 by_cases hd:D x
 ·rw[DZ hd];exact V2 x
 ·rw[p9 hd];exact h
theorem Nh{t:Int→Int}{B:Int}(hc:0≤cost∧cost≤1000000)(hB:0≤B){l:List Int}:∀ {i:Nat} {m:Int},(∀a∈l,0≤t a∧t a≤B)→0≤m→m≤(i:Int)*1000000+B→0≤j5 cost t i m l∧j5 cost t i m l≤((i:Int)+(l.length:Int))*1000000+B:=by
 induction l with
 | nil=>
  intro i m _ h0 hm;unfold j5;exact⟨h0,by simpa using hm⟩
 | cons c l ih=>
  intro i m h h0 hm;unfold j5;have h1:=h c (by simp)
  have h2:((i:Int)+1)*cost≤((i:Int)+1)*1000000:=Int.mul_le_mul_of_nonneg_left hc.2 (by omega)
  have h3:0≤((i:Int)+1)*cost:=Int.mul_nonneg (by omega) hc.1
  generalize ((i:Int)+1)*cost=q at h2 h3
  have h4:=ih (i:=i+1) (m:=max m (q+t c)) (fun a ha=>h a (by simp[ha])) (by omega) (by omega)
  refine⟨h4.1,?_⟩
  have h5:=h4.2
  rw[List.length_cons];omega
theorem PI(hc:0≤cost∧cost≤1000000):∀ {k:Nat} {c:Int},Qq ch k c→k≤4→(∀a b,Do ch c a→b∈ch a→0≤far a b∧far a b≤63000000)→(∀a,Do ch c a→(ch a).length≤1000)→0≤hh far cost ch c∧hh far cost ch c≤(k:Int)*1063000000
 | 0,_,h,_,_,_=>h.elim
 | k+1,c,h,hk,hf,hl=>by
  rw[dU h hk];have hm:∀d∈AG far cost ch c,0≤tl far cost ch c d∧tl far cost ch c d≤(k:Int)*1063000000+63000000:=fun d hd=>by
   have hd:d∈ch c:=(V2 c).mem_iff.1 hd
   have h1:=PI hc (h d hd) (by omega) (fun a b hr hb=>hf a b (.step hd hr) hb) (fun a hr=>hl a (.step hd hr))
   have h2:=hf c d (.refl c) hd
   unfold tl;omega
  have:=Nh (cost:=cost) hc (B:=(k:Int)*1063000000+63000000) (by omega) (i:=0) (m:=0) hm (Int.le_refl _) (by omega)
  have h3:=hl c (.refl c)
  have h4:=(V2 (far:=far) (cost:=cost) (ch:=ch) c).length_eq
  refine⟨this.1,?_⟩
  have h5:=this.2
  rw[h4]at h5;omega
end
set_option maxHeartbeats 8000000
attribute [local irreducible] Calls
def Fv(l:List I1)(id:Int):Int:=match l.findIdx? (fun x=>decide (x.ID=id)) with|some k=>k|none=>-1
def E6(l:List I1)(id:Int):I1×Bool:=match l.find? (fun x=>decide (x.ID=id)) with|some c=>(c,true)|none=>(⟨0,0,0,0⟩,false)
theorem IR{l:List I1}{id:Int}{k:Nat}{x:I1}(hx:l[k]? = some x)(he:x.ID=id)(hl:∀j y,j<k→l[j]? = some y→y.ID≠id):Fv l id=k∧E6 l id=(x,true):=by
 obtain⟨hk,hxk⟩:=List.getElem?_eq_some_iff.1 hx
 have h1:l.findIdx? (fun x=>decide (x.ID=id))=some k:=by
  rw[List.findIdx?_eq_some_iff_getElem];refine⟨hk,by rw[hxk];simpa using he,fun j hj=>?_⟩
  have:=hl j l[j] hj (List.getElem?_eq_getElem ..)
  simpa using this
 have h2:l.find? (fun x=>decide (x.ID=id))=some x:=by
  rw[List.find?_eq_some_iff_getElem];refine⟨by simpa using he,k,hk,hxk,fun j hj=>?_⟩
  have:=hl j l[j] hj (List.getElem?_eq_getElem ..)
  simpa using this
 unfold Fv E6;rw[h1,h2];exact⟨rfl,rfl⟩
theorem Il{l:List I1}{id:Int}(hl:∀y∈l,y.ID≠id):Fv l id = -1∧E6 l id=(⟨0,0,0,0⟩,false):=by
 have h1:l.findIdx? (fun x=>decide (x.ID=id))=none:=by
  rw[List.findIdx?_eq_none_iff];intro x hx;simpa using hl x hx
 have h2:l.find? (fun x=>decide (x.ID=id))=none:=by
  rw[List.find?_eq_none];intro x hx;simpa using hl x hx
 unfold Fv E6;rw[h1,h2];exact⟨rfl,rfl⟩
theorem WJ{Γ:C8}{S:List B2}{w:World}{b:Nat}{id:Int}(x:I1)(hw:Wd Γ (.blk b (.cells #[.int .i64 id] 3)::S) w) :
  Calls Tryz.prog 194 #[.agg (enc x).toArray,.pointer (some ⟨b,0,none⟩)] w fun e w'=>e=.returned (.bool (decide (x.ID=id)))∧Wd Γ (.blk b (.cells #[.int .i64 id] 3)::S) w':=by
 refine A9 Tryz.func194 rfl rfl ?_
 refine A6 ?_;refine H9 ?_;intro b2 w hw;have hw:Wd Γ (.blk b2 (.cells (enc x).toArray 72)::.blk b (.cells #[.int .i64 id] 3)::S) w:=hw
 refine A6 ?_;exact⟨_,rfl,rfl,hw.drop⟩
theorem Of{Γ:C8}{S:List B2}{w:World}{b:Nat}{id:Int}{v:Value}{xs:List I1}(hr:D9 Γ v 4 (xs.map enc))(hw:Wd Γ (.blk b (.cells #[.int .i64 id] 3)::S) w) :
  Calls Tryz.prog 193 #[v,.func (.func 194) #[] #[.pointer (some ⟨b,0,none⟩)]] w fun e w'=>e=.returned (.int .i64 (Fv xs id))∧Wd Γ (.blk b (.cells #[.int .i64 id] 3)::S) w':=by
 obtain⟨a,n,c,rfl,hn,hnc,hc⟩:=hr.shape;simp only[List.length_map]at hn
 refine A9 Tryz.func193 rfl rfl ?_
 refine A6 ?_;refine B5 (fun μ ρ w=>∃(k:Nat),μ+k=n∧Has ρ [(0,.slice a n c),(1,.func (.func 194) #[] #[.pointer (some ⟨b,0,none⟩)]),(7,.int .i64 n),(8,.int .i64 k)]∧(∀j x,j<k→xs[j]? = some x→x.ID≠id)∧Wd Γ (.blk b (.cells #[.int .i64 id] 3)::S) w) n ⟨0,by omega,⟨rfl,rfl,rfl,rfl,trivial⟩,fun j x h=>by omega,hw⟩ ?_
 clear hw;rintro μ ρ w ⟨k,hk,hρ,hno,hw⟩
 rw[hρ.eq];clear hρ;refine A6 ?_;refine A7 rfl (fun h=>?_) (fun h=>?_)
 ·have hkn:k<n:=by have:=of_decide_eq_true h;omega
  obtain⟨x,hx⟩:=B4 (l:=xs) (k:=k) (by omega)
  refine A6 ?_;refine Cp (fst:=[]) (cap:=[.pointer (some ⟨b,0,none⟩)]) (vs:=[.agg (enc x).toArray]) ?_
  refine(WJ x hw).mono ?_
  clear hw;rintro e w ⟨rfl,hw⟩
  refine⟨_,rfl,?_⟩;refine A6 ?_;refine A7 rfl (fun h2=>?_) (fun h2=>?_)
  ·have h2:x.ID=id:=of_decide_eq_true h2
   refine A6 ?_;exact⟨_,rfl,by rw[(IR hx h2 hno).1];rfl,hw⟩
  ·have h2:¬x.ID=id:=of_decide_eq_false h2
   refine A6 ?_;refine⟨μ-1,by omega,k+1,by omega,⟨rfl,rfl,rfl,rfl,trivial⟩,fun j y hj hy=>?_,hw⟩
   by_cases e:j=k
   ·subst e;rw[hx]at hy;cases hy;exact h2
   ·exact hno j y (by omega) hy
 ·have hkn:¬k<n:=by have:=of_decide_eq_false h;omega
  refine A6 ?_;exact⟨_,rfl,by rw[(Il (l:=xs) (id:=id) (fun y hy=>by
   obtain⟨j,hj⟩:=List.mem_iff_getElem?.1 hy
   exact hno j y (by have:=(List.getElem?_eq_some_iff.1 hj).1;omega) hj)).1];rfl,hw⟩
theorem HJ(l:List I1)(id:Int):(Fv l id = -1∧E6 l id=(⟨0,0,0,0⟩,false)∧∀y∈l,y.ID≠id)∨∃(k:Nat) (x:I1),Fv l id=k∧l[k]? = some x∧x.ID=id∧E6 l id=(x,true):=by
 by_cases h:∀y∈l,y.ID≠id
 ·have:=Il h
  exact .inl ⟨this.1,this.2,h⟩
 ·right
  cases hq:l.findIdx? (fun x=>decide (x.ID=id)) with
  | none=>
   exfalso;apply h
   intro y hy he;have:=List.findIdx?_eq_none_iff.1 hq y hy
   simp[he]at this
  | some k=>
   obtain⟨hk,h1,h2⟩:=List.findIdx?_eq_some_iff_getElem.1 hq
   have hx:=List.getElem?_eq_getElem hk
   have h1:l[k].ID=id:=by simpa using h1
   have:=IR hx h1 (fun j y hj hy=>by
    obtain⟨hj2,e⟩:=List.getElem?_eq_some_iff.1 hy
    have:=h2 j hj
    rw[←e];simpa using this)
   exact⟨k,l[k],this.1,hx,h1,this.2⟩
instance TW{Γ:C8}{u:Value}{H:H1}[hh:Cl Γ u H](id:Int):PG Tryz.prog Γ 126 [u,.int .i64 id] (.tuple #[.agg (enc (E6 H.Cores id).1).toArray,.bool (E6 H.Cores id).2]):=⟨fun S w hw=>by
 obtain⟨a1,n1,c1,a2,n2,c2,a3,n3,c3,a4,n4,c4,a5,n5,c5,cs,rfl,hcs,hok,hsz,r1,r2,r3,r4,r5⟩:=hh.h;obtain⟨hn1,hm1,hx1⟩:=C6 r1
 simp only[List.length_map]at hn1
 refine K9 Tryz.func126 rfl rfl ?_
 refine A6 ?_;refine H9 ?_;intro b2 w hw;refine H9 ?_;intro b3 w hw;refine C0 ?_;intro b4 w hw;have hw:Wd Γ (.blk b4 (.cells (enc (⟨0,0,0,0⟩:I1)).toArray 72)::.blk b3 (.cells #[.int .i64 id] 3)::.blk b2 (.cells #[.string H.Name,.slice a1 n1 c1,.slice a2 n2 c2,.slice a3 n3 c3,.slice a4 n4 c4,.slice a5 n5 c5] 69)::S) w:=hw
 refine A6 ?_;refine D3 ((Of (id:=id) r1 (hw.ps [1])).mono fun e w hq=>?_)
 obtain⟨rfl,hw⟩:=hq;have hw:=hw.ps [1]
 refine⟨_,rfl,?_⟩;rcases HJ H.Cores id with⟨h1,h2,-⟩|⟨k,x,h1,hx,he,h2⟩
 ·rw[h1,h2];refine A6 ?_;refine M7 rfl ?_
  refine A6 ?_;refine B1 ?_;intro w hw;have hw:Wd Γ (.blk b4 (.cells (enc (⟨0,0,0,0⟩:I1)).toArray 72)::.blk b3 (.cells #[.int .i64 id] 3)::.blk b2 (.cells #[.string H.Name,.slice a1 n1 c1,.slice a2 n2 c2,.slice a3 n3 c3,.slice a4 n4 c4,.slice a5 n5 c5] 69)::S) w:=hw
  refine A6 ?_;exact⟨[_,_],⟨T4 (i:=0) hw rfl rfl rfl,rfl,trivial⟩,rfl,hw.ds [0,0,0]⟩
 ·rw[h1,h2];have hk:k<n1:=by have:=(List.getElem?_eq_some_iff.1 hx).1;omega
  refine A6 ?_;refine P7 (by show Value.bool (decide ((k:Int)<0))=_;rw[decide_eq_false (by omega)]) ?_
  refine A6 ?_;refine B1 ?_;intro w hw;have hw:Wd Γ (.blk b4 (.cells (enc x).toArray 72)::.blk b3 (.cells #[.int .i64 id] 3)::.blk b2 (.cells #[.string H.Name,.slice a1 n1 c1,.slice a2 n2 c2,.slice a3 n3 c3,.slice a4 n4 c4,.slice a5 n5 c5] 69)::S) w:=hw
  refine A6 ?_;exact⟨[_,_],⟨T4 (i:=0) hw rfl rfl rfl,rfl,trivial⟩,rfl,hw.ds [0,0,0]⟩⟩
noncomputable def Cc(H:H1)(s:Int):List Int:=(List.range 64).map fun i:Nat=>K0 (D8 H.Links) s (i:Int)
theorem Li{H:H1}{s x:Int}(h0:0≤x)(h1:x<64):(Cc H s)[x.toNat]? = some (K0 (D8 H.Links) s x):=by
 unfold Cc;rw[List.getElem?_map,List.getElem?_range (by omega)]
 show some (K0 _ s ((x.toNat:Nat):Int))=_
 rw[show ((x.toNat:Nat):Int)=x by omega]
theorem Ym{H:H1}{s:Int}{O:List Int}(hO:O.length=64)(hd:∀x,0≤x→x<64→Na (D8 H.Links) s x (BZ O x)∧BZ O x≤128001000000):O=Cc H s:=by
 refine List.ext_getElem? fun i=>?_
 by_cases h:i<64
 ·have h1:=Li (H:=H) (s:=s) (x:=i) (by omega) (by omega)
  rw[show ((i:Int)).toNat=i by omega]at h1
  rw[h1];have h2:=(hd i (by omega) (by omega)).1.eq
  rw[h2];unfold BZ;rw[show ((i:Int)).toNat=i by omega,List.getD_eq_getElem?_getD,List.getElem?_eq_getElem (by omega)];rfl
 ·rw[List.getElem?_eq_none (by omega),List.getElem?_eq_none (by unfold Cc;simp;omega)]
theorem KD{Γ:C8}{u:Value}{H:H1}[hh:Cl Γ u H](hL:Z9 H.Links){s:Int}(hs:0≤s∧s<64){S:List B2}{w:World}(hw:Wd Γ S w) :
  Calls Tryz.prog 70 #[u,.int .i64 s] w fun e w'=>∃v,e=.returned v∧Wd Γ (.own v 3 1 (A8 (Cc H s))::S) w':=
 (x7 hL hs hw).mono fun e w' ⟨v,O,h1,h2,h3,h4⟩=>⟨v,h1,by rw[←Ym h2 h3];exact h4⟩
noncomputable def E9(H:H1)(x:Int):Int:=(E6 H.Cores x).1.Node
noncomputable def F5(H:H1)(x y:Int):Int:=K0 (D8 H.Links) (E9 H x) (E9 H y)
abbrev Gr(bb:Nat)(H:H1)(a1:Option Addr)(n1 c1:Nat)(a2:Option Addr)(n2 c2:Nat)(a3:Option Addr)(n3 c3:Nat)(a4:Option Addr)(n4 c4:Nat)(a5:Option Addr)(n5 c5:Nat)(bm:Nat):B2:=
 .blk bb (.cells #[.string H.Name,.slice a1 n1 c1,.slice a2 n2 c2,.slice a3 n3 c3,.slice a4 n4 c4,.slice a5 n5 c5,.map (some bm)] 214)
noncomputable def Kw(H:H1)(e:Int×Value):B2:=.own e.2 3 1 (A8 (Cc H e.1))
theorem Ww{Γ:C8}{S:List B2}{w:World}{H:H1}{x:Int}{aa:Option Addr}{na ca:Nat}(hw:Wd Γ (.own (.slice aa na ca) 3 1 (A8 (Cc H x))::S) w):aa≠none:=by
 obtain⟨bss,h1,-⟩:=hw.own;cases bss with
 | nil=>exact h1.elim
 | cons bs bss=>
  have hr:=h1.1
  unfold B2.own at hr;obtain⟨-,a,n,c,e,hn,hnc,-,h⟩:=hr;cases e
  rcases h with⟨h,-⟩|⟨g,cur,h,-⟩
  ·have:na=64:=by rw[hn];simp[A8,Cc]
   omega
  ·rw[h];simp
theorem Ts{Γ:C8}{A S:List B2}{w:World}{H:H1}{l:List (Int×Value)}{a:Int}{v:Value}(hl:(l.map (·.1)).Nodup)(hg:F1 l a=some v)(hw:Wd Γ (A++(l.map (Kw H)++S)) w):Wd Γ (Kw H (a,v)::(A++((H7 l a).map (Kw H)++S))) w:=
 hw.perm ((List.Perm.append_left A (((Ag hl hg).map (Kw H)).append_right S)).trans List.perm_middle)
theorem aG{Γ:C8}{A S:List B2}{w:World}{H:H1}{l:List (Int×Value)}{a:Int}{v:Value}(hl:(l.map (·.1)).Nodup)(hg:F1 l a=some v)(hw:Wd Γ (Kw H (a,v)::(A++((H7 l a).map (Kw H)++S))) w):Wd Γ (A++(l.map (Kw H)++S)) w:=
 hw.perm ((List.Perm.append_left A (((Ag hl hg).map (Kw H)).append_right S)).trans List.perm_middle).symm
theorem WI{Γ:C8}{H:H1}{a1:Option Addr}{n1 c1:Nat}{a2:Option Addr}{n2 c2:Nat}{a3:Option Addr}{n3 c3:Nat}{a4:Option Addr}{n4 c4:Nat}{a5:Option Addr}{n5 c5:Nat}[hh:Cl Γ (.agg #[.string H.Name,.slice a1 n1 c1,.slice a2 n2 c2,.slice a3 n3 c3,.slice a4 n4 c4,.slice a5 n5 c5]) H](hL:Z9 H.Links){x y:Int}(hx:0≤E9 H x∧E9 H x<64)(hy:0≤E9 H y∧E9 H y<64){bb bm:Nat}{l:List (Int×Value)}(hl:(l.map (·.1)).Nodup){S:List B2}{w:World}(hw:Wd Γ (Gr bb H a1 n1 c1 a2 n2 c2 a3 n3 c3 a4 n4 c4 a5 n5 c5 bm::G1 bm l::(l.map (Kw H)++S)) w) :
  Calls Tryz.prog 195 #[.pointer (some ⟨bb,0,none⟩),.int .i64 x,.int .i64 y] w fun e w'=>e=.returned (.int .i64 (F5 H x y))∧∃l',(l'.map (·.1)).Nodup∧Wd Γ (Gr bb H a1 n1 c1 a2 n2 c2 a3 n3 c3 a4 n4 c4 a5 n5 c5 bm::G1 bm l'::(l'.map (Kw H)++S)) w':=by
 unfold F5;unfold E9 at hx hy ⊢
 refine A9 Tryz.func195 rfl rfl ?_
 generalize hp:(E6 H.Cores x).1=p at hx ⊢
 generalize hq:(E6 H.Cores y).1=q at hy ⊢
 refine A6 ?_;refine Zx (hp:=TW (hh:=hh) x) ?_
 intro w hw;rw[hp];refine A6 ?_;refine C0 ?_;intro b7 w hw;refine B1 ?_;intro w hw;refine A6 ?_;refine Zx (hp:=TW (hh:=hh) y) ?_
 intro w hw;rw[hq];refine A6 ?_;refine C0 ?_;intro b9 w hw;refine B1 ?_;intro w hw;have hw:Wd Γ (.blk b9 (.cells (enc q).toArray 72)::.blk b7 (.cells (enc p).toArray 72)::Gr bb H a1 n1 c1 a2 n2 c2 a3 n3 c3 a4 n4 c4 a5 n5 c5 bm::G1 bm l::(l.map (Kw H)++S)) w:=hw
 refine A6 ?_;obtain⟨aa,na,ca,hva,hcs⟩:∃aa na ca,Ar l p.Node (.slice aa na ca)∧((aa=none∧F1 l p.Node=none)∨(aa≠none∧F1 l p.Node=some (.slice aa na ca))):=by
  cases hg:F1 l p.Node with
  | none=>exact⟨none,0,0,.inr ⟨hg,rfl⟩,.inl ⟨rfl,rfl⟩⟩
  | some v=>
   have Aj:=Ts (A:=[.blk b9 (.cells (enc q).toArray 72),.blk b7 (.cells (enc p).toArray 72),Gr bb H a1 n1 c1 a2 n2 c2 a3 n3 c3 a4 n4 c4 a5 n5 c5 bm,G1 bm l]) hl hg hw
   unfold Kw at Aj;obtain⟨aa,na,ca,rfl,hn,-⟩:=Aj.own_shape (i:=0) rfl
   have hns:=Ww Aj
   exact⟨aa,na,ca,.inl hg,.inr ⟨hns,rfl⟩⟩
 refine I5 (by kernel_rfl) (by kernel_rfl) hw ?_
 refine EX ?_;refine qY (v:=.slice aa na ca) ?_ (hy:=fun w hw=>M5 hw hva (i:=3) rfl rfl rfl)
 refine EX ?_;intro w hw;refine Ft (fun ρ w=>∃(l':List (Int×Value)) (v:Value),(l'.map (·.1)).Nodup∧F1 l' p.Node=some v∧Has ρ [(0,.pointer (some ⟨bb,0,none⟩)),(7,.pointer (some ⟨b7,0,none⟩)),(9,.pointer (some ⟨b9,0,none⟩))]∧Wd Γ ([.blk b9 (.cells (enc q).toArray 72),.blk b7 (.cells (enc p).toArray 72),Gr bb H a1 n1 c1 a2 n2 c2 a3 n3 c3 a4 n4 c4 a5 n5 c5 bm,G1 bm l']++(l'.map (Kw H)++S)) w) ?_ ?_
 ·refine A7 rfl (fun h=>?_) (fun h=>?_)
  ·have h:aa.isNone=true:=h
   have hg:F1 l p.Node=none:=by
    rcases hcs with⟨-,hg⟩|⟨hh2,-⟩
    ·exact hg
    ·cases aa with
     | none=>exact(hh2 rfl).elim
     | some _=>simp at h
   have hw:Wd Γ ([.blk b7 (.cells (enc p).toArray 72),Gr bb H a1 n1 c1 a2 n2 c2 a3 n3 c3 a4 n4 c4 a5 n5 c5 bm]++([G1 bm l]++((.blk b9 (.cells (enc q).toArray 72)::(l.map (Kw H)++S))++[]))) w:=by
    rw[List.append_nil];exact hw.perm ((List.perm_middle (l₁:=[.blk b7 (.cells (enc p).toArray 72),Gr bb H a1 n1 c1 a2 n2 c2 a3 n3 c3 a4 n4 c4 a5 n5 c5 bm,G1 bm l])).symm)
   refine A6 ?_;refine Q8 [.blk b7 (.cells (enc p).toArray 72),Gr bb H a1 n1 c1 a2 n2 c2 a3 n3 c3 a4 n4 c4 a5 n5 c5 bm] [fun _=>[G1 bm l],fun _=>.blk b9 (.cells (enc q).toArray 72)::(l.map (Kw H)++S)] [[],[],[],[],[],[],[],[],[],[],[],[],[0],[0]] [[],[],[],[],[],[],[],[],[],[],[],[],[0],[0]] [[49],[]] (by exact hw) ?_
   refine R1 ?_;refine Rz (c:=0) (F:=fun _=>[G1 bm l]) (F':=fun g=>[G1 bm l,.own (g 49) 3 1 (A8 (Cc H p.Node))]) (vs:=fun _=>[.agg #[.string H.Name,.slice a1 n1 c1,.slice a2 n2 c2,.slice a3 n3 c3,.slice a4 n4 c4,.slice a5 n5 c5],.int .i64 p.Node]) (hs:=fun g w Y hw=>(KD hL hx hw).mono fun e w' ⟨v,h1,h2⟩=>⟨v,h1,h2.ps [1]⟩) ?_
   refine Je (j:=0) ?_
   refine S5 fun w g hw=>?_
   have hw:Wd Γ ([.blk b7 (.cells (enc p).toArray 72),Gr bb H a1 n1 c1 a2 n2 c2 a3 n3 c3 a4 n4 c4 a5 n5 c5 bm,G1 bm (Q3 l p.Node (g 49)),Kw H (p.Node,g 49)]++(.blk b9 (.cells (enc q).toArray 72)::((l.map (Kw H)++S)++[]))) w:=hw
   rw[List.append_nil]at hw;have hpm:=(FQ hl p.Node (g 49)).map (Kw H)
   rw[Y1 hg,List.map_cons]at hpm;have hw:Wd Γ ([.blk b9 (.cells (enc q).toArray 72),.blk b7 (.cells (enc p).toArray 72),Gr bb H a1 n1 c1 a2 n2 c2 a3 n3 c3 a4 n4 c4 a5 n5 c5 bm,G1 bm (Q3 l p.Node (g 49))]++(Kw H (p.Node,g 49)::l.map (Kw H)++S)) w:=hw.perm List.perm_middle
   have hw:=hw.perm (List.Perm.append_left _ (hpm.append_right S).symm)
   exact⟨Q3 l p.Node (g 49),g 49,Hq hl _ _,by rw[CP,if_pos rfl],⟨rfl,rfl,rfl,trivial⟩,hw⟩
  ·have h:aa.isNone=false:=h
   have hg:F1 l p.Node=some (.slice aa na ca):=by
    rcases hcs with⟨rfl,-⟩|⟨-,hg⟩
    ·simp at h
    ·exact hg
   refine A6 ?_;exact⟨l,_,hl,hg,⟨rfl,rfl,rfl,trivial⟩,hw⟩
 ·clear hw hva hcs;rintro ρ w ⟨l',v,hl',hg',hρ,hw⟩
  rw[hρ.eq];clear hρ;have hw:=Ts hl' hg' hw
  obtain⟨aa,na,ca,rfl,hn,hnc,-⟩:=hw.own_shape (i:=0) rfl
  have hn:na=64:=by rw[hn];simp[A8,Cc]
  subst hn;have hgd:=Li (H:=H) (s:=p.Node) hy.1 hy.2
  have hw:Wd Γ (.own (.slice aa 64 ca) 3 1 (A8 (Cc H p.Node))::.blk b9 (.cells (enc q).toArray 72)::.blk b7 (.cells (enc p).toArray 72)::Gr bb H a1 n1 c1 a2 n2 c2 a3 n3 c3 a4 n4 c4 a5 n5 c5 bm::G1 bm l'::((H7 l' p.Node).map (Kw H)++S)) w:=hw
  have hlen:(Cc H p.Node).length=64:=by simp[Cc]
  refine A6 ?_;refine I5 (by kernel_rfl) (by kernel_rfl) hw ?_
  refine EX ?_;refine qY (v:=.slice aa 64 ca) ?_ (hy:=fun w hw=>M5 hw (.inl hg') (i:=4) rfl rfl rfl)
  refine EX ?_;intro w hw;refine A6 ?_;have hw:=aG (A:=[.blk b9 (.cells (enc q).toArray 72),.blk b7 (.cells (enc p).toArray 72),Gr bb H a1 n1 c1 a2 n2 c2 a3 n3 c3 a4 n4 c4 a5 n5 c5 bm,G1 bm l']) hl' hg' hw
  exact⟨_,rfl,rfl,l',hl',hw.ds [0,0]⟩
theorem GM{P:Program}{d:Option Tmp}{T ty:TypeId}{pos:String}{es:Array Edge}{g:Option (Nat×Bool)}{x y z:Operand}{ρ:Fr}{w:World}{K:Value→World→Prop}(h:Step P ⟨d,.mapUpdate T x y z,ty,pos,es,g⟩ ρ w K):Step P ⟨d,.insert T x y z,ty,pos,es,g⟩ ρ w K:=by
 unfold Step execOp at h ⊢
 exact h
theorem Yo(xs:List Int):(A8 xs).flatten.all (·.oneCell')=true:=by
 induction xs with
 | nil=>rfl
 | cons x xs ih=>simp only[A8,List.map_cons,List.flatten_cons,List.all_append]at ih ⊢;rw[ih];rfl
class Hz{α:Type}(l:List α):Prop where h:l.length≤1000
noncomputable def Ap(H:H1)(r:Int)(ms:List Int):Int:=if (r::ms).all (fun id=>(E6 H.Cores id).2)=false then 57 else if Ir (r::ms).Nodup=false then 56 else 0
instance eE{Γ:C8}{u v:Value}{H:H1}[hh:Cl Γ u H]{ms:List Int}[hr:RY Γ v 1 (A8 ms)][hsh:Hz ms](r:Int):PG Tryz.prog Γ 125 [u,.int .i64 r,v] (.int .i64 (Ap H r ms)):=⟨fun S w hw=>by
 have hh':=hh
 obtain⟨a1,n1,c1,a2,n2,c2,a3,n3,c3,a4,n4,c4,a5,n5,c5,cs,rfl,-⟩:=hh.h;have hrs:=hr.h
 obtain⟨am,nm,cm,rfl,hnm,hnmc,hcm⟩:=hr.h.shape;simp only[A8,List.length_map]at hnm
 refine A9 Tryz.func125 rfl rfl ?_
 refine A6 ?_;refine H9 ?_;intro b3 w hw;have hw:Wd Γ (.blk b3 (.cells #[.string H.Name,.slice a1 n1 c1,.slice a2 n2 c2,.slice a3 n3 c3,.slice a4 n4 c4,.slice a5 n5 c5] 69)::S) w:=hw
 refine A6 ?_;refine B6 [[.int .i64 r]] ?_
 intro ar w hw;have hw:Wd Γ (.own (.slice (some ar) 1 1) 3 1 (A8 [r])::.blk b3 (.cells #[.string H.Name,.slice a1 n1 c1,.slice a2 n2 c2,.slice a3 n3 c3,.slice a4 n4 c4,.slice a5 n5 c5] 69)::S) w:=hw
 refine A6 ?_;have hms:=hsh.h
 refine V7 (i:=0) (rows2:=A8 ms) ?_ (hrs.rd hw) rfl rfl hw rfl (Yo ms) (by simp[A8];omega)
 intro v' w hw;obtain⟨a0,n0,c0,rfl,hn0,hnc0,-⟩:=hw.own_shape (i:=0) rfl
 have hn0:n0=ms.length+1:=by rw[hn0];simp[A8]
 have hw:Wd Γ (.own (.slice a0 n0 c0) 3 1 (A8 (r::ms))::.blk b3 (.cells #[.string H.Name,.slice a1 n1 c1,.slice a2 n2 c2,.slice a3 n3 c3,.slice a4 n4 c4,.slice a5 n5 c5] 69)::S) w:=hw
 unfold Ap;refine A6 ?_;refine B5 (fun μ ρ w=>∃(k:Nat),μ+k=n0∧Has ρ [(1,.int .i64 r),(2,.slice am nm cm),(3,.pointer (some ⟨b3,0,none⟩)),(17,.slice a0 n0 c0),(18,.int .i64 n0),(19,.int .i64 k)]∧(∀i x,i<k→(r::ms)[i]? = some x→(fun id=>(E6 H.Cores id).2) x=true)∧Wd Γ (.own (.slice a0 n0 c0) 3 1 (A8 (r::ms))::.blk b3 (.cells #[.string H.Name,.slice a1 n1 c1,.slice a2 n2 c2,.slice a3 n3 c3,.slice a4 n4 c4,.slice a5 n5 c5] 69)::S) w) n0 ⟨0,by omega,⟨rfl,rfl,rfl,rfl,rfl,rfl,trivial⟩,fun i x h=>by omega,hw⟩ ?_
 clear hw;rintro μ ρ w ⟨k,hk,hρ,hall,hw⟩
 rw[hρ.eq];clear hρ;refine A6 ?_;refine A7 rfl (fun h=>?_) (fun h=>?_)
 ·have hkn:k<n0:=by have:=of_decide_eq_true h;omega
  obtain⟨x,hx⟩:=B4 (l:=r::ms) (k:=k) (by simp;omega)
  have hxl:(r::ms).length=ms.length+1:=rfl
  repeat first|refine U9 ?_|refine V5 ?_;intro w hw
  refine C0 ?_;intro b9 w hw;refine B1 ?_;intro w hw;have hw:Wd Γ (.own (.slice a0 n0 c0) 3 1 (A8 (r::ms))::.blk b3 (.cells #[.string H.Name,.slice a1 n1 c1,.slice a2 n2 c2,.slice a3 n3 c3,.slice a4 n4 c4,.slice a5 n5 c5] 69)::S) w:=Wd.drop hw
  refine A6 ?_;refine A7 rfl (fun h2=>?_) (fun h2=>?_)
  ·have h2:(!(E6 H.Cores x).2)=true:=h2
   rw[if_pos (AD (p:=fun id=>(E6 H.Cores id).2) hx (by simpa using h2))]
   refine A6 ?_;exact⟨_,rfl,rfl,hw.ds [0,0]⟩
  ·have h2:(!(E6 H.Cores x).2)=false:=h2
   refine A6 ?_;exact⟨μ-1,by omega,k+1,by omega,⟨rfl,rfl,rfl,rfl,rfl,rfl,trivial⟩,O5 (p:=fun id=>(E6 H.Cores id).2) hall hx (by simpa using h2),hw⟩
 have hkn:¬k<n0:=by have:=of_decide_eq_false h;omega
 rw[if_neg (by rw[W5 (p:=fun id=>(E6 H.Cores id).2) hall (by simp;omega)];simp)]
 clear h hkn hall hk;refine A6 ?_;refine F0 rfl rfl (J1 (K:=3) (α:=Int) (f:=Value.bool) hw fun bm w hw=>?_)
 refine A6 ?_;refine F0 rfl rfl (GM (I7 (P:=Tryz.prog) (K:=3) (α:=Int) (f:=Value.bool) (i:=0) (v:=true) (a:=r) hw rfl rfl rfl rfl fun w hw=>?_))
 rw[show ([]:List (Int×Bool))=L4 ([]:List Int) from rfl,Z3 (by simp)]at hw
 have hw:Wd Γ (B2.mpT Tryz.prog 3 Value.bool bm (L4 (r::ms.take 0))::S) w:=hw.ds [1,1]
 refine A6 ?_;refine B5 (fun μ ρ w=>∃(k:Nat),μ+k=nm∧Has ρ [(11,.map (some bm)),(35,.slice am nm cm),(36,.int .i64 nm),(37,.int .i64 k)]∧(r::ms.take k).Nodup∧Wd Γ (B2.mpT Tryz.prog 3 Value.bool bm (L4 (r::ms.take k))::S) w) nm ⟨0,by omega,⟨rfl,rfl,rfl,rfl,trivial⟩,by simp,hw⟩ ?_
 clear hw;rintro μ ρ w ⟨k,hk,hρ,hnd,hw⟩
 rw[hρ.eq];clear hρ;refine A6 ?_;refine A7 rfl (fun h=>?_) (fun h=>?_)
 ·have hkn:k<nm:=by have:=of_decide_eq_true h;omega
  obtain⟨x,hx⟩:=B4 (l:=ms) (k:=k) (by omega)
  refine A6 ?_;letI hdm:Decidable (x∈r::ms.take k):=Classical.propDecidable _
  refine Zz rfl rfl (v:=.bool (decide (x∈r::ms.take k))) ?_ ?_
  ·by_cases hm:x∈r::ms.take k
   ·rw[decide_eq_true hm];exact L6 (P:=Tryz.prog) (K:=3) (α:=Int) (f:=Value.bool) (i:=0) hw rfl rfl rfl (u7 hm) false
   ·rw[decide_eq_false hm];exact L5 (P:=Tryz.prog) (K:=3) (α:=Int) (f:=Value.bool) (i:=0) hw rfl rfl rfl (seen_none hm) false
  have hx1:(r::ms)[k+1]? = some x:=hx
  have ht1:(r::ms).take (k+1)=r::ms.take k:=rfl
  refine A6 ?_;refine A7 rfl (fun h2=>?_) (fun h2=>?_)
  ·have hm:x∈r::ms.take k:=by simpa using h2
   rw[if_pos (CE (q9 hx1 (by rw[ht1];exact hm)))]
   refine A6 ?_;exact⟨_,rfl,rfl,hw.drop⟩
  ·have hm:x∉r::ms.take k:=by simpa using h2
   refine A6 ?_;refine F0 rfl rfl (I7 (P:=Tryz.prog) (K:=3) (α:=Int) (f:=Value.bool) (i:=0) (v:=true) hw rfl rfl rfl rfl fun w hw=>?_)
   rw[Z3 hm,List.cons_append,←C9 hx]at hw;refine A6 ?_;exact⟨μ-1,by omega,k+1,by omega,⟨rfl,rfl,rfl,rfl,trivial⟩,by rw[C9 hx,←List.cons_append];exact L8.2 ⟨hnd,hm⟩,hw⟩
 ·have hkn:¬k<nm:=by have:=of_decide_eq_false h;omega
  rw[List.take_of_length_le (by omega)]at hnd
  rw[if_neg (by rw[W8 hnd];simp)]
  refine A6 ?_;exact⟨_,rfl,rfl,hw.drop⟩⟩
theorem Mv{d:List Int}{x:Int}:∃d',Q3 (L4 d) x true=L4 d'∧∀y,y∈d'↔y∈d∨y=x:=by
 by_cases h:x∈d
 ·refine⟨d,?_,fun y=>⟨.inl,fun hy=>by rcases hy with hy|rfl;exact hy;exact h⟩⟩
  unfold Q3;cases hi:De (L4 d) x with
  | none=>have:=HV.2 h;rw[hi]at this;cases this
  | some i=>
   obtain⟨v,hv⟩:=DI hi
   obtain⟨y,hy,he⟩:=List.mem_map.1 (List.mem_of_getElem? hv)
   cases he
   refine List.ext_getElem? fun k=>?_
   rw[List.getElem?_set];split
   ·rename_i e;subst e
    split
    ·exact hv.symm
    ·rename_i hlt;exact absurd (List.getElem?_eq_some_iff.1 hv).1 hlt
   ·rfl
 ·exact⟨d++[x],Z3 h,fun y=>by simp⟩
def Fx(es:List Pl)(i:Nat)(x:Int):Prop:=∃(j:Nat) (a b:Pl),j+1≤i∧es[j]? = some a∧es[j+1]? = some b∧a.1≠b.1∧a.1=x
def Mr(r:Int)(es:List Pl):Prop:=∀(i:Nat) (e:Pl),es[i]? = some e→e.1∈r::(es.take i).map (·.2)∧¬Fx es i e.1
theorem MM{es:List Pl}{k:Nat}{x y:Pl}(hx:es[k]? = some x)(hy:0<k→es[k-1]? = some y)(z:Int):Fx es k z↔Fx es (k-1) z∨(0<k∧y.1≠x.1∧y.1=z):=by
 constructor
 ·rintro⟨j,a,b,h1,h2,h3,h4,h5⟩;by_cases e:j+1=k
  ·right
   have hj:j=k-1:=by omega
   subst hj;have h0:0<k:=by omega
   rw[hy h0]at h2;cases h2
   rw[e,hx]at h3;cases h3
   exact⟨h0,h4,h5⟩
  ·exact .inl ⟨j,a,b,by omega,h2,h3,h4,h5⟩
 ·rintro (⟨j,a,b,h1,h2,h3,h4,h5⟩|⟨h0,h1,h2⟩)
  ·exact⟨j,a,b,by omega,h2,h3,h4,h5⟩
  ·exact⟨k-1,y,x,by omega,hy h0,by rw[show k-1+1=k by omega];exact hx,h1,h2⟩
def Bt(H:H1)(e:Pl):Bool:=(E6 H.Cores e.1).2&&(E6 H.Cores e.2).2
noncomputable def o8(H:H1)(r:Int)(es:List Pl):Int:=
 if F3 H=0 then (if ((E6 H.Cores r).2&&es.all (Bt H))=true then (if Ir (r::es.map (·.2)).Nodup=true then (if Ir (Mr r es)=true then 0 else 66) else 56) else 57) else F3 H
instance gG{Γ:C8}{u v:Value}{H:H1}[hh:Cl Γ u H]{es:List Pl}[hr:RY Γ v 2 (es.map Q1)][hsh:Hz es](r:Int):PG Tryz.prog Γ 198 [u,.agg #[.int .i64 r,v]] (.int .i64 (o8 H r es)):=⟨fun S w hw=>by
 have hh':=hh
 obtain⟨a1,n1,c1,a2,n2,c2,a3,n3,c3,a4,n4,c4,a5,n5,c5,cs,rfl,-⟩:=hh.h;have hrs:=hr.h
 obtain⟨am,nm,cm,rfl,hnm,hnmc,hcm⟩:=hr.h.shape;simp only[List.length_map]at hnm
 have hms:=hsh.h
 refine A9 Tryz.func198 rfl rfl ?_
 refine A6 ?_;refine H9 ?_;intro b2 w hw;refine H9 ?_;intro b3 w hw;have hw:Wd Γ (.blk b3 (.cells #[.int .i64 r,.slice am nm cm] 145)::.blk b2 (.cells #[.string H.Name,.slice a1 n1 c1,.slice a2 n2 c2,.slice a3 n3 c3,.slice a4 n4 c4,.slice a5 n5 c5] 69)::S) w:=hw
 unfold o8;repeat first|refine U9 ?_|refine V5 ?_;intro w hw
 refine A7 rfl (fun h=>?_) (fun h=>?_)
 ·have h:¬F3 H=0:=by simpa using h
  rw[if_neg h];refine A6 ?_;exact⟨_,rfl,rfl,hw.ds [0,0]⟩
 have h:F3 H=0:=by simpa using h
 rw[if_pos h];clear h;repeat first|refine U9 ?_|refine V5 ?_;intro w hw
 refine B5 (fun μ ρ w=>∃(k:Nat),μ+k=nm∧Has ρ [(2,.pointer (some ⟨b2,0,none⟩)),(3,.pointer (some ⟨b3,0,none⟩)),(6,.bool ((E6 H.Cores r).2&&(es.take k).all (Bt H))),(33,.slice am nm cm),(34,.int .i64 nm),(35,.int .i64 k)]∧Wd Γ (.blk b3 (.cells #[.int .i64 r,.slice am nm cm] 145)::.blk b2 (.cells #[.string H.Name,.slice a1 n1 c1,.slice a2 n2 c2,.slice a3 n3 c3,.slice a4 n4 c4,.slice a5 n5 c5] 69)::S) w) nm ⟨0,by omega,⟨rfl,rfl,by rw[List.take_zero,List.all_nil,Bool.and_true];rfl,rfl,rfl,rfl,trivial⟩,hw⟩ ?_
 clear hw;rintro μ ρ w ⟨k,hk,hρ,hw⟩
 rw[hρ.eq];clear hρ;refine A6 ?_;refine A7 rfl (fun h=>?_) (fun h=>?_)
 ·have hkn:k<nm:=by have:=of_decide_eq_true h;omega
  obtain⟨x,hx⟩:=B4 (l:=es) (k:=k) (by omega)
  refine A6 ?_;refine C0 ?_;intro b8 w hw;refine B1 ?_;intro w hw;have hw:Wd Γ (.blk b8 (.cells (Q1 x).toArray 219)::.blk b3 (.cells #[.int .i64 r,.slice am nm cm] 145)::.blk b2 (.cells #[.string H.Name,.slice a1 n1 c1,.slice a2 n2 c2,.slice a3 n3 c3,.slice a4 n4 c4,.slice a5 n5 c5] 69)::S) w:=hw
  repeat first|refine U9 ?_|refine V5 ?_;intro w hw
  refine C0 ?_;intro b9 w hw;refine B1 ?_;intro w hw;repeat first|refine U9 ?_|refine V5 ?_;intro w hw
  refine C0 ?_;intro b11 w hw;refine B1 ?_;intro w hw;have hw:Wd Γ (.blk b3 (.cells #[.int .i64 r,.slice am nm cm] 145)::.blk b2 (.cells #[.string H.Name,.slice a1 n1 c1,.slice a2 n2 c2,.slice a3 n3 c3,.slice a4 n4 c4,.slice a5 n5 c5] 69)::S) w:=hw.ds [0,0,0]
  refine A6 ?_;refine⟨μ-1,by omega,k+1,by omega,⟨rfl,rfl,?_,rfl,rfl,rfl,trivial⟩,hw⟩
  rw[C9 hx,List.all_append,←Bool.and_assoc];simp only[List.all_cons,List.all_nil,Bool.and_true]
  unfold Bt;rw[←Bool.and_assoc];rfl
 have hkn:¬k<nm:=by have:=of_decide_eq_false h;omega
 rw[List.take_of_length_le (by omega)]
 clear h hkn hk;refine A6 ?_;refine A7 rfl (fun h=>?_) (fun h=>?_)
 ·have h:(!((E6 H.Cores r).2&&es.all (Bt H)))=true:=h
  rw[if_neg (fun hh=>by rw[hh]at h;cases h)]
  refine A6 ?_;exact⟨_,rfl,rfl,hw.ds [0,0]⟩
 have h:(!((E6 H.Cores r).2&&es.all (Bt H)))=false:=h
 rw[if_pos (by cases hb:((E6 H.Cores r).2&&es.all (Bt H)) with|true=>rfl|false=>rw[hb]at h;cases h)]
 clear h;refine A6 ?_;refine F0 rfl rfl (J1 (K:=3) (α:=Int) (f:=Value.bool) hw fun bm w hw=>?_)
 have hw:=hw.ps [1]
 refine A6 ?_;refine F0 rfl rfl (GM (I7 (P:=Tryz.prog) (K:=3) (α:=Int) (f:=Value.bool) (i:=1) (v:=true) (a:=r) hw rfl rfl rfl rfl fun w hw=>?_))
 rw[show ([]:List (Int×Bool))=L4 ([]:List Int) from rfl,Z3 (by simp)]at hw
 have hw:Wd Γ (B2.mpT Tryz.prog 3 Value.bool bm (L4 (r::(es.take 0).map (·.2)))::.blk b3 (.cells #[.int .i64 r,.slice am nm cm] 145)::.blk b2 (.cells #[.string H.Name,.slice a1 n1 c1,.slice a2 n2 c2,.slice a3 n3 c3,.slice a4 n4 c4,.slice a5 n5 c5] 69)::S) w:=hw.ps [1]
 refine A6 ?_;refine B5 (fun μ ρ w=>∃(k:Nat),μ+k=nm∧Has ρ [(3,.pointer (some ⟨b3,0,none⟩)),(13,.map (some bm)),(68,.slice am nm cm),(69,.int .i64 nm),(70,.int .i64 k)]∧(r::(es.take k).map (·.2)).Nodup∧Wd Γ (B2.mpT Tryz.prog 3 Value.bool bm (L4 (r::(es.take k).map (·.2)))::.blk b3 (.cells #[.int .i64 r,.slice am nm cm] 145)::.blk b2 (.cells #[.string H.Name,.slice a1 n1 c1,.slice a2 n2 c2,.slice a3 n3 c3,.slice a4 n4 c4,.slice a5 n5 c5] 69)::S) w) nm ⟨0,by omega,⟨rfl,rfl,rfl,rfl,rfl,trivial⟩,by simp,hw⟩ ?_
 clear hw;rintro μ ρ w ⟨k,hk,hρ,hnd,hw⟩
 rw[hρ.eq];clear hρ;refine A6 ?_;refine A7 rfl (fun h=>?_) (fun h=>?_)
 ·have hkn:k<nm:=by have:=of_decide_eq_true h;omega
  obtain⟨x,hx⟩:=B4 (l:=es) (k:=k) (by omega)
  refine A6 ?_;refine C0 ?_;intro b15 w hw;refine B1 ?_;intro w hw;have hw:Wd Γ (.blk b15 (.cells (Q1 x).toArray 219)::B2.mpT Tryz.prog 3 Value.bool bm (L4 (r::(es.take k).map (·.2)))::.blk b3 (.cells #[.int .i64 r,.slice am nm cm] 145)::.blk b2 (.cells #[.string H.Name,.slice a1 n1 c1,.slice a2 n2 c2,.slice a3 n3 c3,.slice a4 n4 c4,.slice a5 n5 c5] 69)::S) w:=hw
  refine A6 ?_;letI hdm:Decidable (x.2∈r::(es.take k).map (·.2)):=Classical.propDecidable _
  refine Zz rfl rfl (v:=.bool (decide (x.2∈r::(es.take k).map (·.2)))) ?_ ?_
  ·by_cases hm:x.2∈r::(es.take k).map (·.2)
   ·rw[decide_eq_true hm];exact L6 (P:=Tryz.prog) (K:=3) (α:=Int) (f:=Value.bool) (i:=1) hw rfl rfl rfl (u7 hm) false
   ·rw[decide_eq_false hm];exact L5 (P:=Tryz.prog) (K:=3) (α:=Int) (f:=Value.bool) (i:=1) hw rfl rfl rfl (seen_none hm) false
  have hx1:(r::es.map (·.2))[k+1]? = some x.2:=by simp[hx]
  have ht1:(r::es.map (·.2)).take (k+1)=r::(es.take k).map (·.2):=by simp[List.map_take]
  have ht2:r::(es.take (k+1)).map (·.2)=(r::(es.take k).map (·.2))++[x.2]:=by rw[C9 hx];simp
  refine A6 ?_;refine A7 rfl (fun h2=>?_) (fun h2=>?_)
  ·have hm:x.2∈r::(es.take k).map (·.2):=by simpa using h2
   rw[if_neg (by rw[CE (q9 hx1 (by rw[ht1];exact hm))];simp)]
   refine A6 ?_;exact⟨_,rfl,rfl,hw.ds [0,0,0,0]⟩
  ·have hm:x.2∉r::(es.take k).map (·.2):=by simpa using h2
   refine A6 ?_;refine F0 rfl rfl (I7 (P:=Tryz.prog) (K:=3) (α:=Int) (f:=Value.bool) (i:=1) (v:=true) hw rfl rfl rfl rfl fun w hw=>?_)
   rw[Z3 hm,←ht2]at hw;have hw:Wd Γ (B2.mpT Tryz.prog 3 Value.bool bm (L4 (r::(es.take (k+1)).map (·.2)))::.blk b3 (.cells #[.int .i64 r,.slice am nm cm] 145)::.blk b2 (.cells #[.string H.Name,.slice a1 n1 c1,.slice a2 n2 c2,.slice a3 n3 c3,.slice a4 n4 c4,.slice a5 n5 c5] 69)::S) w:=hw.drop
   refine A6 ?_;exact⟨μ-1,by omega,k+1,by omega,⟨rfl,rfl,rfl,rfl,rfl,trivial⟩,by rw[ht2];exact L8.2 ⟨hnd,hm⟩,hw⟩
 have hkn:¬k<nm:=by have:=of_decide_eq_false h;omega
 rw[List.take_of_length_le (by omega)]at hnd
 rw[if_pos (W8 hnd)];have hw:Wd Γ (.blk b3 (.cells #[.int .i64 r,.slice am nm cm] 145)::.blk b2 (.cells #[.string H.Name,.slice a1 n1 c1,.slice a2 n2 c2,.slice a3 n3 c3,.slice a4 n4 c4,.slice a5 n5 c5] 69)::S) w:=hw.drop
 clear h hkn hk;refine A6 ?_;refine F0 rfl rfl (J1 (K:=3) (α:=Int) (f:=Value.bool) hw fun bs w hw=>?_)
 have hw:=hw.ps [1]
 refine A6 ?_;refine F0 rfl rfl (GM (I7 (P:=Tryz.prog) (K:=3) (α:=Int) (f:=Value.bool) (i:=1) (v:=true) (a:=r) hw rfl rfl rfl rfl fun w hw=>?_))
 rw[show ([]:List (Int×Bool))=L4 ([]:List Int) from rfl,Z3 (by simp)]at hw
 have hw:Wd Γ (B2.mpT Tryz.prog 3 Value.bool bs (L4 (r::(es.take 0).map (·.2)))::.blk b3 (.cells #[.int .i64 r,.slice am nm cm] 145)::.blk b2 (.cells #[.string H.Name,.slice a1 n1 c1,.slice a2 n2 c2,.slice a3 n3 c3,.slice a4 n4 c4,.slice a5 n5 c5] 69)::S) w:=hw.ps [1]
 refine A6 ?_;refine F0 rfl rfl (J1 (K:=3) (α:=Int) (f:=Value.bool) hw fun bd w hw=>?_)
 have hw:Wd Γ (B2.mpT Tryz.prog 3 Value.bool bd (L4 ([]:List Int))::B2.mpT Tryz.prog 3 Value.bool bs (L4 (r::(es.take 0).map (·.2)))::.blk b3 (.cells #[.int .i64 r,.slice am nm cm] 145)::.blk b2 (.cells #[.string H.Name,.slice a1 n1 c1,.slice a2 n2 c2,.slice a3 n3 c3,.slice a4 n4 c4,.slice a5 n5 c5] 69)::S) w:=hw
 refine A6 ?_;refine B5 (fun μ ρ w=>∃(k:Nat) (d:List Int),μ+k=nm∧Has ρ [(3,.pointer (some ⟨b3,0,none⟩)),(16,.map (some bs)),(17,.map (some bd)),(88,.slice am nm cm),(89,.int .i64 nm),(90,.int .i64 k)]∧(∀y,y∈d↔Fx es (k-1) y)∧(∀i e,i<k→es[i]? = some e→e.1∈r::(es.take i).map (·.2)∧¬Fx es i e.1)∧Wd Γ (B2.mpT Tryz.prog 3 Value.bool bd (L4 d)::B2.mpT Tryz.prog 3 Value.bool bs (L4 (r::(es.take k).map (·.2)))::.blk b3 (.cells #[.int .i64 r,.slice am nm cm] 145)::.blk b2 (.cells #[.string H.Name,.slice a1 n1 c1,.slice a2 n2 c2,.slice a3 n3 c3,.slice a4 n4 c4,.slice a5 n5 c5] 69)::S) w) nm ⟨0,[],by omega,⟨rfl,rfl,rfl,rfl,rfl,rfl,trivial⟩,fun y=>⟨fun h=>by simp at h,fun⟨j,_,_,h,_⟩=>by omega⟩,fun i e h=>by omega,hw⟩ ?_
 clear hw;rintro μ ρ w ⟨k,d,hk,hρ,hd,hall,hw⟩
 rw[hρ.eq];clear hρ;refine A6 ?_;refine A7 rfl (fun h=>?_) (fun h=>?_)
 ·have hkn:k<nm:=by have:=of_decide_eq_true h;omega
  obtain⟨x,hx⟩:=B4 (l:=es) (k:=k) (by omega)
  obtain⟨y,hy⟩:∃y:Pl,0<k→es[((k:Int)-1).toNat]? = some y:=by
   by_cases h0:0<k
   ·obtain⟨y,hy⟩:=B4 (l:=es) (k:=((k:Int)-1).toNat) (by omega)
    exact⟨y,fun _=>hy⟩
   ·exact⟨x,fun h=>absurd h h0⟩
  refine A6 ?_;refine C0 ?_;intro b19 w hw;refine A6 ?_;refine B1 ?_;intro w hw;have hw:Wd Γ (.blk b19 (.cells (Q1 x).toArray 219)::B2.mpT Tryz.prog 3 Value.bool bd (L4 d)::B2.mpT Tryz.prog 3 Value.bool bs (L4 (r::(es.take k).map (·.2)))::.blk b3 (.cells #[.int .i64 r,.slice am nm cm] 145)::.blk b2 (.cells #[.string H.Name,.slice a1 n1 c1,.slice a2 n2 c2,.slice a3 n3 c3,.slice a4 n4 c4,.slice a5 n5 c5] 69)::S) w:=hw
  refine A6 ?_;refine I5 (by kernel_rfl) (by kernel_rfl) hw ?_
  refine EX ?_;apply L1
  refine qG ?_ (hy:=fun hc w hw=>by
   have h0:=hy (by have:=of_decide_eq_true hc;omega)
   exact Zf)
  refine EX ?_;intro w hw;have hy1:0<k→es[k-1]? = some y:=fun h0=>by rw[←hy h0,show ((k:Int)-1).toNat=k-1 by omega]
  refine Ft (fun ρ w=>∃(d:List Int),Has ρ [(3,.pointer (some ⟨b3,0,none⟩)),(16,.map (some bs)),(17,.map (some bd)),(19,.pointer (some ⟨b19,0,none⟩)),(88,.slice am nm cm),(89,.int .i64 nm),(90,.int .i64 k)]∧(∀y,y∈d↔Fx es k y)∧Wd Γ (.blk b19 (.cells (Q1 x).toArray 219)::B2.mpT Tryz.prog 3 Value.bool bd (L4 d)::B2.mpT Tryz.prog 3 Value.bool bs (L4 (r::(es.take k).map (·.2)))::.blk b3 (.cells #[.int .i64 r,.slice am nm cm] 145)::.blk b2 (.cells #[.string H.Name,.slice a1 n1 c1,.slice a2 n2 c2,.slice a3 n3 c3,.slice a4 n4 c4,.slice a5 n5 c5] 69)::S) w) ?_ ?_
  ·refine A7 rfl (fun h2=>?_) (fun h2=>?_)
   ·have h2:(decide ((k:Int) > 0)&&decide (y.1≠x.1))=true:=h2
    simp only[Bool.and_eq_true,decide_eq_true_eq]at h2
    have h0:0<k:=by omega
    have hy0:=hy h0
    obtain⟨d',hd1,hd2⟩:=Mv (d:=d) (x:=y.1)
    refine A6 ?_;refine F0 rfl rfl (I7 (P:=Tryz.prog) (K:=3) (α:=Int) (f:=Value.bool) (i:=1) (v:=true) (a:=y.1) hw rfl rfl rfl rfl fun w hw=>?_)
    rw[hd1]at hw;refine A6 ?_;exact⟨d',⟨rfl,rfl,rfl,rfl,rfl,rfl,rfl,trivial⟩,fun z=>by rw[hd2,MM hx hy1,hd];exact or_congr Iff.rfl ⟨fun e=>⟨h0,h2.2,e.symm⟩,fun e=>e.2.2.symm⟩,hw⟩
   ·have h2:(decide ((k:Int) > 0)&&decide (y.1≠x.1))=false:=h2
    refine A6 ?_;refine⟨d,⟨rfl,rfl,rfl,rfl,rfl,rfl,rfl,trivial⟩,fun z=>?_,hw⟩
    rw[MM hx hy1,hd];refine⟨.inl,fun hh=>?_⟩
    rcases hh with hh|⟨e1,e2,-⟩
    ·exact hh
    ·have:(decide ((k:Int) > 0)&&decide (y.1≠x.1))=true:=by
      rw[decide_eq_true (show (k:Int) > 0 by omega),decide_eq_true e2];rfl
     rw[this]at h2;cases h2
  ·clear hw;rintro ρ w ⟨d,hρ,hd,hw⟩
   rw[hρ.eq];clear hρ;letI hdm:Decidable (x.1∈r::(es.take k).map (·.2)):=Classical.propDecidable _
   letI hdm2:Decidable (x.1∈d):=Classical.propDecidable _
   have ht2:r::(es.take (k+1)).map (·.2)=(r::(es.take k).map (·.2))++[x.2]:=by rw[C9 hx];simp
   refine A6 ?_;refine Zz rfl rfl (v:=.bool (decide (x.1∈r::(es.take k).map (·.2)))) ?_ ?_
   ·by_cases hm:x.1∈r::(es.take k).map (·.2)
    ·rw[decide_eq_true hm];exact L6 (P:=Tryz.prog) (K:=3) (α:=Int) (f:=Value.bool) (i:=2) hw rfl rfl rfl (u7 hm) false
    ·rw[decide_eq_false hm];exact L5 (P:=Tryz.prog) (K:=3) (α:=Int) (f:=Value.bool) (i:=2) hw rfl rfl rfl (seen_none hm) false
   refine A6 ?_;refine lG (v:=.bool (decide (x.1∈d))) ?_ (hv:=fun hc=>by
    by_cases hm:x.1∈d
    ·rw[decide_eq_true hm];exact L6 (P:=Tryz.prog) (K:=3) (α:=Int) (f:=Value.bool) (i:=1) hw B8 B8 rfl (u7 hm) false
    ·rw[decide_eq_false hm];exact L5 (P:=Tryz.prog) (K:=3) (α:=Int) (f:=Value.bool) (i:=1) hw B8 B8 rfl (seen_none hm) false)
   refine A6 ?_;refine A7 rfl (fun h2=>?_) (fun h2=>?_)
   ·have h2:((!decide (x.1∈r::(es.take k).map (·.2)))||decide (x.1∈d))=true:=h2
    rw[if_neg (by
     rw[CE (p:=Mr r es) (fun hP=>by
      obtain⟨p1,p2⟩:=hP k x hx
      rw[decide_eq_true p1,decide_eq_false (fun hh=>p2 ((hd x.1).1 hh))]at h2;cases h2)]
     simp)]
    refine A6 ?_;exact⟨_,rfl,rfl,hw.ds [0,0,0,0,0]⟩
   ·have h2:((!decide (x.1∈r::(es.take k).map (·.2)))||decide (x.1∈d))=false:=h2
    obtain⟨q1,q2⟩:=Bool.or_eq_false_iff.1 h2
    have q1:x.1∈r::(es.take k).map (·.2):=by
     by_cases hm:x.1∈r::(es.take k).map (·.2)
     ·exact hm
     ·rw[decide_eq_false hm]at q1;cases q1
    have q2:x.1∉d:=of_decide_eq_false q2
    have hm:x.2∉r::(es.take k).map (·.2):=by
     have hs:(r::(es.take (k+1)).map (·.2)).Nodup:=by
      rw[List.map_take];exact((List.take_sublist _ _).cons_cons r).nodup hnd
     rw[ht2]at hs;exact(L8.1 hs).2
    refine A6 ?_;refine F0 rfl rfl (I7 (P:=Tryz.prog) (K:=3) (α:=Int) (f:=Value.bool) (i:=2) (v:=true) (a:=x.2) hw rfl rfl rfl rfl fun w hw=>?_)
    rw[Z3 hm,←ht2]at hw;refine A6 ?_;refine⟨μ-1,by omega,k+1,d,by omega,⟨rfl,rfl,rfl,rfl,rfl,rfl,trivial⟩,hd,fun i e hi he=>?_,hw.drop⟩
    by_cases ei:i=k
    ·subst ei;rw[hx]at he;cases he
     exact⟨q1,fun hh=>q2 ((hd x.1).2 hh)⟩
    ·exact hall i e (by omega) he
 ·have hkn:¬k<nm:=by have:=of_decide_eq_false h;omega
  rw[if_pos (W8 (p:=Mr r es) (fun i e he=>hall i e (by have:=(List.getElem?_eq_some_iff.1 he).1;omega) he))]
  refine A6 ?_;exact⟨_,rfl,rfl,hw.ds [0,0,0,0]⟩⟩
end Go.Proofs.YtlimglpjpcfpdaaGreat
end
section
open Go Mk
namespace Go.Proofs.YtlimglpjpcfpdaaGreat
theorem Hk{l:List I1}{id:Int}(h:(E6 l id).2=true):(E6 l id).1∈l∧(E6 l id).1.ID=id:=by
 rcases HJ l id with⟨-,h2,-⟩|⟨k,x,-,hx,he,h2⟩
 ·rw[h2]at h;cases h
 ·rw[h2];exact⟨List.mem_of_getElem? hx,he⟩
theorem CS{H:H1}(hv:F3 H=0){c:I1}(hc:c∈H.Cores):0≤c.Node∧c.Node<64:=by
 obtain⟨-,-,h3,-⟩:=IE hv
 unfold M4 at h3;simp only[Bool.and_eq_true]at h3
 have:=List.all_eq_true.1 h3.1.1 c hc
 simp[Aw,K3]at this
 omega
theorem DG{H:H1}(hv:F3 H=0){c:I1}(hc:c∈H.Cores):Reach H.Links ((F7 H).headD 0) c.Node:=by
 obtain⟨-,-,-,-,-,-,-,-,h9⟩:=IE hv
 have hP:ZB H:=by
  by_cases h:ZB H
  ·exact h
  ·unfold Ig at h9;rw[CE h]at h9;cases h9
 refine hP c.Node ?_
 unfold F7;exact List.mem_append_left _ (List.mem_append_left _ (List.mem_map.2 ⟨c,hc,rfl⟩))
theorem w4{H:H1}(hv:F3 H=0){x:Int}(h:(E6 H.Cores x).2=true):0≤E9 H x∧E9 H x<64:=CS hv (Hk h).1
theorem Wi{H:H1}(hv:F3 H=0){x y:Int}(h:(E6 H.Cores x).2=true)(k:(E6 H.Cores y).2=true):0≤F5 H x y∧F5 H x y≤63000000:=by
 have hL:=T6 hv
 have hx:=w4 hv h
 refine⟨?_,(SN hL hx).2⟩
 exact Ki hL hx (DG hv (Hk h).1) (DG hv (Hk k).1)
def Du(f:Int→Int)(a v:Int):Int→Int:=fun x=>if a=x then v else f x
def Iy(far:Int→Int→Int)(cost:Int):(Int→Int)→(Int→Int)→List Pl→List Int
 | _,_,[]=>[]
 | st,sn,e::es=>(st e.1+(sn e.1+1)*cost+far e.1 e.2)::Iy far cost (Du st e.2 (st e.1+(sn e.1+1)*cost+far e.1 e.2)) (Du sn e.1 (sn e.1+1)) es
theorem Nz(far:Int→Int→Int)(cost:Int):∀(es:List Pl) (st sn:Int→Int),(Iy far cost st sn es).length=es.length
 | [],_,_=>rfl
 | e::es,st,sn=>by unfold Iy;rw[List.length_cons,Nz far cost es,List.length_cons]
def Nt(l:List (Int×Int))(f:Int→Int):Prop:=∀x,(F1 l x).getD 0=f x
theorem Kr{l:List (Int×Int)}{f:Int→Int}(h:Nt l f)(a v:Int):Nt (Q3 l a v) (Du f a v):=fun x=>by
 rw[CP];unfold Du;split
 ·rfl
 ·exact h x
theorem Ai{Γ:C8}{S:List B2}{w:World}{ρ:Fr}{d:Option Tmp}{T ty ET:TypeId}{pos:String}{es:Array Edge}{g:Option (Nat×Bool)}{x y:Operand}{l:List (Int×Int)}{f:Int→Int}{a:Int}{bm i:Nat}[hM:BU Tryz.prog T 3 ET][hz:WN Tryz.prog ET (.int .i64 0)](hw:Wd Γ S w)(hl:Nt l f)(hi:S[i]? = some (B2.mpT Tryz.prog 3 (fun n:Int=>Value.int .i64 n) bm l))(hx:ev ρ x=.map (some bm))(hy:ev ρ y=.int .i64 a) :
  Mk.Yields Tryz.prog ⟨d,.lookup T x y false,ty,pos,es,g⟩ ρ w (.int .i64 (f a)):=by
 have h:=hl a
 cases hg:F1 l a with
 | some v=>
  rw[hg]at h;rw[←h];exact L6 (f:=fun n:Int=>Value.int .i64 n) hw hx hy hi hg false
 | none=>
  rw[hg]at h;rw[←h];exact L5 (f:=fun n:Int=>Value.int .i64 n) hw hx hy hi hg false
set_option maxHeartbeats 8000000
attribute [local irreducible] Calls
theorem Xo(a b:Int):max a b=if a<b then b else a:=by
 split <;> omega
theorem LA{Γ:C8}{u:Value}{H:H1}[hh:Cl Γ u H]{r cost err:Int}{am:Option Addr}{nm cm:Nat}{l:List Int}(hlen:l.length≤1000)
  (hA:∀S w,Wd Γ S w→Calls Tryz.prog 130 #[u,.agg #[.int .i64 r,.slice am nm cm],.int .i64 cost] w fun e w'=>∃v,e=.returned (.tuple #[v,.int .i64 err])∧Wd Γ (.own v 3 1 (A8 l)::S) w') {S:List B2} {w:World} (hw:Wd Γ S w) :
  Calls Tryz.prog 61 #[u,.agg #[.int .i64 r,.slice am nm cm],.int .i64 cost] w fun e w'=>e=.returned (.tuple #[.int .i64 (if err=0 then l.foldl max 0 else 0),.int .i64 err])∧Wd Γ S w':=by
 obtain⟨a1,n1,c1,a2,n2,c2,a3,n3,c3,a4,n4,c4,a5,n5,c5,cs,rfl,-⟩:=hh.h;refine A9 Tryz.func61 rfl rfl ?_
 refine A6 ?_;refine H9 ?_;intro b3 w hw;refine H9 ?_;intro b4 w hw;have hw:Wd Γ (.blk b4 (.cells #[.int .i64 r,.slice am nm cm] 145)::.blk b3 (.cells #[.string H.Name,.slice a1 n1 c1,.slice a2 n2 c2,.slice a3 n3 c3,.slice a4 n4 c4,.slice a5 n5 c5] 69)::S) w:=hw
 refine A6 ?_;refine D3 ((hA _ w hw).mono fun e w hq=>?_)
 obtain⟨v,rfl,hw⟩:=hq;obtain⟨av,nv,cv,rfl,hnv,hncv,-⟩:=hw.own_shape (i:=0) rfl
 simp only[A8,List.length_map]at hnv
 refine⟨_,rfl,?_⟩;refine A6 ?_;refine A7 rfl (fun h=>?_) (fun h=>?_)
 ·have h:¬err=0:=by simpa using h
  rw[if_neg h];refine A6 ?_;exact⟨_,rfl,rfl,hw.ds [0,0,0]⟩
 have h:err=0:=by simpa using h
 subst h;rw[if_pos rfl];refine A6 ?_;refine B5 (fun μ ρ w=>∃(k:Nat),μ+k=nv∧Has ρ [(10,.int .i64 ((l.take k).foldl max 0)),(23,.slice av nv cv),(24,.int .i64 nv),(25,.int .i64 k)]∧Wd Γ (.own (.slice av nv cv) 3 1 (A8 l)::.blk b4 (.cells #[.int .i64 r,.slice am nm cm] 145)::.blk b3 (.cells #[.string H.Name,.slice a1 n1 c1,.slice a2 n2 c2,.slice a3 n3 c3,.slice a4 n4 c4,.slice a5 n5 c5] 69)::S) w) nv ⟨0,by omega,⟨rfl,rfl,rfl,rfl,trivial⟩,hw⟩ ?_
 clear hw;rintro μ ρ w ⟨k,hk,hρ,hw⟩
 rw[hρ.eq];clear hρ;refine A6 ?_;refine A7 rfl (fun h=>?_) (fun h=>?_)
 ·have hkn:k<nv:=by have:=of_decide_eq_true h;omega
  obtain⟨x,hx⟩:=B4 (l:=l) (k:=k) (by omega)
  have hst:(l.take (k+1)).foldl max 0=max ((l.take k).foldl max 0) x:=by rw[C9 hx,List.foldl_append];rfl
  refine A6 ?_;refine⟨μ-1,by omega,k+1,by omega,⟨?_,rfl,rfl,rfl,trivial⟩,hw⟩
  rw[hst,Xo];rfl
 ·have hkn:¬k<nv:=by have:=of_decide_eq_false h;omega
  rw[List.take_of_length_le (by omega)]
  refine A6 ?_;exact⟨_,rfl,rfl,hw.ds [0,0,0]⟩
noncomputable def N7(bb:Nat)(H:H1)(a1:Option Addr)(n1 c1:Nat)(a2:Option Addr)(n2 c2:Nat)(a3:Option Addr)(n3 c3:Nat)(a4:Option Addr)(n4 c4:Nat)(a5:Option Addr)(n5 c5:Nat):B2:=
 B2.pk (fun q:Nat×List (Int×Value)=>(q.2.map (·.1)).Nodup) (fun q=>Gr bb H a1 n1 c1 a2 n2 c2 a3 n3 c3 a4 n4 c4 a5 n5 c5 q.1::G1 q.1 q.2::q.2.map (Kw H))
theorem Kn{Γ:C8}{H:H1}{a1:Option Addr}{n1 c1:Nat}{a2:Option Addr}{n2 c2:Nat}{a3:Option Addr}{n3 c3:Nat}{a4:Option Addr}{n4 c4:Nat}{a5:Option Addr}{n5 c5:Nat}[hh:Cl Γ (.agg #[.string H.Name,.slice a1 n1 c1,.slice a2 n2 c2,.slice a3 n3 c3,.slice a4 n4 c4,.slice a5 n5 c5]) H](hL:Z9 H.Links){x y:Int}(hx:0≤E9 H x∧E9 H x<64)(hy:0≤E9 H y∧E9 H y<64){bb:Nat}{S:List B2}{w:World}(hw:Wd Γ (N7 bb H a1 n1 c1 a2 n2 c2 a3 n3 c3 a4 n4 c4 a5 n5 c5::S) w) :
  Calls Tryz.prog 195 #[.pointer (some ⟨bb,0,none⟩),.int .i64 x,.int .i64 y] w fun e w'=>e=.returned (.int .i64 (F5 H x y))∧Wd Γ (N7 bb H a1 n1 c1 a2 n2 c2 a3 n3 c3 a4 n4 c4 a5 n5 c5::S) w':=by
 unfold N7 at hw;obtain⟨⟨bm,l⟩,hl,hw⟩:=Wd.unpack hw
 refine(WI (bm:=bm) (l:=l) hL hx hy hl (S:=S) hw).mono fun e w' hq=>?_
 obtain⟨h1,l',hl',hw'⟩:=hq;unfold N7;exact⟨h1,Wd.pack (bm,l') hl' hw'⟩
theorem OH{Γ:C8}{H:H1}{a1:Option Addr}{n1 c1:Nat}{a2:Option Addr}{n2 c2:Nat}{a3:Option Addr}{n3 c3:Nat}{a4:Option Addr}{n4 c4:Nat}{a5:Option Addr}{n5 c5:Nat}{bb bm:Nat}{S:List B2}{w:World}(hw:Wd Γ (Gr bb H a1 n1 c1 a2 n2 c2 a3 n3 c3 a4 n4 c4 a5 n5 c5 bm::G1 bm []::S) w):Wd Γ (N7 bb H a1 n1 c1 a2 n2 c2 a3 n3 c3 a4 n4 c4 a5 n5 c5::S) w:=by
 unfold N7;exact Wd.pack (bm,[]) (by simp) hw
theorem Tr(t:Int→Int)(a b:Int):LR [cI (t b) (t a),cI a b]=y4 t a b:=by
 unfold LR LR LR y4;rw[To]
theorem QZ{Γ:C8}{S:List B2}{w0:World}{i j b5 bt:Nat}{lt:List (Int×Int)}{tf:Int→Int}(hw0:Wd Γ S w0)(hj:S[j]? = some (.blk b5 (.cells #[.map (some bt)] 271)))(hi:S[i]? = some (B2.mpT Tryz.prog 3 (fun n:Int=>Value.int .i64 n) bt lt))(hm:Nt lt tf)(a b:Int) :
  Calls Tryz.prog 197 #[.int .i64 a,.int .i64 b,.pointer (some ⟨b5,0,none⟩)] w0 fun e w'=>e=.returned (.int .i64 (y4 tf a b))∧∃S'',Wd (EP w0) S'' w':=by
 have hb5:(EP w0).imm b5=some (.cells #[.map (some bt)] 271):=hw0.at_blk hj
 obtain⟨en,clock,hmp,-⟩:=hw0.at_mp hi
 have hw:Wd (EP w0) [] w0:=HE w0
 refine A9 Tryz.func197 rfl rfl ?_
 refine A6 ?_;have hl5:w0.cell? ⟨b5,0,none⟩=some (.map (some bt)):=cell_of (hw.imm b5 _ hb5) rfl
 refine lY (v:=.map (some bt)) ?_ (hy:=Gu (A:=⟨b5,0,none⟩) rfl hl5)
 refine A6 ?_;refine lY (v:=.int .i64 (tf b)) ?_ (hy:=Ai hw0 hm hi rfl rfl)
 refine A6 ?_;refine lY (v:=.map (some bt)) ?_ (hy:=Gu (A:=⟨b5,0,none⟩) rfl hl5)
 refine A6 ?_;refine lY (v:=.int .i64 (tf a)) ?_ (hy:=Ai hw0 hm hi rfl rfl)
 refine A6 ?_;refine B6 [[.int .i64 (cI (tf b) (tf a))],[.int .i64 (cI a b)]] ?_
 intro aq w hw;refine D3 ((Ja [cI (tf b) (tf a),cI a b] hw (P6.own (i:=0) hw rfl)).mono fun e w hq=>?_)
 obtain⟨rfl,hw⟩:=hq;refine⟨_,rfl,?_⟩;refine A6 ?_;exact⟨_,rfl,(by rw[←Tr];rfl),_,hw⟩
theorem Ub{Γ:C8}{S:List B2}{w:World}{i j b5 bt:Nat}{lt:List (Int×Int)}{tf:Int→Int}{v:Value}{xs:List Int}(hw:Wd Γ (.own v 3 1 (A8 xs)::S) w)(hj:S[j]? = some (.blk b5 (.cells #[.map (some bt)] 271)))(hi:S[i]? = some (B2.mpT Tryz.prog 3 (fun n:Int=>Value.int .i64 n) bt lt))(hm:Nt lt tf)(hl:xs.length≤1000) :
  Calls Tryz.prog 196 #[v,.func (.func 197) #[] #[.pointer (some ⟨b5,0,none⟩)]] w fun e w'=>e=.returned (.tuple #[])∧Wd Γ (.own v 3 1 (A8 (CW tf xs))::S) w':=by
 have:=Ra (f:=fun n:Int=>Value.int .i64 n) cD (fun _=>rfl) (y4 tf) 197 [.pointer (some ⟨b5,0,none⟩)] xs v hw (i:=0) rfl (WZ tf) (YR tf) (by omega) (fun dk w' hw' x y=>
  QZ hw' (j:=j+1) (i:=i+1) hj hi hm x y)
 exact this
noncomputable def ER(H:H1)(x:Int):Int:=(E6 H.Cores x).1.Speed
theorem VR{Γ:C8}{H:H1}{a1:Option Addr}{n1 c1:Nat}{a2:Option Addr}{n2 c2:Nat}{a3:Option Addr}{n3 c3:Nat}{a4:Option Addr}{n4 c4:Nat}{a5:Option Addr}{n5 c5:Nat}[hh:Cl Γ (.agg #[.string H.Name,.slice a1 n1 c1,.slice a2 n2 c2,.slice a3 n3 c3,.slice a4 n4 c4,.slice a5 n5 c5]) H]{b4:Nat}{S:List B2}{w:World}(a b:Int)(hw:Wd Γ (.blk b4 (.cells #[.string H.Name,.slice a1 n1 c1,.slice a2 n2 c2,.slice a3 n3 c3,.slice a4 n4 c4,.slice a5 n5 c5] 69)::S) w) :
  Calls Tryz.prog 128 #[.int .i64 a,.int .i64 b,.pointer (some ⟨b4,0,none⟩)] w fun e w'=>e=.returned (.int .i64 (y4 (ER H) a b))∧Wd Γ (.blk b4 (.cells #[.string H.Name,.slice a1 n1 c1,.slice a2 n2 c2,.slice a3 n3 c3,.slice a4 n4 c4,.slice a5 n5 c5] 69)::S) w':=by
 have he:y4 (ER H) a b=LR [cI (E6 H.Cores b).1.Speed (E6 H.Cores a).1.Speed,cI a b]:=(Tr (ER H) a b).symm
 rw[he];refine A9 Tryz.func128 rfl rfl ?_
 repeat first|refine U9 ?_|refine V5 ?_;intro w hw
 refine C0 ?_;intro b6 w hw;refine B1 ?_;intro w hw;repeat first|refine U9 ?_|refine V5 ?_;intro w hw
 refine C0 ?_;intro b8 w hw;refine B1 ?_;intro w hw;have hw:Wd Γ (.blk b8 (.cells (enc (E6 H.Cores b).1).toArray 72)::.blk b6 (.cells (enc (E6 H.Cores a).1).toArray 72)::.blk b4 (.cells #[.string H.Name,.slice a1 n1 c1,.slice a2 n2 c2,.slice a3 n3 c3,.slice a4 n4 c4,.slice a5 n5 c5] 69)::S) w:=hw
 refine A6 ?_;refine B6 [[.int .i64 (cI (E6 H.Cores b).1.Speed (E6 H.Cores a).1.Speed)],[.int .i64 (cI a b)]] ?_
 intro aq w hw;refine D3 ((Ja [cI (E6 H.Cores b).1.Speed (E6 H.Cores a).1.Speed,cI a b] hw (P6.own (i:=0) hw rfl)).mono fun e w hq=>?_)
 obtain⟨rfl,hw⟩:=hq;refine⟨_,rfl,?_⟩;refine A6 ?_;exact⟨_,rfl,rfl,hw.ds [0,0,0]⟩
def EO(t:Int→Int):Int→List Int→Int
 | m,[]=>m
 | m,x::l=>EO t (if y4 t x m<0 then x else m) l
theorem ZU{Γ : C8}{H : H1}{a1 : Option Addr}{n1 c1 : Nat}{a2 : Option Addr}{n2 c2 : Nat}{a3 : Option Addr}{n3 c3 : Nat}{a4 : Option Addr}{n4 c4 : Nat}{a5 : Option Addr}{n5 c5 : Nat}[hh : Cl Γ (.agg #[.string H.Name, .slice a1 n1 c1, .slice a2 n2 c2, .slice a3 n3 c3, .slice a4 n4 c4, .slice a5 n5 c5]) H]{b4 : Nat}{S : List B2}{w : World}{v : Value}{x0 : Int}{xs : List Int}(hl : xs.length ≤ 1000)(hw : Wd Γ (.blk b4 (.cells #[.string H.Name, .slice a1 n1 c1, .slice a2 n2 c2, .slice a3 n3 c3, .slice a4 n4 c4, .slice a5 n5 c5] 69) :: .own v 3 1 (A8 (x0 :: xs)) :: S) w) :
    Calls Tryz.prog 127 #[v,.func (.func 128) #[] #[.pointer (some ⟨b4,0,none⟩)]] w fun e w'=>e=.returned (.int .i64 (EO (ER H) x0 xs))∧Wd Γ (.blk b4 (.cells #[.string H.Name,.slice a1 n1 c1,.slice a2 n2 c2,.slice a3 n3 c3,.slice a4 n4 c4,.slice a5 n5 c5] 69)::.own v 3 1 (A8 (x0::xs))::S) w':=by
  obtain⟨a,n,c,rfl,hn,hnc,hc⟩:=hw.own_shape (i:=1) rfl
  simp only[A8,List.length_map,List.length_cons]at hn
  refine A9 Tryz.func127 rfl rfl ?_
  refine A6 ?_;refine P7 (by exact congrArg Value.bool (decide_eq_false (by omega))) ?_
  have hx0:(x0::xs)[0]? = some x0:=rfl
  refine A6 ?_;refine B5 (fun μ ρ w=>∃(k:Nat) (m:Int),μ+k=n∧1≤k∧EO (ER H) m ((x0::xs).drop k)=EO (ER H) x0 xs∧Has ρ [(0,.slice a n c),(1,.func (.func 128) #[] #[.pointer (some ⟨b4,0,none⟩)]),(5,.int .i64 m),(6,.int .i64 k)]∧Wd Γ (.blk b4 (.cells #[.string H.Name,.slice a1 n1 c1,.slice a2 n2 c2,.slice a3 n3 c3,.slice a4 n4 c4,.slice a5 n5 c5] 69)::.own (.slice a n c) 3 1 (A8 (x0::xs))::S) w) (n-1) ⟨1,x0,by omega,Nat.le_refl _,rfl,⟨rfl,rfl,rfl,rfl,trivial⟩,hw⟩ ?_
  clear hw;rintro μ ρ w ⟨k,m,hk,hk1,hF,hρ,hw⟩
  rw[hρ.eq];clear hρ;refine A6 ?_;refine A7 rfl (fun h=>?_) (fun h=>?_)
  · have hkn:k<n:=by have:=of_decide_eq_true h;omega
    obtain⟨x,hx⟩:=B4 (l:=x0::xs) (k:=k) (by simp;omega)
    have hdr:(x0::xs).drop k=x::(x0::xs).drop (k+1):=by
      obtain⟨q1,q2⟩:=List.getElem?_eq_some_iff.1 hx
      rw[List.drop_eq_getElem_cons q1,q2]
    rw[hdr]at hF;refine A6 ?_;refine Cp (fst:=[]) (cap:=[.pointer (some ⟨b4,0,none⟩)]) (vs:=[.int .i64 x,.int .i64 m]) ?_
    refine(VR x m hw).mono ?_
    clear hw;rintro e w ⟨rfl,hw⟩
    refine⟨_,rfl,?_⟩;refine A6 ?_;refine A7 rfl (fun h2=>?_) (fun h2=>?_)
    · have h2:y4 (ER H) x m<0:=of_decide_eq_true h2
      have hF : EO (ER H) x ((x0 :: xs).drop (k + 1)) = EO (ER H) x0 xs := by rw [← hF]; conv => rhs; unfold EO
                                                                              rw[if_pos h2]
      refine A6 ?_;exact⟨μ-1,by omega,k+1,x,by omega,by omega,hF,⟨rfl,rfl,rfl,rfl,trivial⟩,hw⟩
    · have h2:¬y4 (ER H) x m<0:=of_decide_eq_false h2
      have hF : EO (ER H) m ((x0 :: xs).drop (k + 1)) = EO (ER H) x0 xs := by rw [← hF]; conv => rhs; unfold EO
                                                                              rw[if_neg h2]
      refine A6 ?_;exact⟨μ-1,by omega,k+1,m,by omega,by omega,hF,⟨rfl,rfl,rfl,rfl,trivial⟩,hw⟩
  · have hkn:¬k<n:=by have:=of_decide_eq_false h;omega
    rw[List.drop_eq_nil_of_le (by simp;omega)]at hF
    have hF:m=EO (ER H) x0 xs:=hF
    refine A6 ?_;exact⟨_,rfl,(by rw[←hF];rfl),hw⟩
end Go.Proofs.YtlimglpjpcfpdaaGreat
end
section
open Go Mk
namespace Go.Proofs.YtlimglpjpcfpdaaGreat
noncomputable def E3(H:H1)(ms:List Int)(n:Int):List Int:=ms.filter fun x=>decide (E9 H x=n)
def X5(N:Int→List Int)(a:Int)(xs:List Int):Int→List Int:=fun x=>if a=x then N x++xs else N x
theorem Uf(N:Int→List Int)(a:Int)(xs ys:List Int):X5 (X5 N a xs) a ys=X5 N a (xs++ys):=by
 funext x;unfold X5;by_cases h:a=x <;> simp[h]
theorem YY(N:Int→List Int)(a:Int):X5 N a []=N:=by
 funext x;unfold X5;simp
noncomputable def U7(H:H1):List Int→Int
 | []=>0
 | x::l=>EO (ER H) x l
theorem QT{t:Int→Int}:∀ {l:List Int} {m:Int},EO t m l=m∨EO t m l∈l
 | [],_=>.inl rfl
 | x::l,m=>by
  unfold EO;rcases QT (t:=t) (l:=l) (m:=if y4 t x m<0 then x else m) with h|h
  ·by_cases e:y4 t x m<0
   ·rw[if_pos e]at h ⊢;exact .inr (by rw[h];simp)
   ·rw[if_neg e]at h ⊢;exact .inl h
  ·exact .inr (by simp[h])
theorem HG{H:H1}{l:List Int}(h:l≠[]):U7 H l∈l:=by
 cases l with
 | nil=>exact absurd rfl h
 | cons x l=>
  show EO (ER H) x l∈x::l
  rcases QT (t:=ER H) (l:=l) (m:=x) with h|h
  ·rw[h];simp
  ·simp[h]
theorem W7{H:H1}{ms:List Int}{n x:Int}:x∈E3 H ms n↔x∈ms∧E9 H x=n:=by
 unfold E3;simp
theorem Vs{H:H1}{ms:List Int}{k:Nat}{x:Int}(h:ms[k]? = some x):X5 (E3 H (ms.take k)) (E9 H x) [x]=E3 H (ms.take (k+1)):=by
 funext n
 rw[C9 h];unfold X5 E3;rw[List.filter_append];by_cases e:E9 H x=n
 ·simp[e]
 ·simp[e]
theorem Ka{H:H1}{ms:List Int}{n:Int}:(E3 H ms n).length≤ms.length:=List.length_filter_le _ _
section
variable (H:H1)(r:Int)(ms:List Int)
noncomputable def U5(n:Int):List Int:=if n=E9 H r∨E3 H ms n=[] then E3 H ms n else [U7 H (E3 H ms n)]
noncomputable def Dd(x:Int):Bool:=decide (E9 H x≠E9 H r∧x∈ms∧x=U7 H (E3 H ms (E9 H x)))
noncomputable def AB(k:Nat)(x:Int):List Int:=if x=r then (List.range k).flatMap (fun i:Nat=>U5 H r ms (i:Int)) else if Dd H r ms x=true∧0≤E9 H x∧E9 H x<(k:Int) then (E3 H ms (E9 H x)).filter (fun y=>decide (y≠x)) else []
noncomputable def W9(x:Int):List Int:=AB H r ms 64 x
end
section
variable {H:H1}{r:Int}{ms:List Int}
theorem Xc:AB H r ms 0=fun _=>[]:=by
 funext x
 unfold AB;split
 ·rfl
 ·rw[if_neg (by omega)]
theorem Od{k:Nat}(hr:r∉ms):AB H r ms (k+1)=if (k:Int)=E9 H r∨E3 H ms (k:Int)=[] then X5 (AB H r ms k) r (E3 H ms (k:Int)) else X5 (X5 (AB H r ms k) r [U7 H (E3 H ms (k:Int))]) (U7 H (E3 H ms (k:Int))) ((E3 H ms (k:Int)).filter (fun y=>decide (y≠U7 H (E3 H ms (k:Int))))):=by
 funext x
 have hroot:∀g:List Int,U5 H r ms (k:Int)=g→AB H r ms (k+1) r=AB H r ms k r++g:=fun g hg=>by
  unfold AB;rw[if_pos rfl,if_pos rfl,List.range_succ,List.flatMap_append];simp[hg]
 by_cases hc:(k:Int)=E9 H r∨E3 H ms (k:Int)=[]
 ·rw[if_pos hc];by_cases hx:x=r
  ·subst hx;rw[hroot (E3 H ms (k:Int)) (by unfold U5;rw[if_pos hc])]
   unfold X5;rw[if_pos rfl]
  ·have:X5 (AB H r ms k) r (E3 H ms (k:Int)) x=AB H r ms k x:=by unfold X5;rw[if_neg (Ne.symm hx)]
   rw[this];unfold AB;rw[if_neg hx,if_neg hx];by_cases hf:Dd H r ms x=true∧0≤E9 H x∧E9 H x<(k:Int)
   ·rw[if_pos hf,if_pos ⟨hf.1,hf.2.1,by omega⟩]
   ·rw[if_neg hf,if_neg];rintro⟨h1,h2,h3⟩;have h4:E9 H x=(k:Int):=by
     have:¬E9 H x<(k:Int):=fun h=>hf ⟨h1,h2,h⟩
     omega
    unfold Dd at h1;obtain⟨e1,e2,-⟩:=of_decide_eq_true h1
    rcases hc with hc|hc
    ·exact e1 (by rw[h4,hc])
    ·have:x∈E3 H ms (k:Int):=W7.2 ⟨e2,h4⟩
     rw[hc]at this;simp at this
 ·rw[if_neg hc];have hne:E3 H ms (k:Int)≠[]:=fun h=>hc (.inr h)
  have hfm:=HG (H:=H) hne
  have hfm2:=W7.1 hfm
  have hfr:U7 H (E3 H ms (k:Int))≠r:=fun e=>hr (e ▸ hfm2.1)
  have hra:U5 H r ms (k:Int)=[U7 H (E3 H ms (k:Int))]:=by unfold U5;rw[if_neg hc]
  generalize hfe:U7 H (E3 H ms (k:Int))=f at *
  by_cases hx:x=r
  ·subst hx;rw[hroot _ hra];unfold X5;rw[if_neg hfr,if_pos rfl]
  ·by_cases hxf:x=f
   ·subst hxf;have e1:X5 (X5 (AB H r ms k) r [x]) x ((E3 H ms (k:Int)).filter (fun y=>decide (y≠x))) x=AB H r ms k x++(E3 H ms (k:Int)).filter (fun y=>decide (y≠x)):=by
     unfold X5;rw[if_pos rfl,if_neg (Ne.symm hx)]
    have e2:AB H r ms k x=[]:=by
     unfold AB;rw[if_neg hx,if_neg (by rw[hfm2.2];omega)]
    have e3:AB H r ms (k+1) x=(E3 H ms (k:Int)).filter (fun y=>decide (y≠x)):=by
     have hf:Dd H r ms x=true:=by
      unfold Dd;refine decide_eq_true ⟨by rw[hfm2.2];exact fun e=>hc (.inl e),hfm2.1,?_⟩
      rw[hfm2.2];exact hfe.symm
     unfold AB;rw[if_neg hx,if_pos ⟨hf,by rw[hfm2.2];omega,by rw[hfm2.2];omega⟩,hfm2.2]
    rw[e1,e2,e3,List.nil_append]
   ·have e1:X5 (X5 (AB H r ms k) r [f]) f ((E3 H ms (k:Int)).filter (fun y=>decide (y≠f))) x=AB H r ms k x:=by
     unfold X5;rw[if_neg (Ne.symm hxf),if_neg (Ne.symm hx)]
    rw[e1];unfold AB;rw[if_neg hx,if_neg hx];by_cases hf:Dd H r ms x=true∧0≤E9 H x∧E9 H x<(k:Int)
    ·rw[if_pos hf,if_pos ⟨hf.1,hf.2.1,by omega⟩]
    ·rw[if_neg hf,if_neg];rintro⟨h1,h2,h3⟩;have h4:E9 H x=(k:Int):=by
      have:¬E9 H x<(k:Int):=fun h=>hf ⟨h1,h2,h⟩
      omega
     unfold Dd at h1;obtain⟨-,-,e3⟩:=of_decide_eq_true h1
     rw[h4,hfe]at e3;exact hxf e3
theorem Jp:W9 H r ms r=(List.range 64).flatMap (fun i:Nat=>U5 H r ms (i:Int)):=by
 unfold W9 AB;rw[if_pos rfl]
theorem DC{a b:Int}(h:b∈W9 H r ms a):b∈ms:=by
 unfold W9 AB at h;by_cases e:a=r
 ·rw[if_pos e]at h;obtain⟨i,-,hi⟩:=List.mem_flatMap.1 h
  unfold U5 at hi;by_cases c:(i:Int)=E9 H r∨E3 H ms (i:Int)=[]
  ·rw[if_pos c]at hi;exact(W7.1 hi).1
  ·rw[if_neg c]at hi;rw[List.mem_singleton.1 hi];exact(W7.1 (HG fun e=>c (.inr e))).1
 ·rw[if_neg e]at h;split at h
  ·exact(W7.1 (List.mem_filter.1 h).1).1
  ·simp at h
theorem Cj{a b:Int}(e:a≠r)(h:b∈W9 H r ms a):Dd H r ms a=true∧0≤E9 H a∧E9 H a<64∧E9 H b=E9 H a∧b≠a:=by
 unfold W9 AB at h;rw[if_neg e]at h;split at h
 ·rename_i hf
  obtain⟨h1,h2⟩:=List.mem_filter.1 h
  exact⟨hf.1,hf.2.1,hf.2.2,(W7.1 h1).2,of_decide_eq_true h2⟩
 ·simp at h
theorem YU{a b:Int}(e:a≠r)(hr:r∉ms)(h:b∈W9 H r ms a):W9 H r ms b=[]:=by
 obtain⟨h1,-,-,h2,h3⟩:=Cj e h
 have hb:=DC h
 have hbr:b≠r:=fun e=>hr (e ▸ hb)
 refine List.eq_nil_iff_forall_not_mem.2 fun c hc=>?_
 obtain⟨k1,-,-,k2,k3⟩:=Cj hbr hc
 unfold Dd at h1 k1;obtain⟨-,-,e1⟩:=of_decide_eq_true h1
 obtain⟨-,-,e2⟩:=of_decide_eq_true k1
 rw[h2]at e2;exact h3 (e2.trans e1.symm)
theorem cJ(hr:r∉ms):Qq (W9 H r ms) 3 r:=by
 intro a ha b hb;have har:a≠r:=fun e=>hr (e ▸ DC ha)
 intro c hc;rw[YU har hr hb]at hc;simp at hc
theorem cq{a b:Int}(h:Do (W9 H r ms) a b):b=a∨b∈ms:=by
 induction h with
 | refl=>exact .inl rfl
 | step hm _ ih=>
  rcases ih with rfl|ih
  ·exact .inr (DC hm)
  ·exact .inr ih
theorem Ro{n:Int}:(U5 H r ms n).length≤(E3 H ms n).length:=by
 unfold U5;split
 ·exact Nat.le_refl _
 ·rename_i h
  have:E3 H ms n≠[]:=fun e=>h (.inr e)
  have:=List.length_pos_iff.2 this
  rw[List.length_singleton];exact this
theorem cw(k:Nat):((List.range k).flatMap (fun i:Nat=>E3 H ms (i:Int))).length≤ms.length:=by
 have h:∀l:List Int,((List.range k).flatMap (fun i:Nat=>l.filter fun x=>decide (E9 H x=(i:Int)))).length≤l.length:=by
  intro l;induction l with
  | nil=>
   have:((List.range k).flatMap fun i:Nat=>([]:List Int).filter fun x=>decide (E9 H x=(i:Int)))=[]:=List.flatMap_eq_nil_iff.2 fun _ _=>rfl
   rw[this];simp
  | cons x l ih=>
   simp only[List.length_flatMap]at ih ⊢
   have:∀k:Nat,((List.range k).map fun i:Nat=>((x::l).filter fun x=>decide (E9 H x=(i:Int))).length).sum≤((List.range k).map fun i:Nat=>(l.filter fun x=>decide (E9 H x=(i:Int))).length).sum+(if 0≤E9 H x∧E9 H x<(k:Int) then 1 else 0):=by
    intro k;induction k with
    | zero=>simp
    | succ k ihk=>
     rw[List.range_succ,List.map_append,List.map_append,List.sum_append,List.sum_append];simp only[List.map_cons,List.map_nil,List.sum_cons,List.sum_nil,Nat.add_zero]
     by_cases e:E9 H x=(k:Int)
     ·rw[List.filter_cons_of_pos (by simpa using e),List.length_cons,if_pos (by omega)]
      rw[if_neg (by omega)]at ihk
      omega
     ·rw[List.filter_cons_of_neg (by simpa using e)]
      by_cases c:0≤E9 H x∧E9 H x<(k:Int)
      ·rw[if_pos c]at ihk;rw[if_pos (by omega)];omega
      ·rw[if_neg c]at ihk;rw[if_neg (by omega)];omega
   have:=this k
   rw[List.length_cons];split at this <;> omega
 exact h ms
theorem HN{k:Nat}{x:Int}:(AB H r ms k x).length≤ms.length:=by
 unfold AB;split
 ·refine Nat.le_trans ?_ (cw (H:=H) k)
  rw[List.length_flatMap,List.length_flatMap];generalize List.range k=rk
  induction rk with
  | nil=>simp
  | cons i rk ih=>
   simp only[List.map_cons,List.sum_cons]
   have:=Ro (H:=H) (r:=r) (ms:=ms) (n:=(i:Int))
   omega
 ·split
  ·exact Nat.le_trans (List.length_filter_le _ _) Ka
  ·simp
noncomputable def o7(H:H1)(r:Int)(ms:List Int)(cost:Int):List Pl:=(r::AG (F5 H) cost (W9 H r ms) r).flatMap fun f=>(AG (F5 H) cost (W9 H r ms) f).map fun t=>(f,t)
noncomputable def R4(H:H1)(r:Int)(ms:List Int)(cost:Int):Int:=if F3 H≠0 then F3 H else if Ap H r ms≠0 then Ap H r ms else if cost<0∨1000000<cost then 6 else 0
noncomputable def PH(H:H1)(r:Int)(ms:List Int)(cost:Int):Int×List Pl:=if R4 H r ms cost=0 then (r,o7 H r ms cost) else (0,[])
end
structure u9(H:H1)(r:Int)(ms:List Int):Prop where
 v:F3 H=0
 kr:(E6 H.Cores r).2=true
 km:∀a∈ms,(E6 H.Cores a).2=true
 nr:r∉ms
 nd:ms.Nodup
section
variable {H:H1}{r:Int}{ms:List Int}
theorem u9.mem(p:u9 H r ms):Ap H r ms=0:=by
 unfold Ap;have h1:(r::ms).all (fun id=>(E6 H.Cores id).2)=true:=List.all_eq_true.2 fun x hx=>by
  rcases List.mem_cons.1 hx with rfl|hx
  ·exact p.kr
  ·exact p.km x hx
 have h2:Ir (r::ms).Nodup=true:=W8 (List.nodup_cons.2 ⟨p.nr,p.nd⟩)
 rw[if_neg (by rw[h1];simp),if_neg (by rw[h2];simp)]
theorem u9.err(p:u9 H r ms){cost:Int}(hc:0≤cost∧cost≤1000000):R4 H r ms cost=0:=by
 unfold R4;rw[if_neg (by rw[p.v];simp),if_neg (by rw[p.mem];simp),if_neg (by omega)]
theorem u9.rng(p:u9 H r ms){a:Int}(h:a∈ms):0≤E9 H a∧E9 H a<64:=w4 p.v (p.km a h)
theorem GI{n b:Int}(h:b∈U5 H r ms n):b∈ms∧E9 H b=n:=by
 unfold U5 at h;by_cases c:n=E9 H r∨E3 H ms n=[]
 ·rw[if_pos c]at h;exact W7.1 h
 ·rw[if_neg c]at h;rw[List.mem_singleton.1 h];exact W7.1 (HG fun e=>c (.inr e))
theorem Nu(h:ms.Nodup)(n:Int):(U5 H r ms n).Nodup:=by
 unfold U5;split
 ·exact h.filter _
 ·simp
theorem CF{α β:Type}{f:α→List β}:∀ {l:List α},l.Nodup→(∀a∈l,(f a).Nodup)→(∀a∈l,∀b∈l,∀x,x∈f a→x∈f b→a=b)→(l.flatMap f).Nodup
 | [],_,_,_=>by simp
 | a::l,hn,h1,h2=>by
  rw[List.nodup_cons]at hn;rw[List.flatMap_cons,List.nodup_append];refine⟨h1 a (by simp),CF hn.2 (fun b hb=>h1 b (by simp[hb])) (fun b hb c hc=>h2 b (by simp[hb]) c (by simp[hc])),fun x hx y hy e=>?_⟩
  subst e;obtain⟨b,hb,hxb⟩:=List.mem_flatMap.1 hy
  have:=h2 a (by simp) b (by simp[hb]) x hx hxb
  subst this;exact hn.1 hb
theorem BH(h:ms.Nodup):(W9 H r ms r).Nodup:=by
 rw[Jp];refine CF List.nodup_range (fun i _=>Nu h _) fun i _ j _ x hi hj=>?_
 have h1:=(GI hi).2
 have h2:=(GI hj).2
 omega
theorem WG(h:ms.Nodup)(x:Int):(W9 H r ms x).Nodup:=by
 by_cases e:x=r
 ·subst e;exact BH h
 ·unfold W9 AB;rw[if_neg e];split
  ·exact(h.filter _).filter _
  ·simp
theorem Nk{b:Int}(h:b∈W9 H r ms r):b∈U5 H r ms (E9 H b):=by
 rw[Jp]at h;obtain⟨i,-,hi⟩:=List.mem_flatMap.1 h
 rw[(GI hi).2];exact hi
theorem MG{f b:Int}(hf:f≠r)(h:b∈W9 H r ms f):b∉W9 H r ms r:=fun hb=>by
 obtain⟨h1,-,-,h2,h3⟩:=Cj hf h
 have hb:=Nk hb
 unfold Dd at h1;obtain⟨e1,e2,e3⟩:=of_decide_eq_true h1
 unfold U5 at hb;rw[h2,if_neg]at hb
 ·rw[←e3]at hb;exact h3 (List.mem_singleton.1 hb)
 ·rintro (c|c)
  ·exact e1 c
  ·have:f∈E3 H ms (E9 H f):=W7.2 ⟨e2,rfl⟩
   rw[c]at this;simp at this
theorem aI{f g b:Int}(hf:f≠r)(hg:g≠r)(h:b∈W9 H r ms f)(k:b∈W9 H r ms g):f=g:=by
 obtain⟨h1,-,-,h2,-⟩:=Cj hf h
 obtain⟨k1,-,-,k2,-⟩:=Cj hg k
 unfold Dd at h1 k1;obtain⟨-,-,e1⟩:=of_decide_eq_true h1
 obtain⟨-,-,e2⟩:=of_decide_eq_true k1
 rw[e1,e2,←h2,←k2]
theorem au(p:u9 H r ms){b:Int}(h:b∈ms):b∈W9 H r ms r∨∃f∈W9 H r ms r,f≠r∧b∈W9 H r ms f:=by
 have hr:=p.rng h
 have hin:∀ {x:Int},x∈U5 H r ms (E9 H b)→x∈W9 H r ms r:=fun {x} hx=>by
  rw[Jp];refine List.mem_flatMap.2 ⟨(E9 H b).toNat,by simp;omega,?_⟩
  rw[show (((E9 H b).toNat:Nat):Int)=E9 H b by omega]
  exact hx
 have hg:b∈E3 H ms (E9 H b):=W7.2 ⟨h,rfl⟩
 have hne:E3 H ms (E9 H b)≠[]:=fun e=>by rw[e]at hg;simp at hg
 by_cases c:E9 H b=E9 H r
 ·left
  refine hin ?_
  unfold U5;rw[if_pos (.inl c)];exact hg
 ·have hra:U5 H r ms (E9 H b)=[U7 H (E3 H ms (E9 H b))]:=by unfold U5;rw[if_neg fun e=>e.elim c hne]
  have hf:=W7.1 (HG (H:=H) hne)
  have hfn:U7 H (E3 H ms (E9 H b))≠r:=fun h=>p.nr (by rw[←h];exact hf.1)
  have hfr:U7 H (E3 H ms (E9 H b))∈W9 H r ms r:=hin (by rw[hra];simp)
  by_cases e:b=U7 H (E3 H ms (E9 H b))
  ·left;rw[e];exact hfr
  ·right
   refine⟨_,hfr,hfn,?_⟩
   unfold W9 AB;rw[if_neg hfn,if_pos,hf.2]
   ·exact List.mem_filter.2 ⟨hg,by simpa using e⟩
   ·refine⟨?_,by rw[hf.2];omega,by rw[hf.2];omega⟩
    unfold Dd;exact decide_eq_true ⟨by rw[hf.2];exact c,hf.1,by rw[hf.2]⟩
theorem AS{cost:Int}{x y:Int}:y∈AG (F5 H) cost (W9 H r ms) x↔y∈W9 H r ms x:=(V2 x).mem_iff
theorem IB{cost:Int}(p:u9 H r ms):((o7 H r ms cost).map (·.2)).Perm ms:=by
 have e:(o7 H r ms cost).map (·.2)=(r::AG (F5 H) cost (W9 H r ms) r).flatMap fun f=>AG (F5 H) cost (W9 H r ms) f:=by
  unfold o7;rw[List.map_flatMap];congr 1
  funext f
  rw[List.map_map];exact(List.map_congr_left fun x _=>rfl).trans (List.map_id _)
 rw[e];have hnr:r∉AG (F5 H) cost (W9 H r ms) r:=fun h=>p.nr (DC (AS.1 h))
 have hnd:(AG (F5 H) cost (W9 H r ms) r).Nodup:=(V2 r).nodup_iff.2 (BH p.nd)
 refine(List.perm_ext_iff_of_nodup ?_ p.nd).2 fun b=>?_
 ·refine CF (List.nodup_cons.2 ⟨hnr,hnd⟩) (fun f _=>(V2 f).nodup_iff.2 (WG p.nd f)) fun f _ g _ b hf hg=>?_
  have hf:=AS.1 hf
  have hg:=AS.1 hg
  by_cases e1:f=r <;> by_cases e2:g=r
  ·rw[e1,e2]
  ·subst e1;exact absurd hf (MG e2 hg)
  ·subst e2;exact absurd hg (MG e1 hf)
  ·exact aI e1 e2 hf hg
 ·rw[List.mem_flatMap];constructor
  ·rintro⟨f,-,hf⟩;exact DC (AS.1 hf)
  ·intro hb;rcases au p hb with h|⟨f,hf,-,h⟩
   ·exact⟨r,by simp,AS.2 h⟩
   ·exact⟨f,List.mem_cons.2 (.inr (AS.2 hf)),AS.2 h⟩
theorem Vx{cost:Int}(p:u9 H r ms):(o7 H r ms cost).length=ms.length:=by
 rw[←(IB (cost:=cost) p).length_eq,List.length_map]
def cntF(es:List Pl)(m:Nat)(f:Int):Nat:=(es.take m).countP fun e=>decide (e.1=f)
def U4(K:Int→List Int)(fs:List Int):List Pl:=fs.flatMap fun f=>(K f).map fun t=>(f,t)
theorem DT{cost:Int}:o7 H r ms cost=U4 (AG (F5 H) cost (W9 H r ms)) (r::AG (F5 H) cost (W9 H r ms) r):=rfl
theorem Eg{K:List Int}{f g:Int}(m:Nat):((K.map fun t=>((f,t):Pl)).take m).countP (fun e=>decide (e.1=g))=if f=g then min m K.length else 0:=by
 rw[←List.map_take,List.countP_map];by_cases e:f=g
 ·subst e;rw[if_pos rfl];have:((fun e:Pl=>decide (e.1=f)) ∘ fun t=>((f,t):Pl))=fun _=>true:=by funext t;simp
  rw[this,List.countP_true];simp
 ·rw[if_neg e];have:((fun e:Pl=>decide (e.1=g)) ∘ fun t=>((f,t):Pl))=fun _=>false:=by funext t;simp[e]
  rw[this,List.countP_false];rfl
theorem WW{A B:List Pl}{m:Nat}{f:Int}:cntF (A++B) m f=cntF A m f+cntF B (m-A.length) f:=by
 unfold cntF;rw[List.take_append,List.countP_append]
theorem Ou{K:Int→List Int}:∀ {fs:List Int},fs.Nodup→∀ {m:Nat} {e:Pl},(U4 K fs)[m]? = some e→e.1∈fs∧(K e.1)[cntF (U4 K fs) m e.1]? = some e.2
 | [],_,m,e,h=>by simp[U4]at h
 | f::fs,hn,m,e,h=>by
  rw[List.nodup_cons]at hn;have hb:U4 K (f::fs)=((K f).map fun t=>((f,t):Pl))++U4 K fs:=rfl
  rw[hb]at h ⊢
  rw[WW];have hc:=Eg (K:=K f) (f:=f) (g:=e.1) m
  by_cases hm:m<(K f).length
  ·rw[List.getElem?_append_left (by simpa using hm)]at h
   obtain⟨t,ht,rfl⟩:∃t,(K f)[m]? = some t∧(f,t)=e:=by simpa using h
   refine⟨by simp,?_⟩
   show (K f)[cntF _ m f+cntF _ _ f]? = some t
   have h0:m-((K f).map fun t=>((f,t):Pl)).length=0:=by simp;omega
   rw[h0];have h1:cntF (U4 K fs) 0 f=0:=by simp[cntF]
   have h2:cntF ((K f).map fun t=>((f,t):Pl)) m f=m:=by
    unfold cntF;rw[Eg,if_pos rfl];omega
   rw[h1,h2];exact ht
  ·rw[List.getElem?_append_right (by simp;omega)]at h
   obtain⟨h1,h2⟩:=Ou hn.2 h
   refine⟨by simp[h1],?_⟩
   have hne:f≠e.1:=fun e'=>hn.1 (e' ▸ h1)
   have h3:cntF ((K f).map fun t=>((f,t):Pl)) m e.1=0:=by
    unfold cntF;rw[Eg,if_neg hne]
   rw[h3,Nat.zero_add];exact h2
def OZ(es:List Pl):Prop:=∀(j m i:Nat) (a b:Pl),j≤m→m≤i→es[j]? = some a→es[i]? = some b→a.1=b.1→∀c,es[m]? = some c→c.1=a.1
theorem Dl{K:Int→List Int}:∀ {fs:List Int},fs.Nodup→OZ (U4 K fs)
 | [],_=>fun j m i a b _ _ h=>by simp[U4]at h
 | f::fs,hn=>by
  rw[List.nodup_cons]at hn;have hb:U4 K (f::fs)=((K f).map fun t=>((f,t):Pl))++U4 K fs:=rfl
  rw[hb];intro j m i a b hjm hmi ha hb' hab c hc;have hin:∀ {q:Nat} {x:Pl},(U4 K fs)[q]? = some x→x.1∈fs:=fun {q x} h=>(Ou hn.2 h).1
  have hlo:∀ {q:Nat} {x:Pl},q<(K f).length→(((K f).map fun t=>((f,t):Pl))++U4 K fs)[q]? = some x→x.1=f:=fun {q x} hq h=>by
   rw[List.getElem?_append_left (by simpa using hq)]at h
   obtain⟨t,-,rfl⟩:∃t,(K f)[q]? = some t∧(f,t)=x:=by simpa using h
   rfl
  have hhi:∀ {q:Nat} {x:Pl},¬q<(K f).length→(((K f).map fun t=>((f,t):Pl))++U4 K fs)[q]? = some x→(U4 K fs)[q-(K f).length]? = some x:=fun {q x} hq h=>by
   rw[List.getElem?_append_right (by simp;omega)]at h
   simpa using h
  by_cases h1:i<(K f).length
  ·rw[hlo (by omega) ha,hlo (by omega) hc]
  ·have hb2:=hhi h1 hb'
   by_cases h2:j<(K f).length
   ·have:=hlo h2 ha
    have h3:=hin hb2
    rw[←hab,this]at h3;exact absurd h3 hn.1
   ·exact Dl hn.2 (j-(K f).length) (m-(K f).length) (i-(K f).length) a b (by omega) (by omega) (hhi h2 ha) hb2 hab c (hhi (by omega) hc)
theorem LP{es:List Pl}(h:OZ es){i:Nat}{e:Pl}(he:es[i]? = some e):¬Fx es i e.1:=by
 rintro⟨j,a,b,hj,ha,hb,hab,hae⟩;exact hab (h j (j+1) i a e (by omega) hj ha he hae b hb).symm
theorem OF{cost:Int}(p:u9 H r ms):(r::AG (F5 H) cost (W9 H r ms) r).Nodup:=
 List.nodup_cons.2 ⟨fun h=>p.nr (DC (AS.1 h)),(V2 r).nodup_iff.2 (BH p.nd)⟩
theorem Ij{cost:Int}{m:Nat}(h:m<(AG (F5 H) cost (W9 H r ms) r).length):∃c,(AG (F5 H) cost (W9 H r ms) r)[m]? = some c∧(o7 H r ms cost)[m]? = some (r,c):=by
 refine⟨_,List.getElem?_eq_getElem h,?_⟩
 rw[DT];have hb:U4 (AG (F5 H) cost (W9 H r ms)) (r::AG (F5 H) cost (W9 H r ms) r)=((AG (F5 H) cost (W9 H r ms) r).map fun t=>((r,t):Pl))++U4 (AG (F5 H) cost (W9 H r ms)) (AG (F5 H) cost (W9 H r ms) r):=rfl
 rw[hb,List.getElem?_append_left (by simpa using h)]
 simp[h]
theorem QP{cost:Int}{m:Nat}{e:Pl}(h:¬m<(AG (F5 H) cost (W9 H r ms) r).length)(he:(o7 H r ms cost)[m]? = some e):e.1∈AG (F5 H) cost (W9 H r ms) r:=by
 rw[DT]at he;have hb:U4 (AG (F5 H) cost (W9 H r ms)) (r::AG (F5 H) cost (W9 H r ms) r)=((AG (F5 H) cost (W9 H r ms) r).map fun t=>((r,t):Pl))++U4 (AG (F5 H) cost (W9 H r ms)) (AG (F5 H) cost (W9 H r ms) r):=rfl
 rw[hb,List.getElem?_append_right (by simp;omega)]at he
 obtain⟨f,hf,h2⟩:=List.mem_flatMap.1 (List.mem_of_getElem? he)
 obtain⟨t,-,rfl⟩:=List.mem_map.1 h2
 exact hf
theorem Ip{cost:Int}(p:u9 H r ms):Mr r (o7 H r ms cost):=fun i e he=>by
 refine⟨?_,LP (by rw[DT];exact Dl (OF p)) he⟩
 by_cases h:i<(AG (F5 H) cost (W9 H r ms) r).length
 ·obtain⟨c,-,hc⟩:=Ij h
  rw[hc]at he;cases he
  simp
 ·have hf:=QP h he
  obtain⟨q,hq⟩:=List.getElem?_of_mem hf
  have hql:=(List.getElem?_eq_some_iff.1 hq).1
  obtain⟨c,hc,hc2⟩:=Ij hql
  rw[hq]at hc;cases hc
  refine List.mem_cons.2 (.inr (List.mem_map.2 ⟨(r,e.1),?_,rfl⟩))
  refine List.mem_of_getElem? (i:=q) ?_
  rw[List.getElem?_take,if_pos (by omega)]
  exact hc2
theorem Re{cost:Int}(p:u9 H r ms):o8 H r (o7 H r ms cost)=0:=by
 have ht:=IB (cost:=cost) p
 have h1:((E6 H.Cores r).2&&(o7 H r ms cost).all (Bt H))=true:=by
  rw[p.kr,Bool.true_and,List.all_eq_true];intro e he;have h2:e.2∈ms:=ht.mem_iff.1 (List.mem_map_of_mem he)
  have h3:e.1=r∨e.1∈ms:=by
   obtain⟨f,hf,h3⟩:=List.mem_flatMap.1 he
   obtain⟨t,-,rfl⟩:=List.mem_map.1 h3
   rcases List.mem_cons.1 hf with hf|hf
   ·exact .inl hf
   ·exact .inr (DC (AS.1 hf))
  unfold Bt;rw[p.km _ h2,Bool.and_true];rcases h3 with h3|h3
  ·rw[h3];exact p.kr
  ·exact p.km _ h3
 have h2:(r::(o7 H r ms cost).map (·.2)).Nodup:=List.nodup_cons.2 ⟨fun h=>p.nr (ht.mem_iff.1 h),ht.nodup_iff.2 p.nd⟩
 unfold o8;rw[if_pos p.v,if_pos h1,if_pos (W8 h2),if_pos (W8 (Ip p))]
end
set_option maxHeartbeats 8000000
attribute [local irreducible] Calls
noncomputable def Iz(H:H1)(r:Int)(es:List Pl)(cost:Int):List Int×Int:=
 if o8 H r es=0 then (if cost<0∨1000000<cost then ([],6) else (Iy (F5 H) cost (fun _=>0) (fun _=>0) es,0)) else ([],o8 H r es)
theorem NG{Γ:C8}{u v:Value}{H:H1}[hh:Cl Γ u H]{es:List Pl}[hr:RY Γ v 2 (es.map Q1)][hsh:Hz es](r cost:Int){S:List B2}{w:World}(hw:Wd Γ S w) :
  Calls Tryz.prog 130 #[u,.agg #[.int .i64 r,v],.int .i64 cost] w fun e w'=>∃vo,e=.returned (.tuple #[vo,.int .i64 (Iz H r es cost).2])∧Wd Γ (.own vo 3 1 (A8 (Iz H r es cost).1)::S) w':=by
 have hh':=hh
 obtain⟨a1,n1,c1,a2,n2,c2,a3,n3,c3,a4,n4,c4,a5,n5,c5,cs,rfl,-⟩:=hh.h;have hrs:=hr.h
 obtain⟨am,nm,cm,rfl,hnm,hnmc,hcm⟩:=hr.h.shape;simp only[List.length_map]at hnm
 have hms:=hsh.h
 refine A9 Tryz.func130 rfl rfl ?_
 refine A6 ?_;refine H9 ?_;intro b3 w hw;refine H9 ?_;intro b4 w hw;have hw:Wd Γ (.blk b4 (.cells #[.int .i64 r,.slice am nm cm] 145)::.blk b3 (.cells #[.string H.Name,.slice a1 n1 c1,.slice a2 n2 c2,.slice a3 n3 c3,.slice a4 n4 c4,.slice a5 n5 c5] 69)::S) w:=hw
 unfold Iz;repeat first|refine U9 ?_|refine V5 ?_;intro w hw
 refine A7 rfl (fun h=>?_) (fun h=>?_)
 ·have h:¬o8 H r es=0:=by simpa using h
  rw[if_neg h];refine A6 ?_;exact⟨_,rfl,_,rfl,Wd.addNil (hw.ds [0,0])⟩
 have h:o8 H r es=0:=by simpa using h
 rw[if_pos h];have hv:F3 H=0:=by
  unfold o8 at h;by_cases e:F3 H=0
  ·exact e
  ·rw[if_neg e]at h;exact absurd h e
 have hkn:∀e∈es,(E6 H.Cores e.1).2=true∧(E6 H.Cores e.2).2=true:=by
  unfold o8 at h;rw[if_pos hv]at h;by_cases e:((E6 H.Cores r).2&&es.all (Bt H))=true
  ·intro x hx;have:=List.all_eq_true.1 (Bool.and_eq_true_iff.1 e).2 x hx
   unfold Bt at this;exact Bool.and_eq_true_iff.1 this
  ·rw[if_neg e]at h;cases h
 refine A6 ?_;refine A7 rfl (fun h2=>?_) (fun h2=>?_)
 ·have h2:(decide (cost<0)||decide (cost > 1000000))=true:=h2
  rw[if_pos (by simp at h2;omega)]
  refine A6 ?_;exact⟨_,rfl,_,rfl,Wd.addNil (hw.ds [0,0])⟩
 have h2:(decide (cost<0)||decide (cost > 1000000))=false:=h2
 have hc:0≤cost∧cost≤1000000:=by simp at h2;omega
 rw[if_neg (by omega)]
 clear h2;refine A6 ?_;refine F0 rfl rfl (J1 (K:=3) (α:=Int) (f:=(id:Value→Value)) hw fun bm w hw=>?_)
 refine A6 ?_;refine H9 ?_;intro bb w hw;have hw:=OH (Γ:=Γ) (bb:=bb) (H:=H) (bm:=bm) (a1:=a1) (n1:=n1) (c1:=c1) (a2:=a2) (n2:=n2) (c2:=c2) (a3:=a3) (n3:=n3) (c3:=c3) (a4:=a4) (n4:=n4) (c4:=c4) (a5:=a5) (n5:=n5) (c5:=c5) hw
 refine A6 ?_;refine F0 rfl rfl (J1 (K:=3) (α:=Int) (f:=fun n:Int=>Value.int .i64 n) hw fun bs w hw=>?_)
 have hw:=hw.ps [2]
 refine A6 ?_;refine F0 rfl rfl (GM (I7 (P:=Tryz.prog) (K:=3) (α:=Int) (f:=fun n:Int=>Value.int .i64 n) (i:=1) (v:=(0:Int)) (a:=r) hw rfl rfl rfl rfl fun w hw=>?_))
 have hm0:Nt (Q3 ([]:List (Int×Int)) r 0) (fun _=>0):=fun x=>by
  rw[CP];split <;> rfl
 generalize hls:Q3 ([]:List (Int×Int)) r 0=ls at hm0
 have hw:Wd Γ (.blk b4 (.cells #[.int .i64 r,.slice am nm cm] 145)::B2.mpT Tryz.prog 3 (fun n:Int=>Value.int .i64 n) bs ls::N7 bb H a1 n1 c1 a2 n2 c2 a3 n3 c3 a4 n4 c4 a5 n5 c5::.blk b3 (.cells #[.string H.Name,.slice a1 n1 c1,.slice a2 n2 c2,.slice a3 n3 c3,.slice a4 n4 c4,.slice a5 n5 c5] 69)::S) w:=by rw[←hls];exact hw
 clear hls;refine A6 ?_;refine F0 rfl rfl (J1 (K:=3) (α:=Int) (f:=fun n:Int=>Value.int .i64 n) hw fun bn w hw=>?_)
 have hw:=hw.ps [1]
 refine A6 ?_;refine GG (len:=nm) ?_
 intro ao w hw;have hw:Wd Γ (.own (.slice (some ao) nm nm) 3 1 (A8 (List.replicate nm 0))::.blk b4 (.cells #[.int .i64 r,.slice am nm cm] 145)::B2.mpT Tryz.prog 3 (fun n:Int=>Value.int .i64 n) bn ([]:List (Int×Int))::B2.mpT Tryz.prog 3 (fun n:Int=>Value.int .i64 n) bs ls::N7 bb H a1 n1 c1 a2 n2 c2 a3 n3 c3 a4 n4 c4 a5 n5 c5::.blk b3 (.cells #[.string H.Name,.slice a1 n1 c1,.slice a2 n2 c2,.slice a3 n3 c3,.slice a4 n4 c4,.slice a5 n5 c5] 69)::S) w:=by
  have e:A8 (List.replicate nm 0)=List.replicate nm [.int .i64 0]:=by unfold A8;rw[List.map_replicate]
  rw[e];exact hw
 refine A6 ?_;refine B5 (fun μ ρ w=>∃(k:Nat) (st sn:Int→Int) (O:List Int) (ls ln:List (Int×Int)),μ+k=nm∧O.length=nm∧Nt ls st∧Nt ln sn∧(∀x,0≤st x∧st x≤k*2000000000)∧(∀x,0≤sn x∧sn x≤k)∧O.take k++Iy (F5 H) cost st sn (es.drop k)=Iy (F5 H) cost (fun _=>0) (fun _=>0) es∧Has ρ [(2,.int .i64 cost),(9,.pointer (some ⟨bb,0,none⟩)),(10,.map (some bs)),(11,.map (some bn)),(12,.slice (some ao) nm nm),(41,.slice am nm cm),(42,.int .i64 nm),(43,.int .i64 k)]∧Wd Γ (.own (.slice (some ao) nm nm) 3 1 (A8 O)::.blk b4 (.cells #[.int .i64 r,.slice am nm cm] 145)::B2.mpT Tryz.prog 3 (fun n:Int=>Value.int .i64 n) bn ln::B2.mpT Tryz.prog 3 (fun n:Int=>Value.int .i64 n) bs ls::N7 bb H a1 n1 c1 a2 n2 c2 a3 n3 c3 a4 n4 c4 a5 n5 c5::.blk b3 (.cells #[.string H.Name,.slice a1 n1 c1,.slice a2 n2 c2,.slice a3 n3 c3,.slice a4 n4 c4,.slice a5 n5 c5] 69)::S) w) nm ⟨0,fun _=>0,fun _=>0,List.replicate nm 0,ls,[],by omega,by simp,hm0,fun _=>rfl,fun _=>⟨Int.le_refl _,by simp⟩,fun _=>⟨Int.le_refl _,by simp⟩,by simp,⟨rfl,rfl,rfl,rfl,rfl,rfl,rfl,rfl,trivial⟩,hw⟩ ?_
 clear hw;rintro μ ρ w ⟨k,st,sn,O,ls,ln,hk,hO,hls,hln,hst,hsn,hF,hρ,hw⟩
 rw[hρ.eq];clear hρ;refine A6 ?_;refine A7 rfl (fun h=>?_) (fun h=>?_)
 ·have hkn':k<nm:=by have:=of_decide_eq_true h;omega
  obtain⟨x,hx⟩:=B4 (l:=es) (k:=k) (by omega)
  obtain⟨hx1,hx2⟩:=hkn x (List.mem_of_getElem? hx)
  have hs1:=hst x.1
  have hn1:=hsn x.1
  have hfar:=Wi hv hx1 hx2
  have hmul:0≤(sn x.1+1)*cost∧(sn x.1+1)*cost≤1001000000:=⟨Int.mul_nonneg (by omega) hc.1,Int.le_trans (Int.mul_le_mul (b:=cost) (d:=1000000) (show sn x.1+1≤1001 by omega) hc.2 hc.1 (by omega)) (by omega)⟩
  refine A6 ?_;refine C0 ?_;intro b14 w hw;refine A6 ?_;refine B1 ?_;intro w hw;have hw:Wd Γ (.blk b14 (.cells (Q1 x).toArray 219)::.own (.slice (some ao) nm nm) 3 1 (A8 O)::.blk b4 (.cells #[.int .i64 r,.slice am nm cm] 145)::B2.mpT Tryz.prog 3 (fun n:Int=>Value.int .i64 n) bn ln::B2.mpT Tryz.prog 3 (fun n:Int=>Value.int .i64 n) bs ls::N7 bb H a1 n1 c1 a2 n2 c2 a3 n3 c3 a4 n4 c4 a5 n5 c5::.blk b3 (.cells #[.string H.Name,.slice a1 n1 c1,.slice a2 n2 c2,.slice a3 n3 c3,.slice a4 n4 c4,.slice a5 n5 c5] 69)::S) w:=hw
  refine A6 ?_;refine lY (v:=.int .i64 (sn x.1)) ?_ (hy:=Ai hw hln (i:=3) rfl rfl rfl)
  refine A6 ?_;refine F0 rfl rfl (I7 (P:=Tryz.prog) (K:=3) (α:=Int) (f:=fun n:Int=>Value.int .i64 n) (i:=3) (v:=sn x.1+1) (a:=x.1) hw rfl rfl rfl rfl fun w hw=>?_)
  have hln':=Kr hln x.1 (sn x.1+1)
  generalize hgl:Q3 ln x.1 (sn x.1+1)=ln2 at hw hln'
  have hsn2:Du sn x.1 (sn x.1+1) x.1=sn x.1+1:=by unfold Du;rw[if_pos rfl]
  have hcN1:=w4 hv hx1
  have hcN2:=w4 hv hx2
  have hw:Wd Γ ([.blk b14 (.cells (Q1 x).toArray 219),B2.mpT Tryz.prog 3 (fun n:Int=>Value.int .i64 n) bn ln2,B2.mpT Tryz.prog 3 (fun n:Int=>Value.int .i64 n) bs ls]++([N7 bb H a1 n1 c1 a2 n2 c2 a3 n3 c3 a4 n4 c4 a5 n5 c5]++([.own (.slice (some ao) nm nm) 3 1 (A8 O)]++((.blk b4 (.cells #[.int .i64 r,.slice am nm cm] 145)::.blk b3 (.cells #[.string H.Name,.slice a1 n1 c1,.slice a2 n2 c2,.slice a3 n3 c3,.slice a4 n4 c4,.slice a5 n5 c5] 69)::S)++[])))) w:=by
   rw[List.append_nil];exact hw.ps [5,5,5,3]
  refine A6 ?_;refine Q8 [.blk b14 (.cells (Q1 x).toArray 219),B2.mpT Tryz.prog 3 (fun n:Int=>Value.int .i64 n) bn ln2,B2.mpT Tryz.prog 3 (fun n:Int=>Value.int .i64 n) bs ls] [fun _=>[N7 bb H a1 n1 c1 a2 n2 c2 a3 n3 c3 a4 n4 c4 a5 n5 c5],fun _=>[.own (.slice (some ao) nm nm) 3 1 (A8 O)],fun _=>.blk b4 (.cells #[.int .i64 r,.slice am nm cm] 145)::.blk b3 (.cells #[.string H.Name,.slice a1 n1 c1,.slice a2 n2 c2,.slice a3 n3 c3,.slice a4 n4 c4,.slice a5 n5 c5] 69)::S] [[],[],[],[],[],[],[],[],[],[],[],[],[],[],[],[],[],[],[0],[],[],[1]] [[],[],[],[],[],[],[],[],[],[],[],[],[],[],[],[],[],[],[0],[],[1],[1]] [[],[],[]] (by exact hw) ?_
  refine R1 ?_;refine mY (v:=.int .i64 (st x.1)) ?_ (hy:=fun Y w g hw=>Ai hw hls (i:=2) rfl rfl rfl)
  refine R1 ?_;refine mY (v:=.int .i64 (sn x.1+1)) ?_ (hy:=fun Y w g hw=>by rw[←hsn2];exact Ai hw hln' (i:=1) rfl rfl rfl)
  refine R1 ?_;refine eL (c:=0) (X:=[N7 bb H a1 n1 c1 a2 n2 c2 a3 n3 c3 a4 n4 c4 a5 n5 c5]) [N7 bb H a1 n1 c1 a2 n2 c2 a3 n3 c3 a4 n4 c4 a5 n5 c5] (vs:=[.pointer (some ⟨bb,0,none⟩),.int .i64 x.1,.int .i64 x.2]) (v:=.int .i64 (F5 H x.1 x.2)) (fun R w hw=>Kn (T6 hv) hcN1 hcN2 hw) ?_
  refine R1 ?_;refine NR (k:=k) (r:=[.int .i64 (st x.1+(sn x.1+1)*cost+F5 H x.1 x.2)]) ?_
  refine S5 fun w g hw=>?_
  generalize ht:st x.1+(sn x.1+1)*cost+F5 H x.1 x.2=t at hw
  have hw:Wd Γ ([.blk b14 (.cells (Q1 x).toArray 219),B2.mpT Tryz.prog 3 (fun n:Int=>Value.int .i64 n) bn ln2,B2.mpT Tryz.prog 3 (fun n:Int=>Value.int .i64 n) bs ls]++([N7 bb H a1 n1 c1 a2 n2 c2 a3 n3 c3 a4 n4 c4 a5 n5 c5]++([.own (.slice (some ao) nm nm) 3 1 (A8 (O.set k t))]++((.blk b4 (.cells #[.int .i64 r,.slice am nm cm] 145)::.blk b3 (.cells #[.string H.Name,.slice a1 n1 c1,.slice a2 n2 c2,.slice a3 n3 c3,.slice a4 n4 c4,.slice a5 n5 c5] 69)::S)++[])))) w:=by
   have e:A8 (O.set k t)=(A8 O).set k [.int .i64 t]:=by unfold A8;rw[List.map_set]
   rw[e];exact hw
  rw[List.append_nil]at hw;have hOk:(O.set k t)[k]? = some t:=by rw[List.getElem?_set,if_pos rfl,if_pos (by omega)]
  have hw:Wd Γ ([.blk b14 (.cells (Q1 x).toArray 219),.own (.slice (some ao) nm nm) 3 1 (A8 (O.set k t))]++([B2.mpT Tryz.prog 3 (fun n:Int=>Value.int .i64 n) bs ls]++((B2.mpT Tryz.prog 3 (fun n:Int=>Value.int .i64 n) bn ln2::N7 bb H a1 n1 c1 a2 n2 c2 a3 n3 c3 a4 n4 c4 a5 n5 c5::.blk b4 (.cells #[.int .i64 r,.slice am nm cm] 145)::.blk b3 (.cells #[.string H.Name,.slice a1 n1 c1,.slice a2 n2 c2,.slice a3 n3 c3,.slice a4 n4 c4,.slice a5 n5 c5] 69)::S)++[]))) w:=by
   rw[List.append_nil];exact(hw.ps [1,2,4,3])
  refine A6 ?_;refine Q8 [.blk b14 (.cells (Q1 x).toArray 219),.own (.slice (some ao) nm nm) 3 1 (A8 (O.set k t))] [fun _=>[B2.mpT Tryz.prog 3 (fun n:Int=>Value.int .i64 n) bs ls],fun _=>B2.mpT Tryz.prog 3 (fun n:Int=>Value.int .i64 n) bn ln2::N7 bb H a1 n1 c1 a2 n2 c2 a3 n3 c3 a4 n4 c4 a5 n5 c5::.blk b4 (.cells #[.int .i64 r,.slice am nm cm] 145)::.blk b3 (.cells #[.string H.Name,.slice a1 n1 c1,.slice a2 n2 c2,.slice a3 n3 c3,.slice a4 n4 c4,.slice a5 n5 c5] 69)::S] [[],[],[],[],[],[],[],[0]] [[],[],[],[],[],[],[],[0]] [[],[]] (by exact hw) ?_
  refine R1 ?_;refine mM (v:=undef) (fun _=>[B2.mpT Tryz.prog 3 (fun n:Int=>Value.int .i64 n) bs (Q3 ls x.2 t)]) (fun Y w g hw=>by
   rw[O2 (c:=0) rfl]at hw;refine I7 (P:=Tryz.prog) (K:=3) (α:=Int) (f:=fun n:Int=>Value.int .i64 n) (i:=2) (v:=t) (a:=x.2) hw rfl rfl rfl rfl fun w hw=>⟨?_,fun _=>rfl⟩
   rw[O2 (c:=0) rfl,B0];exact hw) ?_ rfl rfl
  refine S5 fun w g hw=>?_
  have hls':=Kr hls x.2 t
  have hw:Wd Γ ([.blk b14 (.cells (Q1 x).toArray 219),.own (.slice (some ao) nm nm) 3 1 (A8 (O.set k t))]++([B2.mpT Tryz.prog 3 (fun n:Int=>Value.int .i64 n) bs (Q3 ls x.2 t)]++((B2.mpT Tryz.prog 3 (fun n:Int=>Value.int .i64 n) bn ln2::N7 bb H a1 n1 c1 a2 n2 c2 a3 n3 c3 a4 n4 c4 a5 n5 c5::.blk b4 (.cells #[.int .i64 r,.slice am nm cm] 145)::.blk b3 (.cells #[.string H.Name,.slice a1 n1 c1,.slice a2 n2 c2,.slice a3 n3 c3,.slice a4 n4 c4,.slice a5 n5 c5] 69)::S)++[]))) w:=hw
  rw[List.append_nil]at hw;have hw:Wd Γ (.own (.slice (some ao) nm nm) 3 1 (A8 (O.set k t))::.blk b4 (.cells #[.int .i64 r,.slice am nm cm] 145)::B2.mpT Tryz.prog 3 (fun n:Int=>Value.int .i64 n) bn ln2::B2.mpT Tryz.prog 3 (fun n:Int=>Value.int .i64 n) bs (Q3 ls x.2 t)::N7 bb H a1 n1 c1 a2 n2 c2 a3 n3 c3 a4 n4 c4 a5 n5 c5::.blk b3 (.cells #[.string H.Name,.slice a1 n1 c1,.slice a2 n2 c2,.slice a3 n3 c3,.slice a4 n4 c4,.slice a5 n5 c5] 69)::S) w:=(Wd.drop hw).ps [2,4,2]
  have hF':(O.set k t).take (k+1)++Iy (F5 H) cost (Du st x.2 t) (Du sn x.1 (sn x.1+1)) (es.drop (k+1))=Iy (F5 H) cost (fun _=>0) (fun _=>0) es:=by
   have hdr:es.drop k=x::es.drop (k+1):=by
    obtain⟨q1,q2⟩:=List.getElem?_eq_some_iff.1 hx
    rw[List.drop_eq_getElem_cons q1,q2]
   rw[←hF,hdr,C9 hOk,List.take_set_of_le (Nat.le_refl k),List.append_assoc];conv=>rhs;unfold Iy
   rw[ht];rfl
  have hB1:∀z,0≤Du st x.2 t z∧Du st x.2 t z≤((k+1:Nat):Int)*2000000000:=fun z=>by
   have:=hst z
   unfold Du;split
   ·omega
   ·omega
  have hB2:∀z,0≤Du sn x.1 (sn x.1+1) z∧Du sn x.1 (sn x.1+1) z≤((k+1:Nat):Int):=fun z=>by
   have:=hsn z
   unfold Du;split
   ·omega
   ·omega
  refine A6 ?_;exact⟨μ-1,by omega,k+1,Du st x.2 t,Du sn x.1 (sn x.1+1),O.set k t,Q3 ls x.2 t,ln2,by omega,by simp[hO],hls',hln',hB1,hB2,hF',⟨rfl,rfl,rfl,rfl,rfl,rfl,rfl,rfl,trivial⟩,hw⟩
 ·have hkn':¬k<nm:=by have:=of_decide_eq_false h;omega
  rw[List.drop_eq_nil_of_le (by omega),List.take_of_length_le (by omega)]at hF
  have hF:O=Iy (F5 H) cost (fun _=>0) (fun _=>0) es:=by rw[←hF];unfold Iy;simp
  refine A6 ?_;refine⟨_,rfl,_,rfl,?_⟩
  rw[←hF];exact hw.ds [1,1,1,1,1]
end Go.Proofs.YtlimglpjpcfpdaaGreat
end
section
open Go Mk
namespace Go.Proofs.YtlimglpjpcfpdaaGreat
noncomputable def Wr(H:H1)(r:Int)(es:List Pl)(cost:Int):Int:=if (Iz H r es cost).2=0 then (Iz H r es cost).1.foldl max 0 else 0
theorem YF{H:H1}{r cost:Int}{es:List Pl}:(Iz H r es cost).1.length≤es.length:=by
 unfold Iz;split
 ·split
  ·simp
  ·rw[Nz];exact Nat.le_refl _
 ·simp
instance Zy{Γ:C8}{u v:Value}{H:H1}[hh:Cl Γ u H]{es:List Pl}[hr:RY Γ v 2 (es.map Q1)][hsh:Hz es](r cost:Int):PG Tryz.prog Γ 61 [u,.agg #[.int .i64 r,v],.int .i64 cost] (.tuple #[.int .i64 (Wr H r es cost),.int .i64 (Iz H r es cost).2]):=⟨fun S w hw=>by
 obtain⟨am,nm,cm,rfl,-⟩:=hr.h.shape;have hl:=hsh.h
 exact LA (l:=(Iz H r es cost).1) (Nat.le_trans YF hl) (fun S w hw=>NG r cost hw) hw⟩
def HX(l:List (Pl×Int))(st:Int→Int):Int→Int:=l.foldl (fun f p=>Du f p.1.2 p.2) st
section
variable {far:Int→Int→Int}{cost:Int}
end
set_option maxHeartbeats 8000000
attribute [local irreducible] Calls
def NW(H:H1)(a b:Int)(p:List Int)(err:Int):Prop:=
 (W0 H a b≠0∧p=[]∧err=W0 H a b) ∨
 (W0 H a b=0∧K0 (D8 H.Links) b a<0∧p=[]∧err=60) ∨
 (W0 H a b=0∧0≤K0 (D8 H.Links) b a∧err=0∧∃l,p=a::l∧MU (D8 H.Links) (K0 (D8 H.Links) b) b a l)
theorem WF{Γ : C8}{u : Value}{H : H1}[hh : Cl Γ u H](a b : Int){w : World}(hw : Wd Γ [] w) :
    Calls Tryz.prog 59 #[u,.int .i64 a,.int .i64 b] w fun e w'=>∃Γ' v p err,Γ.le Γ'∧e=.returned (.tuple #[v,.int .i64 err])∧NW H a b p err∧Wd Γ' [.own v 3 1 (A8 p)] w':=by
  have hh':=hh
  obtain⟨a1,n1,c1,a2,n2,c2,a3,n3,c3,a4,n4,c4,a5,n5,c5,cs,rfl,-⟩:=hh.h;refine A9 Tryz.func59 rfl rfl ?_
  refine A6 ?_;refine H9 ?_;intro b1 w hw;have hw:Wd Γ [.blk b1 (.cells #[.string H.Name,.slice a1 n1 c1,.slice a2 n2 c2,.slice a3 n3 c3,.slice a4 n4 c4,.slice a5 n5 c5] 69)] w:=hw
  repeat first|refine U9 ?_|refine V5 ?_;intro w hw
  refine A7 rfl (fun h=>?_) (fun h=>?_)
  · have h:¬W0 H a b=0:=by simpa using h
    refine A6 ?_;exact⟨_,rfl,Γ,_,[],_,.refl _,rfl,.inl ⟨h,rfl,rfl⟩,Wd.addNil hw.drop⟩
  have h:W0 H a b=0:=by simpa using h
  obtain⟨hv,ha0,ha1,hb0,hb1⟩:=Pg h
  have hL:=T6 hv
  have hn:=Hd hL ⟨hb0,hb1⟩
  refine A6 ?_;refine D3 ((x7 (H:=H) hL ⟨hb0,hb1⟩ hw).mono fun e w hq=>?_)
  obtain⟨v,O,rfl,hO,hd,hw⟩:=hq;obtain⟨ao,no,co,rfl,hno,hnc,-⟩:=hw.own_shape (i:=0) rfl
  simp only[A8,List.length_map]at hno
  obtain⟨y,hy⟩:=B4 (l:=O) (k:=a.toNat) (by omega)
  have hget:∀ {x y:Int},0≤x→x<64→O[x.toNat]? = some y→K0 (D8 H.Links) b x=y∧y≤128001000000:=fun {x y} h0 h1 hy=>by
    have e:BZ O x=y:=by unfold BZ;rw[List.getD_eq_getElem?_getD,hy];rfl
    have:=hd x h0 h1
    rw[e]at this;exact⟨this.1.eq,this.2⟩
  have hdst:∀x,0≤x→x<64→Na (D8 H.Links) b x (K0 (D8 H.Links) b x):=fun x h0 h1=>by
    have:=(hd x h0 h1).1
    rw[this.eq];exact this
  have hya:=(hget ha0 ha1 hy).1
  refine⟨_,rfl,?_⟩;refine A6 ?_;refine A7 rfl (fun h2=>?_) (fun h2=>?_)
  · have h2:y<0:=of_decide_eq_true h2
    refine A6 ?_;exact⟨_,rfl,Γ,_,[],_,.refl _,rfl,.inr (.inl ⟨h,by rw[hya];exact h2,rfl,rfl⟩),Wd.addNil (hw.ds [0,0])⟩
  have h2:¬y<0:=of_decide_eq_false h2
  refine A6 ?_;refine D3 ((EB (H:=H) hL.1 hw).mono fun e w hq=>?_)
  obtain⟨bm,rfl,hA⟩:=hq;clear hw;obtain⟨Γ1,l,hle,hrep,hw⟩:=Jz hA
  refine⟨_,rfl,?_⟩;refine A6 ?_;refine B6 [[.int .i64 a]] ?_
  intro ap w hw;have hw:Wd Γ1 [.own (.slice (some ap) 1 1) 3 1 (A8 [a]),G1 bm l,.own (.slice ao no co) 3 1 (A8 O),.blk b1 (.cells #[.string H.Name,.slice a1 n1 c1,.slice a2 n2 c2,.slice a3 n3 c3,.slice a4 n4 c4,.slice a5 n5 c5] 69)] w:=hw
  refine A6 ?_;refine B5 (fun μ ρ w=>∃(c:Int) (vp:Option Addr) (np cp:Nat) (P:List Int),μ=(K0 (D8 H.Links) b c).toNat∧0≤c∧c<64∧0≤K0 (D8 H.Links) b c∧P.length+μ≤y.toNat∧(∀t,MU (D8 H.Links) (K0 (D8 H.Links) b) b c t→MU (D8 H.Links) (K0 (D8 H.Links) b) b a (P++t))∧Has ρ [(2,.int .i64 b),(9,.slice ao no co),(10,.map (some bm)),(11,.slice vp np cp),(12,.int .i64 c)]∧Wd Γ1 [.own (.slice vp np cp) 3 1 (A8 (a::P)),G1 bm l,.own (.slice ao no co) 3 1 (A8 O),.blk b1 (.cells #[.string H.Name,.slice a1 n1 c1,.slice a2 n2 c2,.slice a3 n3 c3,.slice a4 n4 c4,.slice a5 n5 c5] 69)] w) y.toNat ⟨a,some ap,1,1,[],by rw[hya],ha0,ha1,by rw[hya];omega,by simp,fun t ht=>ht,⟨rfl,rfl,rfl,rfl,rfl,trivial⟩,hw⟩ ?_
  clear hw;rintro μ ρ w ⟨c,vp,np,cp,P,hμ,hc0,hc1,hcl,hPl,hP,hρ,hw⟩
  have hyb:=(hget ha0 ha1 hy).2
  have hpn:=Q7 (i:=0) hw rfl
  simp only[A8,List.length_map,List.length_cons]at hpn
  rw[hρ.eq];clear hρ;refine A6 ?_;refine A7 rfl (fun h3=>?_) (fun h3=>?_)
  · have h3:c≠b:=by simpa using h3
    obtain⟨q,hq,hq1,hq2,hq3,hq4,hq5,hq6,hq7⟩:=cQ hL ⟨hb0,hb1⟩ hdst ⟨hc0,hc1⟩ hcl h3
    obtain⟨yc,hyc⟩:=B4 (l:=O) (k:=c.toNat) (by omega)
    have hcc:=(hget hc0 hc1 hyc).1
    obtain⟨va,hva⟩:=IY l c
    have hra:=hrep c va hva
    obtain⟨aa,na,ca,rfl,hna,hnca,hca⟩:=hra.shape;simp only[List.length_map]at hna
    refine A6 ?_;refine lY (v:=.slice aa na ca) ?_ (hy:=M5 hw hva (i:=1) rfl rfl rfl)
    refine A6 ?_;refine B5 (fun μ2 ρ w=>∃(k:Nat),μ2+k=na∧Has ρ [(2,.int .i64 b),(9,.slice ao no co),(10,.map (some bm)),(11,.slice vp np cp),(12,.int .i64 c),(13,.int .i64 (((D8 H.Links c).take k).foldl (CN (K0 (D8 H.Links) b) c) (-1))),(41,.slice aa na ca),(42,.int .i64 na),(43,.int .i64 k)]∧Wd Γ1 [.own (.slice vp np cp) 3 1 (A8 (a::P)),G1 bm l,.own (.slice ao no co) 3 1 (A8 O),.blk b1 (.cells #[.string H.Name,.slice a1 n1 c1,.slice a2 n2 c2,.slice a3 n3 c3,.slice a4 n4 c4,.slice a5 n5 c5] 69)] w) na ⟨0,by omega,⟨rfl,rfl,rfl,rfl,rfl,rfl,rfl,rfl,rfl,trivial⟩,hw⟩ ?_
    clear hw;rintro μ2 ρ w ⟨k,hk,hρ,hw⟩
    rw[hρ.eq];clear hρ;refine A6 ?_;refine A7 rfl (fun h4=>?_) (fun h4=>?_)
    · have hkn:k<na:=by have:=of_decide_eq_true h4;omega
      clear h4;obtain⟨r,hr⟩:=B4 (l:=D8 H.Links c) (k:=k) (by omega)
      obtain⟨r0,r1,r2,r3⟩:=hn.rng c r (List.mem_of_getElem? hr)
      obtain⟨yr,hyr⟩:=B4 (l:=O) (k:=r.1.toNat) (by omega)
      obtain⟨hrr,hrb⟩:=hget r0 r1 hyr
      have hrn:-1≤yr:=by rw[←hrr];rcases hdst r.1 r0 r1 with⟨k0,-⟩|⟨k0,-⟩ <;> omega
      generalize hacc:((D8 H.Links c).take k).foldl (CN (K0 (D8 H.Links) b) c) (-1)=acc
      have hst:((D8 H.Links c).take (k+1)).foldl (CN (K0 (D8 H.Links) b) c) (-1)=if r.2+yr=yc∧(acc<0∨r.1<acc) then r.1 else acc:=by
        rw[C9 hr,List.foldl_append,hacc,←hrr,←hcc];rfl
      refine A6 ?_;refine C0 ?_;intro b15 w hw;refine B1 ?_;intro w hw;have hw:Wd Γ1 [.blk b15 (.cells (Q1 r).toArray 205),.own (.slice vp np cp) 3 1 (A8 (a::P)),G1 bm l,.own (.slice ao no co) 3 1 (A8 O),.blk b1 (.cells #[.string H.Name,.slice a1 n1 c1,.slice a2 n2 c2,.slice a3 n3 c3,.slice a4 n4 c4,.slice a5 n5 c5] 69)] w:=hw
      refine A6 ?_;refine I5 (by kernel_rfl) (by kernel_rfl) hw ?_
      refine EX ?_;intro w hw;refine A7 rfl (fun h5=>?_) (fun h5=>?_)
      · have h5:(decide (r.2+yr=yc)&&(decide (acc<0)||decide (r.1<acc)))=true:=h5
        rw[if_pos (by simpa using h5)]at hst
        refine A6 ?_;exact⟨μ2-1,by omega,k+1,by omega,⟨rfl,rfl,rfl,rfl,rfl,by rw[hst];rfl,rfl,rfl,rfl,trivial⟩,hw.drop⟩
      · have h5:(decide (r.2+yr=yc)&&(decide (acc<0)||decide (r.1<acc)))=false:=h5
        rw [if_neg (fun hh => by have : (decide (r.2 + yr = yc) && (decide (acc < 0) || decide (r.1 < acc))) = true := by simpa using hh
                                 rw[h5]at this;cases this)]at hst
        refine A6 ?_;exact⟨μ2-1,by omega,k+1,by omega,⟨rfl,rfl,rfl,rfl,rfl,by rw[hst];rfl,rfl,rfl,rfl,trivial⟩,hw.drop⟩
    · have hkn:¬k<na:=by have:=of_decide_eq_false h4;omega
      rw[List.take_of_length_le (by omega)]
      rw[show (D8 H.Links c).foldl (CN (K0 (D8 H.Links) b) c) (-1)=q.1 from hq2];refine A6 ?_;refine B6 [[.int .i64 q.1]] ?_
      intro ab w hw;refine V7 (i:=1) (rows2:=[[.int .i64 q.1]]) ?_ (Wd.own_rd (i:=0) hw rfl)
      intro v' w hw;obtain⟨q',m',d',rfl,-,-,-⟩:=hw.own_shape (i:=1) rfl
      have hw:Wd Γ1 [.own (.slice q' m' d') 3 1 (A8 (a::(P++[q.1]))),G1 bm l,.own (.slice ao no co) 3 1 (A8 O),.blk b1 (.cells #[.string H.Name,.slice a1 n1 c1,.slice a2 n2 c2,.slice a3 n3 c3,.slice a4 n4 c4,.slice a5 n5 c5] 69)] w:=by
        have e:A8 (a::(P++[q.1]))=A8 (a::P)++[[.int .i64 q.1]]:=by simp[A8]
        rw[e];exact hw.drop
      refine A6 ?_;refine⟨(K0 (D8 H.Links) b q.1).toNat,by omega,q.1,q',m',d',P++[q.1],rfl,hq6,hq7,hq4,by simp;omega,fun t ht=>?_,⟨rfl,rfl,rfl,rfl,rfl,trivial⟩,hw⟩
      rw[List.append_assoc];refine hP _ ?_
      rw[←hq2]at ht ⊢
      exact .cons h3 ht
  · have h3:c=b:=by simpa using h3
    subst h3;refine A6 ?_;refine⟨_,rfl,Γ1,_,a::P,0,hle,rfl,.inr (.inr ⟨h,by rw[hya];omega,rfl,P,rfl,?_⟩),hw.ds [1,1,1]⟩
    have:=hP [] .nil
    rwa [List.append_nil]at this
theorem Yk{Γ:C8}{u:Value}{H:H1}[hh:Cl Γ u H](a b:Int){S:List B2}{w:World}(hw:Wd Γ S w) :
  Calls Tryz.prog 59 #[u,.int .i64 a,.int .i64 b] w fun e w'=>∃v p err,e=.returned (.tuple #[v,.int .i64 err])∧NW H a b p err∧Wd Γ (.own v 3 1 (A8 p)::S) w':=by
 haveI:Cl (dn Γ w) u H:=hh.mono (RS hw)
 refine(WF (Γ:=dn Γ w) a b (Ru hw)).mono fun e w' hq=>?_
 obtain⟨Γ',v,p,err,hle,rfl,hp,hw'⟩:=hq;exact⟨v,p,err,rfl,hp,Jw (R:=[_]) hw hle Ld hw'⟩
end Go.Proofs.YtlimglpjpcfpdaaGreat
end
section
open Go Mk
namespace Go.Proofs.YtlimglpjpcfpdaaGreat
def r8:H1:=⟨⟨#[109]⟩,[⟨0,32,0,1⟩,⟨1,39,2,1⟩],[],[⟨0,1,5⟩,⟨1,2,7⟩],[],[]⟩
theorem Xb:Reach r8.Links 0 2:=.ab (l:=⟨1,2,7⟩) (by simp[r8]) (.ab (l:=⟨0,1,5⟩) (by simp[r8]) .refl)
theorem Om:F3 r8=0:=by
 have h1:AF r8=true:=by decide +kernel
 have h2:U1 r8=true:=by decide +kernel
 have h3:(M4 r8&&J2 r8)=true:=by decide +kernel
 have h4:x5 r8=true:=by decide +kernel
 have h5:Y7 r8=true:=by decide +kernel
 have h6:As r8=true:=by decide +kernel
 have h7:Jt r8=true:=W8 ⟨fun c hc=>(by cases hc),fun i k a b ha=>(by cases ha)⟩
 have h8:Kj r8=true:=W8 fun i k a b _ ha=>by simp[r8,HP]at ha
 have h9:Ig r8=true:=W8 fun n hn=>by
  have:n=0∨n=2:=by simpa[r8,F7] using hn
  rcases this with rfl|rfl
  ·exact .refl
  ·exact Xb
 simp[F3,h1,h2,h3,h4,h5,h6,h7,h8,h9]
theorem gX:QA r8:=by unfold QA maxS;decide
theorem dw{x:Int}{q:Pl}(h:q∈D8 r8.Links x):(x=0∧q=(1,5))∨(x=1∧(q=(0,5)∨q=(2,7)))∨(x=2∧q=(1,7)):=by
 simp only[D8,r8,List.flatMap_cons,List.flatMap_nil,List.append_nil,List.mem_append]at h
 rcases h with (h|h)|(h|h) <;> split at h <;> simp at h
 ·left;exact⟨by omega,h⟩
 ·right;left;exact⟨by omega,.inl h⟩
 ·right;left;exact⟨by omega,.inr h⟩
 ·right;right;exact⟨by omega,h⟩
def UE(x:Int):Int:=if x=1 then 5 else if x=2 then 12 else 0
theorem ez{x d:Int}(h:Way (D8 r8.Links) 0 x d):UE x≤d:=by
 induction h with
 | refl=>decide
 | @step x d q _ hq ih=>
  rcases dw hq with⟨rfl,rfl⟩|⟨rfl,rfl|rfl⟩|⟨rfl,rfl⟩ <;> simp[UE]at ih ⊢ <;> omega
theorem Np{x d:Int}(h:Way (D8 r8.Links) 2 x d):12-UE x≤d:=by
 induction h with
 | refl=>decide
 | @step x d q _ hq ih=>
  rcases dw hq with⟨rfl,rfl⟩|⟨rfl,rfl|rfl⟩|⟨rfl,rfl⟩ <;> simp[UE]at ih ⊢ <;> omega
theorem eK:((1,5):Pl)∈D8 r8.Links 0:=by decide
theorem eW:((2,7):Pl)∈D8 r8.Links 1:=by decide
theorem Wg:((1,7):Pl)∈D8 r8.Links 2:=by decide
theorem em:((0,5):Pl)∈D8 r8.Links 1:=by decide
theorem da:K0 (D8 r8.Links) 0 2=12:=Na.eq (.inl ⟨by decide,(Way.step (q:=(2,7)) (Way.step (q:=(1,5)) .refl eK) eW:Way _ 0 2 (0+5+7)),fun d' h=>ez h⟩)
theorem YO:K0 (D8 r8.Links) 2 0=12:=Na.eq (.inl ⟨by decide,(Way.step (q:=(0,5)) (Way.step (q:=(1,7)) .refl Wg) em:Way _ 2 0 (0+7+5)),fun d' h=>Np h⟩)
theorem dz:K0 (D8 r8.Links) 2 1=7:=Na.eq (.inl ⟨by decide,(Way.step (q:=(1,7)) .refl Wg:Way _ 2 1 (0+7)),fun d' h=>Np h⟩)
theorem gN:K0 (D8 r8.Links) 2 2=0:=Na.eq (.inl ⟨by decide,.refl,fun d' h=>Np h⟩)
theorem Pv{a b:Int}(ha:0≤a∧a<64)(hb:0≤b∧b<64):W0 r8 a b=0:=by
 unfold W0;rw[if_pos Om,if_neg (by omega)]
theorem NJ:Gz r8 0 2=(12,0):=by
 unfold Gz;rw[if_pos (Pv (by omega) (by omega)),da,if_neg (by omega)]
theorem XK:Jv (D8 r8.Links) (K0 (D8 r8.Links) 2) 0=1:=by
 have:D8 r8.Links 0=[(1,5)]:=by decide
 unfold Jv;rw[this];simp[CN,YO,dz]
theorem ZT:Jv (D8 r8.Links) (K0 (D8 r8.Links) 2) 1=2:=by
 have:D8 r8.Links 1=[(0,5),(2,7)]:=by decide
 unfold Jv;rw[this];simp[CN,YO,dz,gN]
theorem aK{p:List Int}{err:Int}(h:NW r8 0 2 p err):p=[0,1,2]∧err=0:=by
 rcases h with⟨h,-⟩|⟨-,h,-⟩|⟨-,-,he,l,rfl,hp⟩
 ·exact absurd (Pv (by omega) (by omega)) h
 ·rw[YO]at h;omega
 ·cases hp with
  | cons hne hp=>
   rw[XK]at hp ⊢
   cases hp with
   | cons hne hp=>
    rw[ZT]at hp ⊢
    cases hp with
    | nil=>exact⟨rfl,he⟩
    | cons hne hp=>exact absurd rfl hne
theorem GN:u9 r8 0 [1]:=⟨Om,by decide,by decide,by decide,by decide⟩
theorem UO:o7 r8 0 [1] 3=[(0,1)]:=by
 have hl:=Vx (cost:=3) GN
 have ht:=IB (cost:=3) GN
 have hp:=Ip (cost:=3) GN
 match he:o7 r8 0 [1] 3,hl with
 | [e],_=>
  rw[he]at ht hp
  have h2:e.2=1:=by simpa using ht.mem_iff (a:=e.2)
  have h1:e.1=0:=by simpa using (hp 0 e rfl).1
  rw[show e=(e.1,e.2) from rfl,h1,h2]
theorem Ql:R4 r8 0 [1] 3=0∧PH r8 0 [1] 3=(0,[(0,1)]):=by
 have h:=GN.err (cost:=3) (by omega)
 refine⟨h,?_⟩
 unfold PH;rw[if_pos h,UO]
theorem UH:Wr r8 0 [(0,1)] 3=15∧(Iz r8 0 [(0,1)] 3).2=0:=by
 have ht:o8 r8 0 [(0,1)]=0:=by rw[←UO];exact Re GN
 have hf:F5 r8 0 1=12:=da
 have ha:Iz r8 0 [(0,1)] 3=([15],0):=by
  unfold Iz;rw[if_pos ht,if_neg (by omega)]
  unfold Iy;rw[hf];rfl
 unfold Wr;rw[ha];exact⟨rfl,rfl⟩
end Go.Proofs.YtlimglpjpcfpdaaGreat
end
