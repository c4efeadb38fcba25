/- Texts of this proof, one behind another. -/
import Derived.Test.YtlimglpjpcfpdaaGreatM6
import Derived.Test.YtlimglpjpcfpdaaGreatM8
import Derived.Test.YtlimglpjpcfpdaaGreatM2
import Derived.Shelf.Lays
import Derived.Shelf.Lays2
import Derived.Test.YtlimglpjpcfpdaaGreatM5
import Derived.Test.YtlimglpjpcfpdaaGreatM4
set_option linter.unusedVariables false
set_option linter.unusedSimpArgs false
section
open Go Mk
namespace Go.Proofs.YtlimglpjpcfpdaaGreat
set_option maxHeartbeats 16000000
attribute [local irreducible] Calls I3 F3
theorem Qc{Γ:C8}{S:List B2}{w:World}{u:Value}{H:H1}[hh:Cl Γ u H](hw:Wd Γ S w) :
  Calls Tryz.prog 66 #[u] w fun e w'=>∃Γ' v gs,Γ.le Γ'∧e=.returned (.tuple #[v,.int .i64 (F3 H)])∧facts gs=(if F3 H=0 then N8 (F8 H) else [])∧EM Γ' gs∧Wd Γ' (.own v 135 2 (gs.map cF)::S) w':=by
 have pV:=OW (hh:=hh)
 obtain⟨a1,n1,c1,a2,n2,c2,a3,n3,c3,a4,n4,c4,a5,n5,c5,cs',rfl,hcs,hok',hsz,r1,r2,r3,r4,r5⟩:=hh.h;have q1:=C6 r1
 have q2:=C6 r2
 have q3:=C6 r3
 have q4:=C6 r4
 have q5:=C6 r5
 simp only[List.length_map]at q1 q2 q3 q4 q5
 have e5:(F8 H).length=(GF H).length+H.Devs.length:=by unfold F8;simp
 have e4:(GF H).length=(Fo H).length+H.Mems.length:=by unfold GF;simp
 have e3:(Fo H).length=(FS H).length+H.Links.length:=by unfold Fo;simp
 have e2:(FS H).length=(Eb H).length+(H.Caches.flatMap I2).length:=by unfold FS;simp
 have e1:(Eb H).length=(Mn H).length+H.Cores.length:=by unfold Eb;simp
 refine A9 Tryz.func66 rfl rfl ?_
 refine A6 ?_;refine H9 ?_;intro b1 w hw;have hw:Wd Γ (.blk b1 (.cells #[.string H.Name,.slice a1 n1 c1,.slice a2 n2 c2,.slice a3 n3 c3,.slice a4 n4 c4,.slice a5 n5 c5] 69)::S) w:=hw
 repeat first|refine U9 ?_|refine V5 ?_;intro w hw
 refine A7 rfl (fun h=>?_) (fun h=>?_)
 ·have h:F3 H≠0:=of_decide_eq_true h
  refine A6 ?_;refine⟨_,rfl,Γ,.slice none 0 0,[],.refl _,rfl,by rw[if_neg h];rfl,fun f hf=>(by cases hf),Wd.addNil hw.drop⟩
 have h0:F3 H=0:=by have:=of_decide_eq_false h;omega
 have hV:=Hs.1 h0
 have hB:=SZ hV
 rw[h0];clear h pV;refine A6 ?_;refine lY (v:=.iface 9 (.string (H.Name))) ?_ (hy:=S0 rfl)
 refine A6 ?_;refine B6 (Aa [K5.w (H.Name)]) ?_
 intro qa w hw;refine A6 ?_;refine D3 (vs:=[.string AO,.slice (some qa) 1 1]) ?_
 refine(BP [K5.w (H.Name)] (P6.own (i:=0) hw rfl) (by simp) hw).mono ?_
 clear hw;rintro e w ⟨f,rfl,hff,hw⟩
 have hff:f.fact=(AO,[wF H.Name]):=hff
 refine⟨_,rfl,?_⟩;obtain⟨Γ2,hle2,hokf,hw⟩:=hw.freeze;have hw:=hw.drop
 refine A6 ?_;refine B6 [cF f] ?_
 intro qb w hw;refine A6 ?_;have hw:Wd Γ2 (.own (.slice (some qb) 1 1) 135 2 (([f]:List D1).map cF)::.blk b1 (.cells #[.string H.Name,.slice a1 n1 c1,.slice a2 n2 c2,.slice a3 n3 c3,.slice a4 n4 c4,.slice a5 n5 c5] 69)::S) w:=hw
 refine A6 ?_;refine B5 (fun μ ρ w=>∃(k:Nat) (g:Value) (Γ':C8) (fs:List D1),μ+k=n1∧Has ρ [(1,.pointer (some ⟨b1,0,none⟩)),(5,g),(30,.slice a1 n1 c1),(31,.int .i64 n1),(32,.int .i64 k)]∧Γ.le Γ'∧(∀f∈fs,BS Γ' f)∧facts fs=Mn H++(H.Cores.take k).map CJ∧Wd Γ' (.own g 135 2 (fs.map cF)::.blk b1 (.cells #[.string H.Name,.slice a1 n1 c1,.slice a2 n2 c2,.slice a3 n3 c3,.slice a4 n4 c4,.slice a5 n5 c5] 69)::S) w) n1 ⟨0,_,Γ2,[f],by omega,⟨rfl,rfl,rfl,rfl,rfl,trivial⟩,hle2,fun x hx=>by rw[List.mem_singleton.1 hx];exact hokf,by rw[List.take_zero,List.map_nil,List.append_nil];show [f.fact]=_;rw[hff];rfl,hw⟩ ?_
 clear hw hff hokf hle2;rintro μ ρ w ⟨k,g,Γ',fs,hk,hρ,hle,hok,hfs,hw⟩
 rw[hρ.eq];clear hρ;obtain⟨ag,ng,cg,rfl,hng,hngc,hcg⟩:=hw.own_shape (i:=0) rfl
 simp only[List.length_map]at hng
 have hfl:fs.length≤50000:=by
  have:=congrArg List.length hfs
  unfold facts at this;simp only[List.length_append,List.length_map,List.length_take]at this
  omega
 have rr:=r1.mono hle
 refine A6 ?_;refine A7 rfl (fun h=>?_) (fun h=>?_)
 ·have hkn:k<n1:=by have:=of_decide_eq_true h;omega
  clear h;obtain⟨x,hx⟩:=B4 (l:=H.Cores) (k:=k) (by omega)
  refine A6 ?_;refine C0 ?_;intro b9 w hw;refine B1 ?_;intro w hw;have hw:Wd Γ' (.blk b9 (.cells (enc x).toArray 72)::.own (.slice ag ng cg) 135 2 (fs.map cF)::.blk b1 (.cells #[.string H.Name,.slice a1 n1 c1,.slice a2 n2 c2,.slice a3 n3 c3,.slice a4 n4 c4,.slice a5 n5 c5] 69)::S) w:=hw
  refine A6 ?_;refine lY (v:=.iface 3 (.int .i64 (x.ID))) ?_ (hy:=S0 rfl)
  refine A6 ?_;refine lY (v:=.iface 3 (.int .i64 (x.Width))) ?_ (hy:=S0 rfl)
  refine A6 ?_;refine lY (v:=.iface 3 (.int .i64 (x.Node))) ?_ (hy:=S0 rfl)
  refine A6 ?_;refine lY (v:=.iface 3 (.int .i64 (x.Speed))) ?_ (hy:=S0 rfl)
  refine A6 ?_;refine B6 (Aa [K5.i (x.ID),K5.i (x.Width),K5.i (x.Node),K5.i (x.Speed)]) ?_
  intro qa w hw;refine A6 ?_;refine D3 (vs:=[.string P3,.slice (some qa) 4 4]) ?_
  refine(BP [K5.i (x.ID),K5.i (x.Width),K5.i (x.Node),K5.i (x.Speed)] (P6.own (i:=0) hw rfl) (by simp) hw).mono ?_
  clear hw;rintro e w ⟨f,rfl,hff,hw⟩
  have hff:f.fact=CJ x:=hff
  refine⟨_,rfl,?_⟩;obtain⟨Γ2,hle2,hokf,hw⟩:=hw.freeze;have hw:=hw.drop
  refine A6 ?_;refine B6 [cF f] ?_
  intro qb w hw;refine A6 ?_;refine V7 (i:=2) (rows2:=[cF f]) ?_ (Wd.own_rd (i:=0) hw rfl) (m2:=1) (c2:=1)
  intro t1 w hw;have hw:=hw.drop
  rw[show fs.map cF++[cF f]=(fs++[f]).map cF from by simp]at hw
  have hok2:∀x∈fs++[f],BS Γ2 x:=fun x hx=>(List.mem_append.1 hx).elim (fun h=>(hok x h).mono hle2) fun h=>by rw[List.mem_singleton.1 h];exact hokf
  have hw:Wd Γ2 (.own t1 135 2 ((fs++[f]).map cF)::.blk b1 (.cells #[.string H.Name,.slice a1 n1 c1,.slice a2 n2 c2,.slice a3 n3 c3,.slice a4 n4 c4,.slice a5 n5 c5] 69)::S) w:=hw.drop
  refine A6 ?_;refine⟨μ-1,by omega,k+1,t1,Γ2,fs++[f],by omega,⟨rfl,rfl,rfl,rfl,rfl,trivial⟩,hle.trans hle2,hok2,?_,hw⟩
  have h1:facts (fs++[f])=facts fs++[f.fact]:=by unfold facts;rw[List.map_append];rfl
  rw[h1,hfs,hff,List.take_add_one,hx,List.map_append,←List.append_assoc];rfl
 have hkn:n1≤k:=by have:=of_decide_eq_false h;omega
 clear h;rw[List.take_of_length_le (by omega)]at hfs
 have hfs:facts fs=Eb H:=hfs
 have hle0:=hle
 clear rr hkn hk hle;refine A6 ?_;refine B5 (fun μ ρ w=>∃(k:Nat) (g:Value) (Γ':C8) (fs:List D1),μ+k=n2∧Has ρ [(1,.pointer (some ⟨b1,0,none⟩)),(5,g),(55,.slice a2 n2 c2),(56,.int .i64 n2),(57,.int .i64 k)]∧Γ.le Γ'∧(∀f∈fs,BS Γ' f)∧facts fs=Eb H++(cs'.take k).flatMap (fun c=>I2 c.T)∧Wd Γ' (.own g 135 2 (fs.map cF)::.blk b1 (.cells #[.string H.Name,.slice a1 n1 c1,.slice a2 n2 c2,.slice a3 n3 c3,.slice a4 n4 c4,.slice a5 n5 c5] 69)::S) w) n2 ⟨0,_,Γ',fs,by omega,⟨rfl,rfl,rfl,rfl,rfl,trivial⟩,hle0,hok,by rw[List.take_zero,List.flatMap_nil,List.append_nil];exact hfs,hw⟩ ?_
 clear hw;rintro μ ρ w ⟨k,g,Γ',fs,hk,hρ,hle,hok,hfs,hw⟩
 rw[hρ.eq];clear hρ;obtain⟨ag,ng,cg,rfl,hng,hngc,hcg⟩:=hw.own_shape (i:=0) rfl
 simp only[List.length_map]at hng
 have hfl:fs.length≤50000:=by
  have:=congrArg List.length hfs
  unfold facts at this;rw[List.length_append,List.length_map]at this;have h3:=IOo (g:=fun c:E1=>I2 c.T) (l:=cs') k
  have h4:(H.Caches.flatMap I2).length=(cs'.flatMap fun c=>I2 c.T).length:=by rw[←hcs,List.flatMap_map]
  omega
 have rr:=r2.mono hle
 refine A6 ?_;refine A7 rfl (fun h=>?_) (fun h=>?_)
 ·have hkn:k<n2:=by have:=of_decide_eq_true h;omega
  clear h;obtain⟨x,hx⟩:=B4 (l:=cs') (k:=k) (by omega)
  refine A6 ?_;refine C0 ?_;intro b9 w hw;refine B1 ?_;intro w hw;have hw:Wd Γ' (.blk b9 (.cells (cC x).toArray 163)::.own (.slice ag ng cg) 135 2 (fs.map cF)::.blk b1 (.cells #[.string H.Name,.slice a1 n1 c1,.slice a2 n2 c2,.slice a3 n3 c3,.slice a4 n4 c4,.slice a5 n5 c5] 69)::S) w:=hw
  refine A6 ?_;refine lY (v:=.iface 9 (.string (x.Name))) ?_ (hy:=S0 rfl)
  refine A6 ?_;refine lY (v:=.iface 3 (.int .i64 (x.Level))) ?_ (hy:=S0 rfl)
  refine A6 ?_;refine lY (v:=.iface 122 (.int .u64 (x.Size))) ?_ (hy:=S0 rfl)
  refine A6 ?_;refine lY (v:=.iface 3 (.int .i64 (x.Line))) ?_ (hy:=S0 rfl)
  refine A6 ?_;refine B6 (Aa [K5.w (x.Name),K5.i (x.Level),K5.u (x.Size),K5.i (x.Line)]) ?_
  intro qa w hw;refine A6 ?_;refine D3 (vs:=[.string i6,.slice (some qa) 4 4]) ?_
  refine(BP [K5.w (x.Name),K5.i (x.Level),K5.u (x.Size),K5.i (x.Line)] (P6.own (i:=0) hw rfl) (by simp) hw).mono ?_
  clear hw;rintro e w ⟨f,rfl,hff,hw⟩
  have hff:f.fact=Mi x.T:=hff
  refine⟨_,rfl,?_⟩;obtain⟨Γ2,hle2,hokf,hw⟩:=hw.freeze;have hw:=hw.drop
  refine A6 ?_;refine B6 [cF f] ?_
  intro qb w hw;refine A6 ?_;refine V7 (i:=2) (rows2:=[cF f]) ?_ (Wd.own_rd (i:=0) hw rfl) (m2:=1) (c2:=1)
  intro t1 w hw;have hw:=hw.drop
  rw[show fs.map cF++[cF f]=(fs++[f]).map cF from by simp]at hw
  have hok2:∀x∈fs++[f],BS Γ2 x:=fun x hx=>(List.mem_append.1 hx).elim (fun h=>(hok x h).mono hle2) fun h=>by rw[List.mem_singleton.1 h];exact hokf
  have hw:Wd Γ2 (.blk b9 (.cells (cC x).toArray 163)::.own t1 135 2 ((fs++[f]).map cF)::.blk b1 (.cells #[.string H.Name,.slice a1 n1 c1,.slice a2 n2 c2,.slice a3 n3 c3,.slice a4 n4 c4,.slice a5 n5 c5] 69)::S) w:=hw
  have hxo:RG Γ2 x:=RG.mono (hok' x (List.mem_of_getElem? hx)) (hle.trans hle2)
  have hbase:facts (fs++[f])=(Eb H++(cs'.take k).flatMap (fun c=>I2 c.T))++[Mi x.T]:=by
   have h1:facts (fs++[f])=facts fs++[f.fact]:=by unfold facts;rw[List.map_append];rfl
   rw[h1,hfs,hff]
  have hle2':=hle.trans hle2
  have rx2:D9 Γ2 (.slice x.A x.N x.C) 1 (A8 x.Cores):=hxo
  refine A6 ?_;refine B5 (fun μ2 ρ w=>∃(j:Nat) (g:Value) (Γ':C8) (fs:List D1),μ2+j=x.N∧Has ρ [(1,.pointer (some ⟨b1,0,none⟩)),(5,g),(9,.pointer (some ⟨b9,0,none⟩)),(55,.slice a2 n2 c2),(56,.int .i64 n2),(57,.int .i64 k),(79,.slice x.A x.N x.C),(80,.int .i64 x.N),(81,.int .i64 j)]∧Γ2.le Γ'∧(∀f∈fs,BS Γ' f)∧facts fs=((Eb H++(cs'.take k).flatMap (fun c=>I2 c.T))++[Mi x.T])++(x.Cores.take j).map (RV x.T)∧Wd Γ' (.blk b9 (.cells (cC x).toArray 163)::.own g 135 2 (fs.map cF)::.blk b1 (.cells #[.string H.Name,.slice a1 n1 c1,.slice a2 n2 c2,.slice a3 n3 c3,.slice a4 n4 c4,.slice a5 n5 c5] 69)::S) w) x.N ⟨0,t1,Γ2,fs++[f],by omega,⟨rfl,rfl,rfl,rfl,rfl,rfl,rfl,rfl,rfl,trivial⟩,C8.le.refl _,hok2,by rw[List.take_zero,List.map_nil,List.append_nil];exact hbase,hw⟩ ?_
  clear hw hokf hok2 hff hbase;clear hfl hng;rename_i gOld
  clear hok hle;rintro μ2 ρ w ⟨j,g,Γ',fs,hj,hρ,hle,hok,hfs,hw⟩
  rw[hρ.eq];clear hρ;obtain⟨ag,ng,cg,rfl,hng,hngc,hcg⟩:=hw.own_shape (i:=1) rfl
  simp only[List.length_map]at hng
  have hfl:fs.length≤50000:=by
   have:=congrArg List.length hfs
   unfold facts at this;rw[List.length_map,List.length_append,List.length_append,List.length_append,List.length_map,List.length_take]at this;have h2:(cs'.take (k+1)).flatMap (fun c=>I2 c.T)=(cs'.take k).flatMap (fun c=>I2 c.T)++I2 x.T:=by rw[List.take_add_one,hx];simp
   have h3:=IOo (g:=fun c:E1=>I2 c.T) (l:=cs') (k+1)
   have h4:(H.Caches.flatMap I2).length=(cs'.flatMap fun c=>I2 c.T).length:=by rw[←hcs,List.flatMap_map]
   have h5:(I2 x.T).length=x.Cores.length+1:=by unfold I2;simp[E1.T]
   rw[h2,List.length_append]at h3;simp only[List.length_cons,List.length_nil]at this
   omega
  have rr2:D9 Γ' (.slice x.A x.N x.C) 1 (A8 x.Cores):=rx2.mono hle
  have hxn:x.N=x.Cores.length:=by have:=(C6 rr2).1;unfold A8 at this;rwa [List.length_map]at this
  have hxc:=(C6 rr2).2
  refine A6 ?_;refine A7 rfl (fun h=>?_) (fun h=>?_)
  ·have hjn:j<x.N:=by have:=of_decide_eq_true h;omega
   clear h;obtain⟨y,hy⟩:=B4 (l:=x.Cores) (k:=j) (by omega)
   refine A6 ?_;refine lY (v:=.iface 9 (.string (x.Name))) ?_ (hy:=S0 rfl)
   refine A6 ?_;refine lY (v:=.iface 3 (.int .i64 (y))) ?_ (hy:=S0 rfl)
   refine A6 ?_;refine B6 (Aa [K5.w (x.Name),K5.i (y)]) ?_
   intro qa w hw;refine A6 ?_;refine D3 (vs:=[.string U3,.slice (some qa) 2 2]) ?_
   refine(BP [K5.w (x.Name),K5.i (y)] (P6.own (i:=0) hw rfl) (by simp) hw).mono ?_
   clear hw;rintro e w ⟨f,rfl,hff,hw⟩
   have hff:f.fact=RV x.T y:=hff
   refine⟨_,rfl,?_⟩;obtain⟨Γ2,hle2,hokf,hw⟩:=hw.freeze;have hw:=hw.drop
   refine A6 ?_;refine B6 [cF f] ?_
   intro qb w hw;refine A6 ?_;refine V7 (i:=2) (rows2:=[cF f]) ?_ (Wd.own_rd (i:=0) hw rfl) (m2:=1) (c2:=1)
   intro t1 w hw;have hw:=hw.drop
   rw[show fs.map cF++[cF f]=(fs++[f]).map cF from by simp]at hw
   have hok2:∀x∈fs++[f],BS Γ2 x:=fun x hx=>(List.mem_append.1 hx).elim (fun h=>(hok x h).mono hle2) fun h=>by rw[List.mem_singleton.1 h];exact hokf
   refine A6 ?_;refine⟨μ2-1,by omega,j+1,t1,Γ2,fs++[f],by omega,⟨rfl,rfl,rfl,rfl,rfl,rfl,rfl,rfl,rfl,trivial⟩,hle.trans hle2,hok2,?_,hw⟩
   have h1:facts (fs++[f])=facts fs++[f.fact]:=by unfold facts;rw[List.map_append];rfl
   rw[h1,hfs,hff,List.take_add_one,hy,List.map_append,←List.append_assoc];rfl
  have hjn:x.N≤j:=by have:=of_decide_eq_false h;omega
  clear h;rw[List.take_of_length_le (l:=x.Cores) (i:=j) (by omega)]at hfs
  refine A6 ?_;refine⟨μ-1,by omega,k+1,_,Γ',fs,by omega,⟨rfl,rfl,rfl,rfl,rfl,trivial⟩,hle2'.trans hle,hok,?_,hw.drop⟩
  have h2:(cs'.take (k+1)).flatMap (fun c=>I2 c.T)=(cs'.take k).flatMap (fun c=>I2 c.T)++I2 x.T:=by rw[List.take_add_one,hx];simp
  rw[h2,hfs];unfold I2;simp only[List.append_assoc,List.cons_append,List.nil_append];rfl
 have hkn:n2≤k:=by have:=of_decide_eq_false h;omega
 clear h;rw[List.take_of_length_le (by omega)]at hfs
 have hfs:facts fs=FS H:=by
  rw[hfs];unfold FS;rw[←hcs,List.flatMap_map]
 have hle0:=hle
 clear rr hkn hk hle;refine A6 ?_;refine B5 (fun μ ρ w=>∃(k:Nat) (g:Value) (Γ':C8) (fs:List D1),μ+k=n3∧Has ρ [(1,.pointer (some ⟨b1,0,none⟩)),(5,g),(98,.slice a3 n3 c3),(99,.int .i64 n3),(100,.int .i64 k)]∧Γ.le Γ'∧(∀f∈fs,BS Γ' f)∧facts fs=FS H++(H.Links.take k).map Qf∧Wd Γ' (.own g 135 2 (fs.map cF)::.blk b1 (.cells #[.string H.Name,.slice a1 n1 c1,.slice a2 n2 c2,.slice a3 n3 c3,.slice a4 n4 c4,.slice a5 n5 c5] 69)::S) w) n3 ⟨0,_,Γ',fs,by omega,⟨rfl,rfl,rfl,rfl,rfl,trivial⟩,hle0,hok,by rw[List.take_zero,List.map_nil,List.append_nil];exact hfs,hw⟩ ?_
 clear hw;rintro μ ρ w ⟨k,g,Γ',fs,hk,hρ,hle,hok,hfs,hw⟩
 rw[hρ.eq];clear hρ;obtain⟨ag,ng,cg,rfl,hng,hngc,hcg⟩:=hw.own_shape (i:=0) rfl
 simp only[List.length_map]at hng
 have hfl:fs.length≤50000:=by
  have:=congrArg List.length hfs
  unfold facts at this;simp only[List.length_append,List.length_map,List.length_take]at this
  omega
 have rr:=r3.mono hle
 refine A6 ?_;refine A7 rfl (fun h=>?_) (fun h=>?_)
 ·have hkn:k<n3:=by have:=of_decide_eq_true h;omega
  clear h;obtain⟨x,hx⟩:=B4 (l:=H.Links) (k:=k) (by omega)
  refine A6 ?_;refine C0 ?_;intro b9 w hw;refine B1 ?_;intro w hw;have hw:Wd Γ' (.blk b9 (.cells (enc x).toArray 140)::.own (.slice ag ng cg) 135 2 (fs.map cF)::.blk b1 (.cells #[.string H.Name,.slice a1 n1 c1,.slice a2 n2 c2,.slice a3 n3 c3,.slice a4 n4 c4,.slice a5 n5 c5] 69)::S) w:=hw
  refine A6 ?_;refine lY (v:=.iface 3 (.int .i64 (if x.B<x.A then x.B else x.A))) ?_ (hy:=S0 rfl)
  refine A6 ?_;refine lY (v:=.iface 3 (.int .i64 (if x.A<x.B then x.B else x.A))) ?_ (hy:=S0 rfl)
  refine A6 ?_;refine lY (v:=.iface 3 (.int .i64 (x.Latency))) ?_ (hy:=S0 rfl)
  refine A6 ?_;refine B6 (Aa [K5.i (if x.B<x.A then x.B else x.A),K5.i (if x.A<x.B then x.B else x.A),K5.i (x.Latency)]) ?_
  intro qa w hw;refine A6 ?_;refine D3 (vs:=[.string Bd,.slice (some qa) 3 3]) ?_
  refine(BP [K5.i (if x.B<x.A then x.B else x.A),K5.i (if x.A<x.B then x.B else x.A),K5.i (x.Latency)] (P6.own (i:=0) hw rfl) (by simp) hw).mono ?_
  clear hw;rintro e w ⟨f,rfl,hff,hw⟩
  have hff:f.fact=Qf x:=hff
  refine⟨_,rfl,?_⟩;obtain⟨Γ2,hle2,hokf,hw⟩:=hw.freeze;have hw:=hw.drop
  refine A6 ?_;refine B6 [cF f] ?_
  intro qb w hw;refine A6 ?_;refine V7 (i:=2) (rows2:=[cF f]) ?_ (Wd.own_rd (i:=0) hw rfl) (m2:=1) (c2:=1)
  intro t1 w hw;have hw:=hw.drop
  rw[show fs.map cF++[cF f]=(fs++[f]).map cF from by simp]at hw
  have hok2:∀x∈fs++[f],BS Γ2 x:=fun x hx=>(List.mem_append.1 hx).elim (fun h=>(hok x h).mono hle2) fun h=>by rw[List.mem_singleton.1 h];exact hokf
  have hw:Wd Γ2 (.own t1 135 2 ((fs++[f]).map cF)::.blk b1 (.cells #[.string H.Name,.slice a1 n1 c1,.slice a2 n2 c2,.slice a3 n3 c3,.slice a4 n4 c4,.slice a5 n5 c5] 69)::S) w:=hw.drop
  refine A6 ?_;refine⟨μ-1,by omega,k+1,t1,Γ2,fs++[f],by omega,⟨rfl,rfl,rfl,rfl,rfl,trivial⟩,hle.trans hle2,hok2,?_,hw⟩
  have h1:facts (fs++[f])=facts fs++[f.fact]:=by unfold facts;rw[List.map_append];rfl
  rw[h1,hfs,hff,List.take_add_one,hx,List.map_append,←List.append_assoc];rfl
 have hkn:n3≤k:=by have:=of_decide_eq_false h;omega
 clear h;rw[List.take_of_length_le (by omega)]at hfs
 have hfs:facts fs=Fo H:=hfs
 have hle0:=hle
 clear rr hkn hk hle;refine A6 ?_;refine B5 (fun μ ρ w=>∃(k:Nat) (g:Value) (Γ':C8) (fs:List D1),μ+k=n4∧Has ρ [(1,.pointer (some ⟨b1,0,none⟩)),(5,g),(126,.slice a4 n4 c4),(127,.int .i64 n4),(128,.int .i64 k)]∧Γ.le Γ'∧(∀f∈fs,BS Γ' f)∧facts fs=Fo H++(H.Mems.take k).map Zi∧Wd Γ' (.own g 135 2 (fs.map cF)::.blk b1 (.cells #[.string H.Name,.slice a1 n1 c1,.slice a2 n2 c2,.slice a3 n3 c3,.slice a4 n4 c4,.slice a5 n5 c5] 69)::S) w) n4 ⟨0,_,Γ',fs,by omega,⟨rfl,rfl,rfl,rfl,rfl,trivial⟩,hle0,hok,by rw[List.take_zero,List.map_nil,List.append_nil];exact hfs,hw⟩ ?_
 clear hw;rintro μ ρ w ⟨k,g,Γ',fs,hk,hρ,hle,hok,hfs,hw⟩
 rw[hρ.eq];clear hρ;obtain⟨ag,ng,cg,rfl,hng,hngc,hcg⟩:=hw.own_shape (i:=0) rfl
 simp only[List.length_map]at hng
 have hfl:fs.length≤50000:=by
  have:=congrArg List.length hfs
  unfold facts at this;simp only[List.length_append,List.length_map,List.length_take]at this
  omega
 have rr:=r4.mono hle
 refine A6 ?_;refine A7 rfl (fun h=>?_) (fun h=>?_)
 ·have hkn:k<n4:=by have:=of_decide_eq_true h;omega
  clear h;obtain⟨x,hx⟩:=B4 (l:=H.Mems) (k:=k) (by omega)
  refine A6 ?_;refine C0 ?_;intro b9 w hw;refine B1 ?_;intro w hw;have hw:Wd Γ' (.blk b9 (.cells (enc x).toArray 157)::.own (.slice ag ng cg) 135 2 (fs.map cF)::.blk b1 (.cells #[.string H.Name,.slice a1 n1 c1,.slice a2 n2 c2,.slice a3 n3 c3,.slice a4 n4 c4,.slice a5 n5 c5] 69)::S) w:=hw
  refine A6 ?_;refine lY (v:=.iface 9 (.string (x.Name))) ?_ (hy:=S0 rfl)
  refine A6 ?_;refine lY (v:=.iface 122 (.int .u64 (x.Base))) ?_ (hy:=S0 rfl)
  refine A6 ?_;refine lY (v:=.iface 122 (.int .u64 (x.Size))) ?_ (hy:=S0 rfl)
  refine A6 ?_;refine lY (v:=.iface 3 (.int .i64 (x.Node))) ?_ (hy:=S0 rfl)
  refine A6 ?_;refine lY (v:=.iface 3 (.int .i64 (x.Latency))) ?_ (hy:=S0 rfl)
  refine A6 ?_;refine B6 (Aa [K5.w (x.Name),K5.u (x.Base),K5.u (x.Size),K5.i (x.Node),K5.i (x.Latency)]) ?_
  intro qa w hw;refine A6 ?_;refine D3 (vs:=[.string Y6,.slice (some qa) 5 5]) ?_
  refine(BP [K5.w (x.Name),K5.u (x.Base),K5.u (x.Size),K5.i (x.Node),K5.i (x.Latency)] (P6.own (i:=0) hw rfl) (by simp) hw).mono ?_
  clear hw;rintro e w ⟨f,rfl,hff,hw⟩
  have hff:f.fact=Zi x:=hff
  refine⟨_,rfl,?_⟩;obtain⟨Γ2,hle2,hokf,hw⟩:=hw.freeze;have hw:=hw.drop
  refine A6 ?_;refine B6 [cF f] ?_
  intro qb w hw;refine A6 ?_;refine V7 (i:=2) (rows2:=[cF f]) ?_ (Wd.own_rd (i:=0) hw rfl) (m2:=1) (c2:=1)
  intro t1 w hw;have hw:=hw.drop
  rw[show fs.map cF++[cF f]=(fs++[f]).map cF from by simp]at hw
  have hok2:∀x∈fs++[f],BS Γ2 x:=fun x hx=>(List.mem_append.1 hx).elim (fun h=>(hok x h).mono hle2) fun h=>by rw[List.mem_singleton.1 h];exact hokf
  have hw:Wd Γ2 (.own t1 135 2 ((fs++[f]).map cF)::.blk b1 (.cells #[.string H.Name,.slice a1 n1 c1,.slice a2 n2 c2,.slice a3 n3 c3,.slice a4 n4 c4,.slice a5 n5 c5] 69)::S) w:=hw.drop
  refine A6 ?_;refine⟨μ-1,by omega,k+1,t1,Γ2,fs++[f],by omega,⟨rfl,rfl,rfl,rfl,rfl,trivial⟩,hle.trans hle2,hok2,?_,hw⟩
  have h1:facts (fs++[f])=facts fs++[f.fact]:=by unfold facts;rw[List.map_append];rfl
  rw[h1,hfs,hff,List.take_add_one,hx,List.map_append,←List.append_assoc];rfl
 have hkn:n4≤k:=by have:=of_decide_eq_false h;omega
 clear h;rw[List.take_of_length_le (by omega)]at hfs
 have hfs:facts fs=GF H:=hfs
 have hle0:=hle
 clear rr hkn hk hle;refine A6 ?_;refine B5 (fun μ ρ w=>∃(k:Nat) (g:Value) (Γ':C8) (fs:List D1),μ+k=n5∧Has ρ [(1,.pointer (some ⟨b1,0,none⟩)),(5,g),(154,.slice a5 n5 c5),(155,.int .i64 n5),(156,.int .i64 k)]∧Γ.le Γ'∧(∀f∈fs,BS Γ' f)∧facts fs=GF H++(H.Devs.take k).map cd∧Wd Γ' (.own g 135 2 (fs.map cF)::.blk b1 (.cells #[.string H.Name,.slice a1 n1 c1,.slice a2 n2 c2,.slice a3 n3 c3,.slice a4 n4 c4,.slice a5 n5 c5] 69)::S) w) n5 ⟨0,_,Γ',fs,by omega,⟨rfl,rfl,rfl,rfl,rfl,trivial⟩,hle0,hok,by rw[List.take_zero,List.map_nil,List.append_nil];exact hfs,hw⟩ ?_
 clear hw;rintro μ ρ w ⟨k,g,Γ',fs,hk,hρ,hle,hok,hfs,hw⟩
 rw[hρ.eq];clear hρ;obtain⟨ag,ng,cg,rfl,hng,hngc,hcg⟩:=hw.own_shape (i:=0) rfl
 simp only[List.length_map]at hng
 have hfl:fs.length≤50000:=by
  have:=congrArg List.length hfs
  unfold facts at this;simp only[List.length_append,List.length_map,List.length_take]at this
  omega
 have rr:=r5.mono hle
 refine A6 ?_;refine A7 rfl (fun h=>?_) (fun h=>?_)
 ·have hkn:k<n5:=by have:=of_decide_eq_true h;omega
  clear h;obtain⟨x,hx⟩:=B4 (l:=H.Devs) (k:=k) (by omega)
  refine A6 ?_;refine C0 ?_;intro b9 w hw;refine B1 ?_;intro w hw;have hw:Wd Γ' (.blk b9 (.cells (enc x).toArray 159)::.own (.slice ag ng cg) 135 2 (fs.map cF)::.blk b1 (.cells #[.string H.Name,.slice a1 n1 c1,.slice a2 n2 c2,.slice a3 n3 c3,.slice a4 n4 c4,.slice a5 n5 c5] 69)::S) w:=hw
  refine A6 ?_;refine lY (v:=.iface 9 (.string (x.Name))) ?_ (hy:=S0 rfl)
  refine A6 ?_;refine lY (v:=.iface 3 (.int .i64 (x.Node))) ?_ (hy:=S0 rfl)
  refine A6 ?_;refine lY (v:=.iface 3 (.int .i64 (x.IRQ))) ?_ (hy:=S0 rfl)
  refine A6 ?_;refine lY (v:=.iface 122 (.int .u64 (x.Base))) ?_ (hy:=S0 rfl)
  refine A6 ?_;refine lY (v:=.iface 122 (.int .u64 (x.Size))) ?_ (hy:=S0 rfl)
  refine A6 ?_;refine B6 (Aa [K5.w (x.Name),K5.i (x.Node),K5.i (x.IRQ),K5.u (x.Base),K5.u (x.Size)]) ?_
  intro qa w hw;refine A6 ?_;refine D3 (vs:=[.string g7,.slice (some qa) 5 5]) ?_
  refine(BP [K5.w (x.Name),K5.i (x.Node),K5.i (x.IRQ),K5.u (x.Base),K5.u (x.Size)] (P6.own (i:=0) hw rfl) (by simp) hw).mono ?_
  clear hw;rintro e w ⟨f,rfl,hff,hw⟩
  have hff:f.fact=cd x:=hff
  refine⟨_,rfl,?_⟩;obtain⟨Γ2,hle2,hokf,hw⟩:=hw.freeze;have hw:=hw.drop
  refine A6 ?_;refine B6 [cF f] ?_
  intro qb w hw;refine A6 ?_;refine V7 (i:=2) (rows2:=[cF f]) ?_ (Wd.own_rd (i:=0) hw rfl) (m2:=1) (c2:=1)
  intro t1 w hw;have hw:=hw.drop
  rw[show fs.map cF++[cF f]=(fs++[f]).map cF from by simp]at hw
  have hok2:∀x∈fs++[f],BS Γ2 x:=fun x hx=>(List.mem_append.1 hx).elim (fun h=>(hok x h).mono hle2) fun h=>by rw[List.mem_singleton.1 h];exact hokf
  have hw:Wd Γ2 (.own t1 135 2 ((fs++[f]).map cF)::.blk b1 (.cells #[.string H.Name,.slice a1 n1 c1,.slice a2 n2 c2,.slice a3 n3 c3,.slice a4 n4 c4,.slice a5 n5 c5] 69)::S) w:=hw.drop
  refine A6 ?_;refine⟨μ-1,by omega,k+1,t1,Γ2,fs++[f],by omega,⟨rfl,rfl,rfl,rfl,rfl,trivial⟩,hle.trans hle2,hok2,?_,hw⟩
  have h1:facts (fs++[f])=facts fs++[f.fact]:=by unfold facts;rw[List.map_append];rfl
  rw[h1,hfs,hff,List.take_add_one,hx,List.map_append,←List.append_assoc];rfl
 have hkn:n5≤k:=by have:=of_decide_eq_false h;omega
 clear h;rw[List.take_of_length_le (by omega)]at hfs
 have hfs:facts fs=F8 H:=hfs
 have hle0:=hle
 clear rr hkn hk hle;refine A6 ?_;have hFs:EM Γ' fs:=fun f hf=>⟨hok f hf,di hV _ (by rw[←hfs];exact List.mem_map.2 ⟨f,hf,rfl⟩)⟩
 refine D3 (vs:=[.slice ag ng cg]) ?_
 refine(aj fs hFs (by omega) (P6.own (i:=0) hw rfl) hw).mono ?_
 clear hw;rintro e w ⟨Γ2,v',gs,hle2,rfl,hgs,hgo,hw⟩
 refine⟨_,rfl,?_⟩;refine A6 ?_;exact⟨_,rfl,Γ2,v',gs,hle0.trans hle2,rfl,by rw[if_pos rfl,hgs,hfs],hgo,hw.ds [1,1]⟩
end Go.Proofs.YtlimglpjpcfpdaaGreat
end
section
open Go Mk
namespace Go.Proofs.YtlimglpjpcfpdaaGreat
def LS:Go.Shelf.Ren:=⟨fun|189=>67|125=>114|257=>132|128=>171|129=>172|294=>199|295=>200|296=>201|297=>202|298=>203|299=>204|216=>205|300=>206|301=>207|328=>250|329=>230|330=>231|331=>251|332=>252|215=>182|343=>271|n=>n,fun|28=>62|3=>3|46=>155|0=>0|51=>260|53=>122|4=>4|183=>253|182=>252|131=>257|5=>5|9=>9|218=>292|222=>296|228=>320|229=>228|n=>n,fun|n=>n⟩
theorem VV:Go.Proofs.Lays.n189 Tryz.prog LS:={
 mixed:=by kernel_rfl
 f125:=Tryz.func114.trans (congrArg some (by kernel_rfl))
 f128:=Tryz.func171.trans (congrArg some (by kernel_rfl))
 f129:=Tryz.func172.trans (congrArg some (by kernel_rfl))
 f189:=Tryz.func67.trans (congrArg some (by kernel_rfl))
 f215:=Tryz.func182.trans (congrArg some (by kernel_rfl))
 f216:=Tryz.func205.trans (congrArg some (by kernel_rfl))
 f257:=Tryz.func132.trans (congrArg some (by kernel_rfl))
 f294:=Tryz.func199.trans (congrArg some (by kernel_rfl))
 f295:=Tryz.func200.trans (congrArg some (by kernel_rfl))
 f296:=Tryz.func201.trans (congrArg some (by kernel_rfl))
 f297:=Tryz.func202.trans (congrArg some (by kernel_rfl))
 f298:=Tryz.func203.trans (congrArg some (by kernel_rfl))
 f299:=Tryz.func204.trans (congrArg some (by kernel_rfl))
 f300:=Tryz.func206.trans (congrArg some (by kernel_rfl))
 f301:=Tryz.func207.trans (congrArg some (by kernel_rfl))
 f328:=Tryz.func250.trans (congrArg some (by kernel_rfl))
 f329:=Tryz.func230.trans (congrArg some (by kernel_rfl))
 f330:=Tryz.func231.trans (congrArg some (by kernel_rfl))
 f331:=Tryz.func251.trans (congrArg some (by kernel_rfl))
 f332:=Tryz.func252.trans (congrArg some (by kernel_rfl))
 f343:=Tryz.func271.trans (congrArg some (by kernel_rfl))
 t0:=Tryz.underlying0
 a0:=Tryz.isAgg0
 z0:=Tryz.sizeOf0
 v0:=Tryz.zeroValue0
 t3:=Tryz.underlying3
 a3:=Tryz.isAgg3
 z3:=Tryz.sizeOf3
 v3:=Tryz.zeroValue3
 t4:=Tryz.underlying4
 a4:=Tryz.isAgg4
 z4:=Tryz.sizeOf4
 v4:=Tryz.zeroValue4
 t5:=Tryz.underlying5
 a5:=Tryz.isAgg5
 z5:=Tryz.sizeOf5
 v5:=Tryz.zeroValue5
 t9:=Tryz.underlying9
 a9:=Tryz.isAgg9
 z9:=Tryz.sizeOf9
 v9:=Tryz.zeroValue9
 t28:=Tryz.underlying62
 a28:=Tryz.isAgg62
 z28:=Tryz.sizeOf62
 v28:=Tryz.zeroValue62
 t46:=Tryz.underlying155
 a46:=Tryz.isAgg155
 z46:=Tryz.sizeOf155
 v46:=Tryz.zeroValue155
 t51:=Tryz.underlying260
 a51:=Tryz.isAgg260
 z51:=Tryz.sizeOf260
 v51:=Tryz.zeroValue260
 t53:=Tryz.underlying122
 a53:=Tryz.isAgg122
 z53:=Tryz.sizeOf122
 v53:=Tryz.zeroValue122
 t131:=Tryz.underlying257
 a131:=Tryz.isAgg257
 z131:=Tryz.sizeOf257
 v131:=Tryz.zeroValue257
 t182:=Tryz.underlying252
 a182:=Tryz.isAgg252
 z182:=Tryz.sizeOf252
 v182:=Tryz.zeroValue252
 t183:=Tryz.underlying253
 a183:=Tryz.isAgg253
 z183:=Tryz.sizeOf253
 v183:=Tryz.zeroValue253
 t218:=Tryz.underlying292
 a218:=Tryz.isAgg292
 z218:=Tryz.sizeOf292
 v218:=Tryz.zeroValue292
 t222:=Tryz.underlying296
 a222:=Tryz.isAgg296
 z222:=Tryz.sizeOf296
 v222:=Tryz.zeroValue296
 t228:=Tryz.underlying320
 a228:=Tryz.isAgg320
 z228:=Tryz.sizeOf320
 v228:=Tryz.zeroValue320
 t229:=Tryz.underlying228
 a229:=Tryz.isAgg228
 z229:=Tryz.sizeOf228
 v229:=Tryz.zeroValue228 }
def OD:Go.Shelf.Ren:=⟨fun|20=>68|n=>n,fun|22=>62|3=>3|4=>4|0=>0|n=>n,fun|n=>n⟩
theorem ct:Go.Proofs.Lays2.n20 Tryz.prog OD:={
 mixed:=by kernel_rfl
 f20:=Tryz.func68.trans (congrArg some (by kernel_rfl))
 t0:=Tryz.underlying0
 a0:=Tryz.isAgg0
 z0:=Tryz.sizeOf0
 v0:=Tryz.zeroValue0
 t3:=Tryz.underlying3
 a3:=Tryz.isAgg3
 z3:=Tryz.sizeOf3
 v3:=Tryz.zeroValue3
 t4:=Tryz.underlying4
 a4:=Tryz.isAgg4
 z4:=Tryz.sizeOf4
 v4:=Tryz.zeroValue4
 t22:=Tryz.underlying62
 a22:=Tryz.isAgg62
 z22:=Tryz.sizeOf62
 v22:=Tryz.zeroValue62
 i3:=by kernel_rfl }
end Go.Proofs.YtlimglpjpcfpdaaGreat
end
section
open Go Mk
namespace Go.Proofs.YtlimglpjpcfpdaaGreat
set_option maxHeartbeats 16000000
theorem Xa{fs gs:List D1}(hp:gs.Perm fs)(hs:gs.Pairwise fun a b=>Go.Proofs.ltOf (fun a b:D1=>I3 a.fact b.fact) b a=false)(hn:(facts fs).Nodup):facts gs=N8 (facts fs):=by
 have hm:∀x,x∈facts gs↔x∈facts fs:=fun x=>(hp.map D1.fact).mem_iff
 have hn2:(facts gs).Nodup:=(hp.map D1.fact).nodup_iff.2 hn
 refine Bh.eq I0 ⟨?_,hm⟩
 unfold facts at hn2 ⊢
 rw[List.Nodup,List.pairwise_map]at hn2;rw[List.pairwise_map];refine(hs.and hn2).imp fun {a b} ⟨h1,h2⟩=>?_
 have h1:¬I3 b.fact a.fact<0:=by simpa[Go.Proofs.ltOf] using h1
 have h3:=I0.anti a.fact b.fact
 rcases I0.rng a.fact b.fact with h|h|h
 ·exact h
 ·exact absurd (I0.eq0 h) h2
 ·omega
theorem ME{H:H1}{a b c d:Int}(h:T0 H a b=T0 H c d):a=c∧b=d:=
 ⟨IK (Option.some.inj (congrArg (fun f:F9=>f.2[0]?) h)),IK (Option.some.inj (congrArg (fun f:F9=>f.2[1]?) h))⟩
theorem RD{H:H1}{X:List Int}(h:X.Nodup):(AQ H X).Nodup:=by
 unfold AQ;rw[List.Nodup,List.pairwise_flatMap];refine⟨fun a _=>?_,?_⟩
 ·rw[List.pairwise_map];exact(h:X.Pairwise (·≠·)).imp fun {x y} hne he=>hne (ME he).2
 ·refine(h:X.Pairwise (·≠·)).imp fun {x y} hne p hp q hq he=>?_
  obtain⟨b,_,rfl⟩:=List.mem_map.1 hp
  obtain⟨c,_,rfl⟩:=List.mem_map.1 hq
  exact hne (ME he).1
theorem YQ{H:H1}(v:V6 H){X:List Int}(h:X.Nodup):(N8 (F8 H)++AQ H X).Nodup:=by
 refine List.nodup_append.2 ⟨(Up (QX v)).nodup_iff.2 (QX v),RD h,fun a ha b hb he=>?_⟩
 obtain⟨x,_,y,_,rfl⟩:=j8.1 hb
 have h1:a∈F8 H:=by
  unfold N8 at ha;exact(Aq I0).1 ha
 have e:a.1=T5:=congrArg Prod.fst he
 have k1:AO≠T5:=by decide +kernel
 have k2:P3≠T5:=by decide +kernel
 have k3:i6≠T5:=by decide +kernel
 have k4:U3≠T5:=by decide +kernel
 have k5:Bd≠T5:=by decide +kernel
 have k6:Y6≠T5:=by decide +kernel
 have k7:g7≠T5:=by decide +kernel
 unfold F8 at h1;rcases List.mem_append.1 h1 with h1|h1
 ·rcases fh h1 with h|h|h|h|h|h <;> rw[h]at e <;> first|exact k1 e|exact k2 e|exact k3 e|exact k4 e|exact k5 e|exact k6 e
 ·obtain⟨d,_,rfl⟩:=List.mem_map.1 h1
  exact k7 e
instance iN{Γ:C8}(n:Int):PG Tryz.prog Γ 69 [.int .i64 n] (.agg (enc (iF n)).toArray):=⟨fun S w hw=>by
 refine K9 Tryz.func69 rfl rfl ?_
 refine A6 ?_;refine C0 ?_;intro b w hw;refine A6 ?_;refine B1 ?_;intro w hw;have hw:Wd Γ (.blk b (.cells (enc (iF n)).toArray 54)::S) w:=hw
 refine A6 ?_;exact⟨[.agg (enc (iF n)).toArray],⟨T4 (i:=0) hw rfl rfl rfl,trivial⟩,rfl,hw.drop⟩⟩
attribute [local irreducible] Calls I3 F3 F8 K0 N8
theorem SU{Γ:C8}{S:List B2}{w:World}{u:Value}{H:H1}[hh:Cl Γ u H](hw:Wd Γ S w) :
  Calls Tryz.prog 19 #[u] w fun e w'=>∃Γ' v gs,Γ.le Γ'∧e=.returned (.tuple #[v,.int .i64 (F3 H)])∧facts gs=(if F3 H=0 then Uk H else [])∧EM Γ' gs∧Wd Γ' (.own v 135 2 (gs.map cF)::S) w':=by
 have hh':=hh
 obtain⟨a1,n1,c1,a2,n2,c2,a3,n3,c3,a4,n4,c4,a5,n5,c5,cs',rfl,hcs,hok',hsz,r1,r2,r3,r4,r5⟩:=hh.h;refine A9 Tryz.func19 rfl rfl ?_
 refine A6 ?_;refine H9 ?_;intro b1 w hw;have hw:Wd Γ (.blk b1 (s7 H a1 n1 c1 a2 n2 c2 a3 n3 c3 a4 n4 c4 a5 n5 c5)::S) w:=hw
 refine A6 ?_;refine D3 ((Qc (hh:=hh') hw).mono fun e w hq=>?_)
 clear hw;obtain⟨Γ1,v0,fs0,hle1,rfl,hfs0,hfo0,hw⟩:=hq;refine⟨_,rfl,?_⟩;refine A6 ?_;refine A7 rfl (fun h=>?_) (fun h=>?_)
 ·have h:F3 H≠0:=of_decide_eq_true h
  refine A6 ?_;rw[if_neg h]at hfs0 ⊢
  refine⟨_,rfl,Γ1,.slice none 0 0,[],hle1,rfl,rfl,fun f hf=>(by cases hf),Wd.addNil (hw.ds [0,0])⟩
 have h0:F3 H=0:=by have:=of_decide_eq_false h;omega
 rw[h0];rw[if_pos h0]at hfs0;clear h;have hV:=Hs.1 h0
 have hfew:=SZ hV
 have hN:=bN hV
 have hcnt:=w5 hV.c
 have hLk:=T6 h0
 have hfew0:(N8 (F8 H)).length≤2497:=Nat.le_trans (by unfold N8;exact Al) hfew
 replace r1:=r1.mono hle1
 replace r4:=r4.mono hle1
 replace r5:=r5.mono hle1
 obtain⟨q1,q1b,q1c⟩:=C6 r1
 obtain⟨q4,q4b,q4c⟩:=C6 r4
 obtain⟨q5,q5b,q5c⟩:=C6 r5
 simp only[List.length_map]at q1 q4 q5
 obtain⟨g0,hg0⟩:∃g,g=B2.own v0 135 2 (fs0.map cF):=⟨_,rfl⟩
 rw[←hg0]at hw;have hw:=Wd.addNil (a:=none) (E:=3) (sz:=1) hw
 have hw:Wd Γ1 (.own (.slice none 0 0) 3 1 (A8 (([]:List Int)++(H.Cores.take 0).map (fun c=>c.Node)))::g0::.blk b1 (s7 H a1 n1 c1 a2 n2 c2 a3 n3 c3 a4 n4 c4 a5 n5 c5)::S) w:=hw
 refine A6 ?_;refine B5 (fun μ ρ w=>∃(k:Nat) (q:Option Addr) (m d:Nat),μ+k=n1∧Has ρ [(1,.pointer (some ⟨b1,0,none⟩)),(4,v0),(6,.slice q m d),(28,.slice a1 n1 c1),(29,.int .i64 n1),(30,.int .i64 k)]∧Wd Γ1 (.own (.slice q m d) 3 1 (A8 (([]:List Int)++(H.Cores.take k).map (fun c=>c.Node)))::g0::.blk b1 (s7 H a1 n1 c1 a2 n2 c2 a3 n3 c3 a4 n4 c4 a5 n5 c5)::S) w) n1 ⟨0,_,_,_,by omega,⟨rfl,rfl,rfl,rfl,rfl,rfl,trivial⟩,hw⟩ ?_
 clear hw;rintro μ ρ w ⟨k,q,m,d,hk,hρ,hw⟩
 have hm:=Q7 (i:=0) hw rfl
 simp only[A8,List.length_map,List.length_append,List.length_nil,List.length_take]at hm
 rw[hρ.eq];refine A6 ?_;refine A7 rfl (fun h=>?_) (fun h=>?_)
 ·have hkn:k<n1:=by simpa using h
  obtain⟨x,hx⟩:=B4 (l:=H.Cores) (k:=k) (by omega)
  refine A6 ?_;refine C0 ?_;intro b9 w hw;refine B1 ?_;intro w hw;have hw:Wd Γ1 (.blk b9 (.cells (enc x).toArray 72)::.own (.slice q m d) 3 1 (A8 (([]:List Int)++(H.Cores.take k).map (fun c=>c.Node)))::g0::.blk b1 (s7 H a1 n1 c1 a2 n2 c2 a3 n3 c3 a4 n4 c4 a5 n5 c5)::S) w:=hw
  refine A6 ?_;refine B6 [[.int .i64 x.Node]] ?_
  intro ab w hw;refine V7 (i:=2) (rows2:=[[.int .i64 x.Node]]) ?_ (Wd.own_rd (i:=0) hw rfl)
  intro v' w hw;obtain⟨q',m',d',rfl,-,-,-⟩:=hw.own_shape (i:=2) rfl
  have hw:Wd Γ1 (.own (.slice q' m' d') 3 1 (A8 (([]:List Int)++(H.Cores.take (k+1)).map (fun c=>c.Node)))::g0::.blk b1 (s7 H a1 n1 c1 a2 n2 c2 a3 n3 c3 a4 n4 c4 a5 n5 c5)::S) w:=by
   rw[←w3 (f:=fun c:I1=>c.Node) hx];exact hw.drop.drop
  refine A6 ?_;exact⟨μ-1,by omega,k+1,_,_,_,by omega,⟨rfl,rfl,rfl,rfl,rfl,rfl,trivial⟩,hw⟩
 have hkn:¬k<n1:=by simpa using h
 rw[List.take_of_length_le (l:=H.Cores) (by omega)]at hw
 clear h hkn hρ hk hm;rw[List.nil_append]at hw;rw[show H.Cores.map (fun c=>c.Node)=(H.Cores.map (fun c=>c.Node)++(H.Mems.take 0).map (fun c=>c.Node)) from by simp]at hw
 refine A6 ?_;refine B5 (fun μ ρ w=>∃(k:Nat) (q:Option Addr) (m d:Nat),μ+k=n4∧Has ρ [(1,.pointer (some ⟨b1,0,none⟩)),(4,v0),(6,.slice q m d),(41,.slice a4 n4 c4),(42,.int .i64 n4),(43,.int .i64 k)]∧Wd Γ1 (.own (.slice q m d) 3 1 (A8 (H.Cores.map (fun c=>c.Node)++(H.Mems.take k).map (fun c=>c.Node)))::g0::.blk b1 (s7 H a1 n1 c1 a2 n2 c2 a3 n3 c3 a4 n4 c4 a5 n5 c5)::S) w) n4 ⟨0,_,_,_,by omega,⟨rfl,rfl,rfl,rfl,rfl,rfl,trivial⟩,hw⟩ ?_
 clear hw;rintro μ ρ w ⟨k,q,m,d,hk,hρ,hw⟩
 have hm:=Q7 (i:=0) hw rfl
 simp only[A8,List.length_map,List.length_append,List.length_nil,List.length_take]at hm
 rw[hρ.eq];refine A6 ?_;refine A7 rfl (fun h=>?_) (fun h=>?_)
 ·have hkn:k<n4:=by simpa using h
  obtain⟨x,hx⟩:=B4 (l:=H.Mems) (k:=k) (by omega)
  refine A6 ?_;refine C0 ?_;intro b9 w hw;refine B1 ?_;intro w hw;have hw:Wd Γ1 (.blk b9 (.cells (enc x).toArray 157)::.own (.slice q m d) 3 1 (A8 (H.Cores.map (fun c=>c.Node)++(H.Mems.take k).map (fun c=>c.Node)))::g0::.blk b1 (s7 H a1 n1 c1 a2 n2 c2 a3 n3 c3 a4 n4 c4 a5 n5 c5)::S) w:=hw
  refine A6 ?_;refine B6 [[.int .i64 x.Node]] ?_
  intro ab w hw;refine V7 (i:=2) (rows2:=[[.int .i64 x.Node]]) ?_ (Wd.own_rd (i:=0) hw rfl)
  intro v' w hw;obtain⟨q',m',d',rfl,-,-,-⟩:=hw.own_shape (i:=2) rfl
  have hw:Wd Γ1 (.own (.slice q' m' d') 3 1 (A8 (H.Cores.map (fun c=>c.Node)++(H.Mems.take (k+1)).map (fun c=>c.Node)))::g0::.blk b1 (s7 H a1 n1 c1 a2 n2 c2 a3 n3 c3 a4 n4 c4 a5 n5 c5)::S) w:=by
   rw[←w3 (f:=fun c:AW=>c.Node) hx];exact hw.drop.drop
  refine A6 ?_;exact⟨μ-1,by omega,k+1,_,_,_,by omega,⟨rfl,rfl,rfl,rfl,rfl,rfl,trivial⟩,hw⟩
 have hkn:¬k<n4:=by simpa using h
 rw[List.take_of_length_le (l:=H.Mems) (by omega)]at hw
 clear h hkn hρ hk hm;rw[show (H.Cores.map (fun c=>c.Node)++H.Mems.map (fun c=>c.Node))=((H.Cores.map (fun c=>c.Node)++H.Mems.map (fun c=>c.Node))++(H.Devs.take 0).map (fun c=>c.Node)) from by simp]at hw
 refine A6 ?_;refine B5 (fun μ ρ w=>∃(k:Nat) (q:Option Addr) (m d:Nat),μ+k=n5∧Has ρ [(1,.pointer (some ⟨b1,0,none⟩)),(4,v0),(6,.slice q m d),(54,.slice a5 n5 c5),(55,.int .i64 n5),(56,.int .i64 k)]∧Wd Γ1 (.own (.slice q m d) 3 1 (A8 ((H.Cores.map (fun c=>c.Node)++H.Mems.map (fun c=>c.Node))++(H.Devs.take k).map (fun c=>c.Node)))::g0::.blk b1 (s7 H a1 n1 c1 a2 n2 c2 a3 n3 c3 a4 n4 c4 a5 n5 c5)::S) w) n5 ⟨0,_,_,_,by omega,⟨rfl,rfl,rfl,rfl,rfl,rfl,trivial⟩,hw⟩ ?_
 clear hw;rintro μ ρ w ⟨k,q,m,d,hk,hρ,hw⟩
 have hm:=Q7 (i:=0) hw rfl
 simp only[A8,List.length_map,List.length_append,List.length_nil,List.length_take]at hm
 rw[hρ.eq];refine A6 ?_;refine A7 rfl (fun h=>?_) (fun h=>?_)
 ·have hkn:k<n5:=by simpa using h
  obtain⟨x,hx⟩:=B4 (l:=H.Devs) (k:=k) (by omega)
  refine A6 ?_;refine C0 ?_;intro b9 w hw;refine B1 ?_;intro w hw;have hw:Wd Γ1 (.blk b9 (.cells (enc x).toArray 159)::.own (.slice q m d) 3 1 (A8 ((H.Cores.map (fun c=>c.Node)++H.Mems.map (fun c=>c.Node))++(H.Devs.take k).map (fun c=>c.Node)))::g0::.blk b1 (s7 H a1 n1 c1 a2 n2 c2 a3 n3 c3 a4 n4 c4 a5 n5 c5)::S) w:=hw
  refine A6 ?_;refine B6 [[.int .i64 x.Node]] ?_
  intro ab w hw;refine V7 (i:=2) (rows2:=[[.int .i64 x.Node]]) ?_ (Wd.own_rd (i:=0) hw rfl)
  intro v' w hw;obtain⟨q',m',d',rfl,-,-,-⟩:=hw.own_shape (i:=2) rfl
  have hw:Wd Γ1 (.own (.slice q' m' d') 3 1 (A8 ((H.Cores.map (fun c=>c.Node)++H.Mems.map (fun c=>c.Node))++(H.Devs.take (k+1)).map (fun c=>c.Node)))::g0::.blk b1 (s7 H a1 n1 c1 a2 n2 c2 a3 n3 c3 a4 n4 c4 a5 n5 c5)::S) w:=by
   rw[←w3 (f:=fun c:AY=>c.Node) hx];exact hw.drop.drop
  refine A6 ?_;exact⟨μ-1,by omega,k+1,_,_,_,by omega,⟨rfl,rfl,rfl,rfl,rfl,rfl,trivial⟩,hw⟩
 have hkn:¬k<n5:=by simpa using h
 rw[List.take_of_length_le (l:=H.Devs) (by omega)]at hw
 clear h hkn hρ hk hm;have hw:Wd Γ1 (.own (.slice q m d) 3 1 (Bf (F7 H))::g0::.blk b1 (s7 H a1 n1 c1 a2 n2 c2 a3 n3 c3 a4 n4 c4 a5 n5 c5)::S) w:=hw
 have hul:(F7 H).length≤128:=by unfold F7;simp;omega
 refine A6 ?_;refine D3 ((Sort_int VV (F7 H) (.slice q m d) (i:=0) hw rfl (by omega)).mono fun e w hq=>?_)
 clear hw;obtain⟨rfl,hw⟩:=hq;refine⟨_,rfl,?_⟩;obtain⟨Y,hY⟩:∃Y,Y=(F7 H).mergeSort fun x y=>decide (x≤y):=⟨_,rfl⟩
 rw[←hY]at hw;have hYp:Y.Perm (F7 H):=by rw[hY];exact List.mergeSort_perm _ _
 have hYs:Y.Pairwise (·≤·):=by
  rw[hY];have:=List.pairwise_mergeSort (le:=fun x y:Int=>decide (x≤y)) (fun a b c h1 h2=>by simp at *;omega) (fun a b=>by simp;omega) (F7 H)
  exact this.imp fun h=>by simpa using h
 clear hY;have hYl:Y.length≤128:=by rw[hYp.length_eq];exact hul
 have hw:Wd Γ1 (.own (.slice q m d) 3 1 (Bf Y)::g0::.blk b1 (s7 H a1 n1 c1 a2 n2 c2 a3 n3 c3 a4 n4 c4 a5 n5 c5)::S) w:=hw
 refine A6 ?_;refine D3 ((Ns ct Y (i:=0) hw rfl (by omega)).mono fun e w hq=>?_)
 clear hw;obtain⟨rfl,zs,hw⟩:=hq;refine⟨_,rfl,?_⟩;obtain⟨X,hX⟩:∃X,X=Go.Lib.compact Y:=⟨_,rfl⟩
 rw[←hX]at hw ⊢
 have hXm:∀x,x∈X↔x∈F7 H:=fun x=>by rw[hX,PY];exact hYp.mem_iff
 have hXs:X.Pairwise (· < ·):=by rw[hX];exact Qa hYs
 have hXn:X.Nodup:=hXs.imp fun h=>by omega
 have hXr:∀x∈X,0≤x∧x<64:=fun x hx=>hN x ((hXm x).1 hx)
 have hXl:X.length≤64:=by
  have h1:(X.map Int.toNat).Nodup:=by
   rw[List.Nodup,List.pairwise_map];refine List.Pairwise.imp_of_mem (fun {x y} hx hy hlt he=>?_) hXs
   have:=hXr x hx
   have:=hXr y hy
   omega
  have:=Mk.nodup_le 64 _ h1 fun x hx=>by
   obtain⟨y,hy,rfl⟩:=List.mem_map.1 hx
   have:=hXr y hy
   omega
  rwa [List.length_map]at this
 clear hX hYp hYs;have hw:Wd Γ1 (.own (.slice q m d) 3 1 (Bf (X++zs))::g0::.blk b1 (s7 H a1 n1 c1 a2 n2 c2 a3 n3 c3 a4 n4 c4 a5 n5 c5)::S) w:=hw
 obtain⟨Γ2,hle2,hrz,hw⟩:=hw.freeze;have hxlen:m=(X++zs).length:=by have:=(C6 hrz).1;simpa[Bf] using this
 have hrX:D9 Γ2 (.slice q X.length d) 1 (A8 X):=by
  have:=hrz.cut (l:=0) (h:=X.length) (by omega) (by rw[hxlen,List.length_append];omega)
  rw[Hv,List.drop_zero,Nat.sub_zero,Nat.sub_zero]at this;have e:(Bf (X++zs)).take X.length=A8 X:=by simp[Bf,A8]
  rwa [e]at this
 have hXc:=(C6 hrX).2
 rw[hg0]at hw;clear hg0;have hfo:∀f∈fs0,BS Γ2 f:=fun f hf=>((hfo0 f hf).1).mono hle2
 have hle02:=hle1.trans hle2
 have hfs:facts fs0=N8 (F8 H)++(X.take 0).flatMap (fun a=>X.map (T0 H a)):=by rw[hfs0,List.take_zero];simp
 clear hfs0 hfo0 hrz;have hD:∀k,((X.take k).flatMap fun a=>X.map (T0 H a)).length≤4096:=fun k=>by
  have h1:=KU (m:=X.length) (f:=fun a=>X.map (T0 H a)) (l:=X.take k) fun a _=>by rw[List.length_map];exact Nat.le_refl _
  have h2:(X.take k).length≤64:=by rw[List.length_take];omega
  exact Nat.le_trans h1 (Nat.le_trans (Nat.mul_le_mul h2 hXl) (by decide))
 refine A6 ?_;refine B5 (fun μ ρ w=>∃(i:Nat) (gv:Value) (Γ':C8) (fs:List D1),μ+i=X.length∧Has ρ [(1,.pointer (some ⟨b1,0,none⟩)),(4,gv),(6,.slice q X.length d),(13,.func (.func 69) #[] #[]),(70,.slice q X.length d),(71,.int .i64 X.length),(72,.int .i64 i)]∧Γ2.le Γ'∧(∀f∈fs,BS Γ' f)∧facts fs=N8 (F8 H)++(X.take i).flatMap (fun a=>X.map (T0 H a))∧Wd Γ' (.own gv 135 2 (fs.map cF)::.blk b1 (s7 H a1 n1 c1 a2 n2 c2 a3 n3 c3 a4 n4 c4 a5 n5 c5)::S) w) X.length ⟨0,_,Γ2,fs0,by omega,⟨rfl,rfl,rfl,rfl,rfl,rfl,rfl,trivial⟩,C8.le.refl _,hfo,hfs,hw⟩ ?_
 clear hw hfo hfs;rintro μ ρ w ⟨i,gv,Γ',fs,hi,hρ,hle,hfo,hfs,hw⟩
 rw[hρ.eq];clear hρ;have hrX1:=hrX.mono hle
 refine A6 ?_;refine A7 rfl (fun h=>?_) (fun h=>?_)
 ·have hin:i<X.length:=by have:=of_decide_eq_true h;omega
  clear h;obtain⟨a,hxa⟩:=B4 (l:=X) (k:=i) hin
  have har:=hXr a (List.mem_of_getElem? hxa)
  refine A6 ?_;have hRR:=(hh'.mono hle1).mono (hle2.trans hle)
  refine D3 ((x7 (hh:=hRR) hLk har hw).mono fun e w hq=>?_)
  clear hw;obtain⟨vo,O,rfl,hOl,hOd,hw⟩:=hq;refine⟨_,rfl,?_⟩;obtain⟨ao,no,co,rfl,hno,hnoc,hco⟩:=hw.own_shape (i:=0) rfl
  obtain⟨Γ3,hle3,hrO,hw⟩:=hw.freeze;simp only[A8,List.length_map]at hno
  have hle':=hle.trans hle3
  have hfo3:∀f∈fs,BS Γ3 f:=fun f hf=>(hfo f hf).mono hle3
  have hfs3:facts fs=(N8 (F8 H)++(X.take i).flatMap (fun a=>X.map (T0 H a)))++(X.take 0).map (T0 H a):=by rw[hfs,List.take_zero,List.map_nil,List.append_nil]
  have hDi:=hD i
  refine A6 ?_;refine B5 (fun μ2 ρ w=>∃(j:Nat) (gv:Value) (Γ':C8) (fs:List D1),μ2+j=X.length∧Has ρ [(1,.pointer (some ⟨b1,0,none⟩)),(4,gv),(6,.slice q X.length d),(13,.func (.func 69) #[] #[]),(15,.int .i64 a),(16,.slice ao no co),(70,.slice q X.length d),(71,.int .i64 X.length),(72,.int .i64 i),(79,.slice q X.length d),(80,.int .i64 X.length),(81,.int .i64 j)]∧Γ3.le Γ'∧(∀f∈fs,BS Γ' f)∧facts fs=(N8 (F8 H)++(X.take i).flatMap (fun a=>X.map (T0 H a)))++(X.take j).map (T0 H a)∧Wd Γ' (.own gv 135 2 (fs.map cF)::.blk b1 (s7 H a1 n1 c1 a2 n2 c2 a3 n3 c3 a4 n4 c4 a5 n5 c5)::S) w) X.length ⟨0,gv,Γ3,fs,by omega,⟨rfl,rfl,rfl,rfl,rfl,rfl,rfl,rfl,rfl,rfl,rfl,rfl,trivial⟩,C8.le.refl _,hfo3,hfs3,hw⟩ ?_
  clear hw hfo hfs hfo3 hfs3;rintro μ2 ρ w ⟨j,gv,Γ',fs,hj,hρ,hle4,hfo,hfs,hw⟩
  rw[hρ.eq];clear hρ;obtain⟨ag,ng,cg,rfl,hng,-,-⟩:=hw.own_shape (i:=0) rfl
  rw[List.length_map]at hng;have hfl:fs.length≤10000:=by
   have h1:(facts fs).length=fs.length:=List.length_map ..
   rw[hfs,List.length_append,List.length_append,List.length_map,List.length_take]at h1;omega
  have hrX2:=hrX.mono (hle'.trans hle4)
  have hrO2:=hrO.mono hle4
  refine A6 ?_;refine A7 rfl (fun h=>?_) (fun h=>?_)
  ·have hjn:j<X.length:=by have:=of_decide_eq_true h;omega
   clear h;obtain⟨b,hxb⟩:=B4 (l:=X) (k:=j) hjn
   have hbr:=hXr b (List.mem_of_getElem? hxb)
   obtain⟨y,hy⟩:=B4 (l:=O) (k:=b.toNat) (by omega)
   have hyb:BZ O b=y:=by unfold BZ;rw[List.getD_eq_getElem?_getD,hy];rfl
   have hyd:=(hOd b hbr.1 hbr.2).1.eq
   rw[hyb]at hyd;rw[←hyd]at hy;refine A6 ?_;refine eH [] (.own (.slice ag ng cg) 135 2 (fs.map cF)::.blk b1 (s7 H a1 n1 c1 a2 n2 c2 a3 n3 c3 a4 n4 c4 a5 n5 c5)::S) [98,99,100,101] 4 (.slice ag ng cg) [[],[],[],[],[],[],[],[],[],[],[],[],[],[0],[0],[0],[0],[0,1]] [[1],[],[],[],[],[],[],[],[],[],[],[],[],[0],[0],[0],[0],[0,1]] hw ?_
   refine fD (dd:=4) ?_
   repeat(first|refine iM ?_|refine mY ?_|refine mP ?_|refine mPg ?_|refine mY (v:=.pointer (some ⟨aB ao,aO ao+b.toNat*1,none⟩)) ?_ (hy:=fun Y w g hw=>BA (hrO2.rd hw) rfl rfl (by omega) (by omega))|refine mY (v:=.int .i64 (K0 (D8 H.Links) a b)) ?_ (hy:=fun Y w g hw=>O6 (k:=b.toNat) rfl (hrO2.rd hw) (B9 hy)))
   refine NA (v:=undef) (T':=Value) (fun t g=>g 98=t) (fun t=>.own t 54 3 (([iF a,iF b,iF (K0 (D8 H.Links) a b)]:List Val).map enc)::(.own (.slice ag ng cg) 135 2 (fs.map cF)::.blk b1 (s7 H a1 n1 c1 a2 n2 c2 a3 n3 c3 a4 n4 c4 a5 n5 c5)::S)) (fun t g w Y _ hw=>R8 (rws:=([iF a,iF b,iF (K0 (D8 H.Links) a b)]:List Val).map enc) hw rfl rfl rfl (fun r hr=>by obtain⟨v,_,rfl⟩:=List.mem_map.1 hr;rfl) (by decide) fun q w' hw'=>⟨_,rfl,(fun h=>by cases h),hw'⟩) ?_
   refine NA (φ:=fun (t:Value) g=>g 98=t) (R:=fun t=>.own t 54 3 (([iF a,iF b,iF (K0 (D8 H.Links) a b)]:List Val).map enc)::(.own (.slice ag ng cg) 135 2 (fs.map cF)::.blk b1 (s7 H a1 n1 c1 a2 n2 c2 a3 n3 c3 a4 n4 c4 a5 n5 c5)::S)) (v:=undef) (T':=D1) (fun t g=>g 99=.agg (cF t).toArray∧t.fact=T0 H a b) (fun t=>.own t.hdr 54 3 (t.Args.map enc)::(.own (.slice ag ng cg) 135 2 (fs.map cF)::.blk b1 (s7 H a1 n1 c1 a2 n2 c2 a3 n3 c3 a4 n4 c4 a5 n5 c5)::S)) (fun t g w Y ht hw=>?_) ?_
   ·obtain⟨a9,n9,c9,rfl,-,-,-⟩:=hw.own_shape (i:=0) rfl
    have ht:g 98=.slice a9 n9 c9:=ht
    refine Mk.Yields.step (v:=.agg (cF ⟨T5,a9,n9,c9,[iF a,iF b,iF (K0 (D8 H.Links) a b)]⟩).toArray) (f9 ?_) ⟨⟨T5,a9,n9,c9,[iF a,iF b,iF (K0 (D8 H.Links) a b)]⟩,⟨rfl,rfl⟩,(fun h=>by cases h),hw⟩
    show t6 _ _ [(0,_),(1,g 98)]=_
    rw[ht];rfl
   refine NA (φ:=fun (t:D1) g=>g 99=.agg (cF t).toArray∧t.fact=T0 H a b) (R:=fun t=>.own t.hdr 54 3 (t.Args.map enc)::(.own (.slice ag ng cg) 135 2 (fs.map cF)::.blk b1 (s7 H a1 n1 c1 a2 n2 c2 a3 n3 c3 a4 n4 c4 a5 n5 c5)::S)) (v:=undef) (T':=Value×D1) (fun t g=>g 100=t.1∧t.2.fact=T0 H a b) (fun t=>.own t.1 135 2 [cF t.2]::.own t.2.hdr 54 3 (t.2.Args.map enc)::(.own (.slice ag ng cg) 135 2 (fs.map cF)::.blk b1 (s7 H a1 n1 c1 a2 n2 c2 a3 n3 c3 a4 n4 c4 a5 n5 c5)::S)) (fun t g w Y ht hw=>R8 (rws:=[cF t]) (cells:=cF t) hw ?_ (by simp) rfl (by simp[cF]) (by decide) fun q w' hw'=>⟨(_,t),⟨rfl,ht.2⟩,(fun h=>by cases h),hw'⟩) ?_
   ·have h1:g 99=.agg (cF t).toArray:=ht.1
    show t6 _ _ [(0,g 99)]=_
    rw[h1];rfl
   refine NA (φ:=fun (t:Value×D1) g=>g 100=t.1∧t.2.fact=T0 H a b) (R:=fun t=>.own t.1 135 2 [cF t.2]::.own t.2.hdr 54 3 (t.2.Args.map enc)::(.own (.slice ag ng cg) 135 2 (fs.map cF)::.blk b1 (s7 H a1 n1 c1 a2 n2 c2 a3 n3 c3 a4 n4 c4 a5 n5 c5)::S)) (v:=undef) (T':=Value×D1) (fun t g=>g 101=t.1∧t.2.fact=T0 H a b) (fun t=>.own t.1 135 2 (fs.map cF++[cF t.2])::.own t.2.hdr 54 3 (t.2.Args.map enc)::.blk b1 (s7 H a1 n1 c1 a2 n2 c2 a3 n3 c3 a4 n4 c4 a5 n5 c5)::S) (fun t g w Y ht hw=>?_) ?_
   ·obtain⟨t1,f⟩:=t;obtain⟨a9,n9,c9,rfl,hn9,-,-⟩:=hw.own_shape (i:=0) rfl
    simp at hn9
    exact Cb (i:=2) (rows2:=[cF f]) hw rfl ht.1 rfl (Wd.own_rd (i:=0) hw rfl) (by simp;omega) (Nm [f]) (by omega) (by omega) fun v' w' hw'=>⟨(v',f),⟨rfl,ht.2⟩,(fun h=>by cases h),hw'.drop.ps [1]⟩
   refine fX (φ:=fun (t:Value×D1) g=>g 101=t.1∧t.2.fact=T0 H a b) (dx:=101) (dd:=4) (fun t g=>g 4=t.1∧t.2.fact=T0 H a b) (fun t g ht=>ht) ?_
   refine gJ (φ:=fun (t:Value×D1) g=>g 4=t.1∧t.2.fact=T0 H a b) fun t w g ht hw=>?_
   obtain⟨t1,f⟩:=t;obtain⟨Γ2,hle2,hokf,hw⟩:=(hw.ps [1]).freeze
   refine Ob (l:=[(1,.pointer (some ⟨b1,0,none⟩)),(6,.slice q X.length d),(13,.func (.func 69) #[] #[]),(15,.int .i64 a),(16,.slice ao no co),(70,.slice q X.length d),(71,.int .i64 X.length),(72,.int .i64 i),(79,.slice q X.length d),(80,.int .i64 X.length),(81,.int .i64 j),(4,t1)]) ⟨rfl,rfl,rfl,rfl,rfl,rfl,rfl,rfl,rfl,rfl,rfl,ht.1,trivial⟩ fun ρ hρ=>?_
   have hff:f.fact=T0 H a b:=ht.2
   rw[hρ.eq];clear hρ ht;rw[show fs.map cF++[cF f]=(fs++[f]).map cF from by simp]at hw
   have hok2:∀x∈fs++[f],BS Γ2 x:=fun x hx=>(List.mem_append.1 hx).elim (fun h=>(hfo x h).mono hle2) fun h=>by rw[List.mem_singleton.1 h];exact hokf
   have hw:Wd Γ2 (.own t1 135 2 ((fs++[f]).map cF)::.blk b1 (s7 H a1 n1 c1 a2 n2 c2 a3 n3 c3 a4 n4 c4 a5 n5 c5)::S) w:=Wd.left (S:=.own t1 135 2 ((fs++[f]).map cF)::.blk b1 (s7 H a1 n1 c1 a2 n2 c2 a3 n3 c3 a4 n4 c4 a5 n5 c5)::S) hw
   refine A6 ?_;refine⟨μ2-1,by omega,j+1,t1,Γ2,fs++[f],by omega,⟨rfl,rfl,rfl,rfl,rfl,rfl,rfl,rfl,rfl,rfl,rfl,rfl,trivial⟩,hle4.trans hle2,hok2,?_,hw⟩
   have h1:facts (fs++[f])=facts fs++[f.fact]:=by unfold facts;rw[List.map_append];rfl
   rw[h1,hfs,hff,C9 hxb,List.map_append,←List.append_assoc];rfl
  ·have hjn:X.length≤j:=by have:=of_decide_eq_false h;omega
   clear h;rw[List.take_of_length_le (l:=X) (i:=j) (by omega)]at hfs
   refine A6 ?_;refine⟨μ-1,by omega,i+1,_,Γ',fs,by omega,⟨rfl,rfl,rfl,rfl,rfl,rfl,rfl,trivial⟩,hle'.trans hle4,hfo,?_,hw⟩
   rw[hfs,C9 hxa,List.flatMap_append,List.append_assoc];simp
 ·have hin:X.length≤i:=by have:=of_decide_eq_false h;omega
  clear h;rw[List.take_of_length_le (l:=X) (i:=i) (by omega)]at hfs
  have hfs:facts fs=N8 (F8 H)++AQ H X:=hfs
  have hDl:=hD X.length
  rw[List.take_length]at hDl;have hfl:fs.length≤6593:=by
   have h1:(facts fs).length=fs.length:=List.length_map ..
   have h2:(AQ H X).length≤4096:=hDl
   rw[hfs,List.length_append]at h1;omega
  refine A6 ?_;refine D3 (vs:=[gv,.func (.func 57) #[] #[]]) ?_
  refine(Jo fs gv hfo (by omega) hw).mono ?_
  clear hw;rintro e w ⟨rfl,gs,hp,hs,hw⟩
  refine⟨_,rfl,?_⟩;have hgs:=Xa hp hs (by rw[hfs];exact YQ hV hXn)
  have hgl:gs.length=fs.length:=hp.length_eq
  obtain⟨ag,ng,cg,rfl,hng,-,-⟩:=hw.own_shape (i:=0) rfl
  rw[List.length_map]at hng;refine A6 ?_;refine A7 rfl (fun h=>?_) (fun _=>?_)
  ·exfalso
   have:=of_decide_eq_true h
   omega
  refine A6 ?_;refine⟨_,rfl,Γ',_,gs,hle02.trans hle,rfl,?_,fun f hf=>⟨hfo f (hp.mem_iff.1 hf),?_⟩,hw.dropAt 1⟩
  ·rw[if_pos rfl,hgs,hfs];refine et fun f=>?_
   rw[List.mem_append,j8];have e1:f∈N8 (F8 H)↔f∈F8 H:=by unfold N8;exact Aq I0
   rw[e1];refine or_congr Iff.rfl ⟨fun⟨a,ha,b,hb,h⟩=>⟨a,(hXm a).1 ha,b,(hXm b).1 hb,h⟩,fun⟨a,ha,b,hb,h⟩=>⟨a,(hXm a).2 ha,b,(hXm b).2 hb,h⟩⟩
  ·have hm:f.fact∈facts fs:=List.mem_map.2 ⟨f,hp.mem_iff.1 hf,rfl⟩
   rw[hfs,List.mem_append]at hm;rcases hm with hm|hm
   ·refine di hV _ ?_
    have e1:f.fact∈N8 (F8 H)↔f.fact∈F8 H:=by unfold N8;exact Aq I0
    exact e1.1 hm
   ·obtain⟨a,ha,b,hb,he⟩:=j8.1 hm
    rw[he];have h1:=hXr a ha
    have h2:=hXr b hb
    have h3:=SN (x:=b) hLk h1
    refine⟨by show 3≤100000;decide,by show T5.size≤100000;decide,fun x hx=>?_⟩
    have hx:x∈[iF a,iF b,iF (K0 (D8 H.Links) a b)]:=hx
    simp only[List.mem_cons,List.not_mem_nil,or_false]at hx
    rcases hx with rfl|rfl|rfl
    ·exact y8 (by omega)
    ·exact y8 (by omega)
    ·exact y8 (by omega)
end Go.Proofs.YtlimglpjpcfpdaaGreat
end
section
open Go Mk
namespace Go.Proofs.YtlimglpjpcfpdaaGreat
set_option maxHeartbeats 16000000
attribute [local irreducible] Calls I3
def NB(u:Nat):ByteArray:=⟨(Lib.decDigits u).toArray⟩
def gV:ByteArray:=⟨#[48,49,50,51,52,53,54,55,56,57]⟩
theorem iD:∀d:Nat,d<10→G5 gV d (d+1)=⟨#[UInt8.ofNat (48+d)]⟩
 | 0,_=>rfl
 | 1,_=>rfl
 | 2,_=>rfl
 | 3,_=>rfl
 | 4,_=>rfl
 | 5,_=>rfl
 | 6,_=>rfl
 | 7,_=>rfl
 | 8,_=>rfl
 | 9,_=>rfl
 | d+10,h=>by omega
theorem dG{P:Program}{ρ:Fr}{w:World}{d:Option Tmp}{T ty:TypeId}{pos:String}{es:Array Edge}{g:Option (Nat×Bool)}{x lo hi:Operand}{m:Nat}{l h:Int}[GR P T](hm:m<10)(hx:ev ρ x=.string gV)(hl:ev ρ lo=.int .u64 l)(hh:ev ρ hi=.int .u64 h)(e1:l=((m:Nat):Int))(e2:h=((m+1:Nat):Int)) :
  Mk.Yields P ⟨d,.slice T x (some lo) (some hi) none,ty,pos,es,g⟩ ρ w (.string ⟨#[UInt8.ofNat (48+m)]⟩):=by
 subst e1;subst e2;have:=i5 (P:=P) (d:=d) (T:=T) (ty:=ty) (pos:=pos) (es:=es) (g:=g) (w:=w) hx hl hh (by omega) (by omega) (show ((m+1:Nat):Int)≤((10:Nat):Int) by omega)
 rw[show ((m:Nat):Int).toNat=m from rfl,show ((m+1:Nat):Int).toNat=m+1 from rfl,iD m hm]at this;exact this
theorem Jm(b:UInt8):(⟨#[b]⟩:ByteArray).size=1:=rfl
theorem WV{u:Nat}(h:u<18446744073709551616):(Lib.decDigits u).length≤20:=by
 rw[Lib.decDigits_length];exact GE 19 u (by omega)
theorem Ji(u:Nat)(h:u<18446744073709551616):PC Tryz.prog 71 [.int .u64 (u:Nat)] (.string (NB u)):=⟨fun w=>by
 have hL:=WV h
 refine A9 Tryz.func71 rfl rfl ?_
 refine A6 ?_;refine B5 (fun μ ρ w'=>∃(t:List UInt8),μ<18446744073709551616∧Has ρ [(0,.int .u64 (μ:Nat)),(3,.string ⟨t.toArray⟩)]∧Lib.decDigits u=Lib.decDigits μ++t∧w'=w) u ⟨[],h,⟨rfl,rfl,trivial⟩,by simp,rfl⟩ ?_
 rintro μ ρ w' ⟨t,hμ,hρ,hd,rfl⟩
 rw[hρ.eq];have ht:t.length≤20:=by rw[hd,List.length_append]at hL;omega
 have hts:(⟨t.toArray⟩:ByteArray).size=t.length:=by show t.toArray.size=_;simp
 refine A6 ?_;refine A7 rfl (fun h1=>?_) (fun h1=>?_)
 ·have h1:10≤μ:=by have:=of_decide_eq_true h1;omega
  refine A6 ?_;have e1:((μ:Nat):Int).tmod 10=((μ%10:Nat):Int):=by
   rw[Int.tmod_eq_emod_of_nonneg (by omega)];omega
  have e2:IntKind.u64.wrap (((μ:Nat):Int).tmod 10+1)=((μ%10+1:Nat):Int):=by
   rw[e1,IntKind.wrap_u64];omega
  refine lY (v:=.string ⟨#[UInt8.ofNat (48+μ%10)]⟩) ?_ (hy:=dG (m:=μ%10) (by omega) rfl rfl rfl e1 e2)
  refine A6 ?_;refine lY (v:=.string (⟨#[UInt8.ofNat (48+μ%10)]⟩++⟨t.toArray⟩)) ?_ (hy:=g9 rfl rfl (by rw[hts,Jm];omega))
  refine A6 ?_;have e3:((μ:Nat):Int).tdiv 10=((μ / 10:Nat):Int):=by
   rw[Int.tdiv_eq_ediv_of_nonneg (by omega)];omega
  refine⟨μ / 10,by omega,UInt8.ofNat (48+μ%10)::t,by omega,⟨?_,?_,trivial⟩,?_,rfl⟩
  ·show Value.int .u64 (IntKind.u64.wrap (((μ:Nat):Int).tdiv 10))=_
   rw[e3,IntKind.wrap_u64];congr 1
   omega
  ·show Value.string _=_
   congr 1
  ·rw[hd,Lib.decDigits,dif_neg (by omega)];simp
 ·have h1:μ<10:=by have:=of_decide_eq_false h1;omega
  refine A6 ?_;have e2:IntKind.u64.wrap (((μ:Nat):Int)+1)=((μ+1:Nat):Int):=by
   rw[IntKind.wrap_u64];omega
  refine lY (v:=.string ⟨#[UInt8.ofNat (48+μ)]⟩) ?_ (hy:=dG (m:=μ) h1 rfl rfl rfl rfl e2)
  refine A6 ?_;refine lY (v:=.string (⟨#[UInt8.ofNat (48+μ)]⟩++⟨t.toArray⟩)) ?_ (hy:=g9 rfl rfl (by rw[hts,Jm];omega))
  refine A6 ?_;refine⟨_,rfl,?_,rfl⟩
  show Ending.returned (.string _)=_
  congr 2
  refine Ba ?_
  unfold NB;rw[Hg,X8,X8,hd,Lib.decDigits,dif_pos h1]⟩
theorem HI{Γ:C8}(v:Val)(hv:o6 v)(hr:M1 v=true):PG Tryz.prog Γ 20 [.agg (enc v).toArray,.bool false] (.string (Mo v)):=⟨fun S w hw=>by
 obtain⟨⟨hv0,hv1⟩,-⟩:=hv;have hv2:=Ui hr
 haveI:SB v.Word:=⟨by omega⟩
 refine A9 Tryz.func20 rfl rfl ?_
 refine A6 ?_;refine H9 ?_;intro b2 w hw;have hw:Wd Γ (.blk b2 (.cells (enc v).toArray 54)::S) w:=hw
 refine A6 ?_;refine A7 rfl (fun h=>?_) (fun h=>?_)
 ·have h:(decide (v.Kind=1)&&decide (v.Num<0))=true:=h
  rw[Bool.and_eq_true,decide_eq_true_eq,decide_eq_true_eq]at h;obtain⟨hk,hneg⟩:=h;have hD:=Ji v.Num.natAbs (by omega)
  have hE:Mo v=⟨#[45]⟩++NB v.Num.natAbs:=by
   unfold Mo z7 Lib.itoa;rw[if_pos hk,if_pos hneg];refine Ba ?_
   unfold NB;rw[Hg,X8,X8];rfl
  rw[hE];have hDl:=WV (u:=v.Num.natAbs) (by omega)
  have hDs:(NB v.Num.natAbs).size=(Lib.decDigits v.Num.natAbs).length:=by show (List.toArray _).size=_;simp
  refine A6 ?_;refine lP (v:=.string (NB v.Num.natAbs)) ?_ (hp:=hD) (ha:=EvL.cons ?_ EvL.nil)
  ·refine A6 ?_;refine lY (v:=.string (⟨#[45]⟩++NB v.Num.natAbs)) ?_ (hy:=g9 rfl rfl (by rw[hDs,Jm];omega))
   refine A6 ?_;exact⟨_,rfl,rfl,hw.drop⟩
  ·show Value.int .u64 (IntKind.u64.wrap (IntKind.u64.wrap (-(v.Num+1))+1))=_
   congr 1
   rw[IntKind.wrap_u64,IntKind.wrap_u64];omega
 have h:¬(v.Kind=1∧v.Num<0):=fun q=>by
  have h:(decide (v.Kind=1)&&decide (v.Num<0))=false:=h
  rw[decide_eq_true q.1,decide_eq_true q.2]at h;cases h
 refine A6 ?_;refine A7 rfl (fun h2=>?_) (fun h2=>?_)
 ·have h2:v.Kind=1:=of_decide_eq_true h2
  have hn:¬v.Num<0:=fun q=>h ⟨h2,q⟩
  have hD:=Ji v.Num.toNat (by omega)
  have hE:Mo v=NB v.Num.toNat:=by
   unfold Mo z7 Lib.itoa;rw[if_pos h2,if_neg hn];rfl
  rw[hE];refine A6 ?_;refine lP (v:=.string (NB v.Num.toNat)) ?_ (hp:=hD) (ha:=EvL.cons ?_ EvL.nil)
  ·refine A6 ?_;exact⟨_,rfl,rfl,hw.drop⟩
  ·show Value.int .u64 (IntKind.u64.wrap v.Num)=_
   congr 1
   rw[IntKind.wrap_u64];omega
 have h2:¬v.Kind=1:=of_decide_eq_false h2
 have hnm:G7 v.Word=Ao v.Word:=by
  unfold M1 FX at hr;simp only[Bool.or_eq_true,Bool.and_eq_true,decide_eq_true_eq]at hr
  unfold G7;rw[decide_eq_true (show v.Word.size≤24 from hr.elim (fun q=>absurd q.1 h2) (fun q=>q.2.2)),Bool.and_true]
 refine A6 ?_;refine A7 rfl (fun h3=>?_) (fun h3=>?_)
 ·have hE:Mo v=v.Word:=by unfold Mo;rw[if_neg h2,if_pos (by rw[hnm];simpa using h3)]
  rw[hE];refine A6 ?_;exact⟨_,rfl,rfl,hw.drop⟩
 ·have hE:Mo v=(Cr++v.Word)++Cr:=by unfold Mo;rw[if_neg h2,if_neg (by rw[hnm];simpa using h3)]
  rw[hE];refine A6 ?_;refine lY (v:=.string (Cr++v.Word)) ?_ (hy:=g9 rfl rfl (by have:Cr.size=1:=rfl;have:(⟨#[34]⟩:ByteArray).size=1:=rfl;omega))
  refine A6 ?_;refine lY (v:=.string ((Cr++v.Word)++Cr)) ?_ (hy:=g9 rfl rfl (by have:(⟨#[34]⟩:ByteArray).size=1:=rfl;have:Cr.size=1:=rfl;rw[ByteArray.size_append];omega))
  refine A6 ?_;exact⟨_,rfl,rfl,hw.drop⟩⟩
end Go.Proofs.YtlimglpjpcfpdaaGreat
end
section
open Go Mk
namespace Go.Proofs.YtlimglpjpcfpdaaGreat
set_option maxHeartbeats 16000000
attribute [local irreducible] Calls
def Ni(ops:List Oper)(muts prods:List Nat):Bool:=
  let A:=Wy [] ops
  (List.range ops.length).all fun j=>match ops[j]? with
    | none=>true
    | some oj=>(oj.after.toList.all fun e=>!Region.binds .any e||Nat.blt e.on j)&&p7.okNoSel oj&&(match oj.guard with|some (g,_)=>((ops[g]?).bind (·.dst)).isSome|none=>true) &&
      ((List.range j).all fun i=>match ops[i]? with
        | none=>true
        | some oi=>((Fy ops oi oj && !(muts.contains i&&muts.contains j))||(A.getD j 0).testBit i)&&(oi.dst.isNone || !(oi.dst == oj.dst) || !prods.contains i))
theorem YP{ops:List Oper}{muts prods:List Nat}(h:Ni ops muts prods=true):p7 ops muts prods=true:=by
 have hA:=Ko ops [] [] rfl (fun j i hi=>by simp at hi)
 unfold Ni at h;unfold p7;rw[List.all_eq_true]at h ⊢
 intro j hj;have h1:=h j hj
 cases ho:ops[j]? with
 | none=>rfl
 | some oj=>
  simp only[ho,Bool.and_eq_true]at h1 ⊢
  refine⟨h1.1,?_⟩
  rw[List.all_eq_true];intro i hi;have h2:=(List.all_eq_true.1 h1.2) i hi
  cases ho2:ops[i]? with
  | none=>rfl
  | some oi=>
   simp only[ho2,Bool.and_eq_true,Bool.or_eq_true]at h2 ⊢
   refine⟨h2.1.imp id fun q=>?_,h2.2⟩
   rw[List.contains_iff_mem];exact hA j i q
theorem bG{n:Nat}{l:List Oper}(h:(Ni l [] []&&l.all fun o=>G8 n o.dst)=true):FK n l=true:=by
 unfold FK;rw[Bool.and_eq_true]at h ⊢
 exact⟨YP h.1,h.2⟩
section
variable {P:Program}{n:Nat}{ops:List Oper}{Γ:C8}{S:List B2}{Q:Fr→World→Prop}{ρ:Fr}{rest:List Oper}{j dj:Nat}{want:Bool}{d:Option Tmp}{op:Op}{ty:TypeId}{pos:String}{es:Array Edge}{v:Value}
end
end Go.Proofs.YtlimglpjpcfpdaaGreat
end
section
open Go Mk
namespace Go.Proofs.YtlimglpjpcfpdaaGreat
set_option maxHeartbeats 16000000
attribute [local irreducible] Calls cI cB V9 p8 I3 F3 F8
theorem Vt{H:H1}{nodes sh first irq:Int}(g:Pb H nodes sh first irq):TO H:=fun x hx=>by
 obtain⟨i,hi⟩:=List.getElem?_of_mem hx
 have h1:=(g.me i x hi).2.1
 have h2:=g.nm'
 have h3:=(List.getElem?_eq_some_iff.1 hi).1
 unfold fm;omega
end Go.Proofs.YtlimglpjpcfpdaaGreat
end
section
open Go Mk
namespace Go.Proofs.YtlimglpjpcfpdaaGreat
set_option maxHeartbeats 32000000
attribute [local irreducible] Calls cI cB V9 p8 I3 F3 F8 K0 N8 Gz Uk
def bD(a b:Nat):ByteArray:=((((⟨#[115,101,108,101,99,116,32,68,32,119,104,101,114,101,32,99,111,114,101,40]⟩:ByteArray)++z7 (a:Int))++(⟨#[44,32,95,44,32,65,44,32,95,41,44,32,99,111,114,101,40]⟩:ByteArray))++z7 (b:Int))++(⟨#[44,32,95,44,32,66,44,32,95,41,44,32,100,105,115,116,97,110,99,101,40,65,44,32,66,44,32,68,41]⟩:ByteArray)
theorem MA(a:Nat):M8 (z7 (a:Int))=Lib.decDigits a:=by
 unfold z7;rw[X8];unfold Lib.itoa;rw[if_neg (show ¬((a:Nat):Int)<0 by omega)];rfl
theorem ej(a b:Nat):bD a b=U8 (qL (Be a b)):=Ba (by
 rw[bI,show M8 (U8 (gK a b))=gK a b from X8 _];unfold bD gK;rw[Hg,Hg,Hg,Hg,MA,MA];show ((((⟨#[115,101,108,101,99,116,32,68,32,119,104,101,114,101,32,99,111,114,101,40]⟩:ByteArray).data.toList++_)++(⟨#[44,32,95,44,32,65,44,32,95,41,44,32,99,111,114,101,40]⟩:ByteArray).data.toList)++_)++(⟨#[44,32,95,44,32,66,44,32,95,41,44,32,100,105,115,116,97,110,99,101,40,65,44,32,66,44,32,68,41]⟩:ByteArray).data.toList=_
 simp[List.append_assoc])
theorem Px{a b:Nat}(ha:a≤1000)(hb:b≤1000):(z7 (a:Int)).size≤25∧(z7 (b:Int)).size≤25∧(bD a b).size≤200:=by
 have h1:=QM (n:=(a:Int)) (by omega) (by omega)
 have h2:=QM (n:=(b:Int)) (by omega) (by omega)
 refine⟨h1,h2,?_⟩
 unfold bD;have e1:(⟨#[115,101,108,101,99,116,32,68,32,119,104,101,114,101,32,99,111,114,101,40]⟩:ByteArray).size=20:=rfl
 have e2:(⟨#[44,32,95,44,32,65,44,32,95,41,44,32,99,111,114,101,40]⟩:ByteArray).size=17:=rfl
 have e3:(⟨#[44,32,95,44,32,66,44,32,95,41,44,32,100,105,115,116,97,110,99,101,40,65,44,32,66,44,32,68,41]⟩:ByteArray).size=29:=rfl
 rw[ByteArray.size_append,ByteArray.size_append,ByteArray.size_append,ByteArray.size_append];omega
theorem Un{a b:Nat}(ha:a≤1000)(hb:b≤1000):BF (bD a b)=(Be a b,⟨0,0⟩,0):=by
 have hs:=(Px ha hb).2.2
 rw[ej]at hs ⊢
 refine RX (gA (Wj (by unfold GJ;omega) (by unfold GJ;omega)) QH) ?_
 have:(U8 (qL (Be a b))).size=(qL (Be a b)).length:=by unfold U8;show (List.toArray _).size=_;simp
 omega
theorem eO{H:H1}(v:V6 H)(h16:(F7 H).length≤16):(Uk H).length≤50000:=by
 have h1:=Al (c:=I3) (db:=F8 H++AQ H (F7 H))
 have h2:=SZ v
 have h3:=KU (m:=(F7 H).length) (f:=fun a=>(F7 H).map (T0 H a)) (l:=F7 H) fun a _=>by rw[List.length_map];exact Nat.le_refl _
 have h4:(AQ H (F7 H)).length≤(F7 H).length*(F7 H).length:=h3
 have h5:=Nat.mul_le_mul h16 h16
 have h6:(Uk H).length=(N8 (F8 H++AQ H (F7 H))).length:=by unfold Uk;rfl
 have h7:(N8 (F8 H++AQ H (F7 H))).length≤(F8 H++AQ H (F7 H)).length:=by unfold N8;exact h1
 rw[List.length_append]at h7;omega
theorem JW{Γ:C8}{S:List B2}{w:World}{a:Option Addr}{m c:Nat}{L:List Int}(x y:Int)(hr:D9 Γ (.slice a m c) 1 (A8 L))(hw:Wd Γ S w) :
  Calls Tryz.prog 4 #[.slice a m c,.int .i64 x,.int .i64 y] w fun e w'=>∃Γ',Γ.le Γ'∧e=.returned (.bool true)∧Wd Γ' S w':=by
 have pA:∀Γ,PG Tryz.prog Γ 17 [] (.bool true):=fun Γ=>Zo
 refine A9 Tryz.func4 rfl rfl ?_
 refine A6 ?_;refine A7 rfl (fun h=>?_) (fun h=>?_)
 ·have pA:=pA Γ
  repeat first|refine U9 ?_|refine V5 ?_;intro w hw
  exact⟨_,rfl,Γ,.refl _,rfl,hw⟩
 clear h;refine A6 ?_;refine D3 ((NY hr hw).mono fun r w hq=>?_)
 clear hw;obtain⟨Γ1,H,u,nodes,sh,first,irq,hle1,rfl,hG,ho⟩:=hq;refine⟨_,rfl,?_⟩;have hV:=Hs.1 (Lx hG)
 haveI hWd:fz H:=⟨Vt hG⟩
 obtain⟨Γ2,hle2,hR,hw⟩:=ho.freeze (eX hG)
 have hnc:=hG.nc
 have h16:(F7 H).length≤16:=by
  have:=hG.nm'
  have:=hG.nd'
  unfold F7;simp only[List.length_append,List.length_map]
  omega
 have hval:=Lx hG
 clear ho hr hG;obtain⟨a1,n1,c1,a2,n2,c2,a3,n3,c3,a4,n4,c4,a5,n5,c5,cs,rfl,hcs,hok,hsz,r1,r2,r3,r4,r5⟩:=hR.h;refine A6 ?_;refine C0 ?_;intro b7 w hw;refine B1 ?_;intro w hw;have hw:Wd Γ2 (.blk b7 (s7 H a1 n1 c1 a2 n2 c2 a3 n3 c3 a4 n4 c4 a5 n5 c5)::S) w:=hw
 obtain⟨q1,q2,q3⟩:=C6 r1
 rw[List.length_map]at q1;haveI:eu (n1:Int):=⟨by omega⟩
 obtain⟨k,hk⟩:∃k:Nat,(k:Int)=x%(n1:Int):=⟨(x%(n1:Int)).toNat,by have:=Int.emod_nonneg x (show (n1:Int)≠0 by omega);omega⟩
 have hkn:k<n1:=by have:=Int.emod_lt_of_pos x (show (0:Int)<(n1:Int) by omega);omega
 haveI pp:PC Tryz.prog 8 [.int .i64 x,.int .i64 (n1:Int)] (.int .i64 (k:Int)):=by rw[hk];infer_instance
 obtain⟨k2,hk2⟩:∃k:Nat,(k:Int)=y%(n1:Int):=⟨(y%(n1:Int)).toNat,by have:=Int.emod_nonneg y (show (n1:Int)≠0 by omega);omega⟩
 have hkn2:k2<n1:=by have:=Int.emod_lt_of_pos y (show (0:Int)<(n1:Int) by omega);omega
 haveI pp2:PC Tryz.prog 8 [.int .i64 y,.int .i64 (n1:Int)] (.int .i64 (k2:Int)):=by rw[hk2];infer_instance
 obtain⟨ca,hca⟩:=B4 (l:=H.Cores) (k:=k) (by omega)
 have hcam:=List.mem_of_getElem? hca
 have hcav:=JO hV hcam
 obtain⟨cb,hcb⟩:=B4 (l:=H.Cores) (k:=k2) (by omega)
 have hcbm:=List.mem_of_getElem? hcb
 have hcbv:=JO hV hcbm
 refine A6 ?_;refine Jd 2 [[],[],[],[],[],[],[],[],[],[],[],[],[],[],[],[],[],[],[0],[1],[0],[1]] [[],[],[],[],[],[],[],[],[],[],[],[],[],[],[],[],[],[],[0],[1],[0],[1]] [[8],[9]] ?_ (hw:=hw)
 clear hw;refine R1 ?_;refine GD (c:=0) ?_
 refine GD (c:=1) ?_
 refine BN (c:=0) ?_ (hM:=(A0 (by decide)).trans B0)
 refine BN (c:=1) ?_ (hM:=(A0 (by decide)).trans B0)
 refine S5 fun w g hw=>?_
 have hw:Wd Γ2 ((.blk b7 (s7 H a1 n1 c1 a2 n2 c2 a3 n3 c3 a4 n4 c4 a5 n5 c5)::S)++([Mw (g 8) fun bb=>[.blk bb (.cells (enc ca).toArray 72)]]++([Mw (g 9) fun bb=>[.blk bb (.cells (enc cb).toArray 72)]]++[]))) w:=hw
 have hw:=hw.flip
 have hw:Wd Γ2 (Mw (g 8) (fun bb=>[.blk bb (.cells (enc ca).toArray 72)])::Mw (g 9) (fun bb=>[.blk bb (.cells (enc cb).toArray 72)])::.blk b7 (s7 H a1 n1 c1 a2 n2 c2 a3 n3 c3 a4 n4 c4 a5 n5 c5)::S) w:=hw
 obtain⟨b8,h8,hw⟩:=hw.openAt;have hw:Wd Γ2 (.blk b8 (.cells (enc ca).toArray 72)::Mw (g 9) (fun bb=>[.blk bb (.cells (enc cb).toArray 72)])::.blk b7 (s7 H a1 n1 c1 a2 n2 c2 a3 n3 c3 a4 n4 c4 a5 n5 c5)::S) w:=hw
 obtain⟨b9,h9,hw⟩:=(hw.ps [1]).openAt
 have hw:Wd Γ2 (.blk b9 (.cells (enc cb).toArray 72)::.blk b8 (.cells (enc ca).toArray 72)::.blk b7 (s7 H a1 n1 c1 a2 n2 c2 a3 n3 c3 a4 n4 c4 a5 n5 c5)::S) w:=hw
 refine Ob (l:=[(7,.pointer (some ⟨b7,0,none⟩)),(8,.pointer (some ⟨b8,0,none⟩)),(9,.pointer (some ⟨b9,0,none⟩))]) ⟨rfl,h8,h9,trivial⟩ fun ρ hρ=>?_
 rw[hρ.eq];clear hρ h8 h9;refine A6 ?_;refine D3 ((SU (hh:=hR) hw).mono fun e w hq=>?_)
 clear hw;obtain⟨Γ3,vf,gs,hle3,rfl,hgs,hgo,hw⟩:=hq;rw[if_pos hval]at hgs;rw[hval];refine⟨_,rfl,?_⟩;obtain⟨fa,fn,fc,rfl,-,-,-⟩:=hw.own_shape (i:=0) rfl
 obtain⟨Γ4,hle4,hdb,hw⟩:=hw.freeze;have hRL:RL Γ4 (.slice fa fn fc) gs:=⟨hdb,hgo.mono hle4⟩
 have hfl:gs.length≤50000:=by
  have h1:=eO hV h16
  have h2:(facts gs).length=gs.length:=List.length_map ..
  rw[hgs]at h2;omega
 have hR4:=(hR.mono hle3).mono hle4
 obtain⟨i1,hi1⟩:∃i:Nat,ca.ID=(i:Int):=⟨ca.ID.toNat,by omega⟩
 obtain⟨i2,hi2⟩:∃i:Nat,cb.ID=(i:Int):=⟨cb.ID.toNat,by omega⟩
 have hb1:i1≤1000:=by omega
 have hb2:i2≤1000:=by omega
 obtain⟨z1,z2,z3⟩:=Px hb1 hb2
 have t1:∀Γ',Γ4.le Γ'→PG Tryz.prog Γ' 20 [.agg (enc (iF ca.ID)).toArray,.bool false] (.string (z7 (i1:Int))):=fun Γ' _=>by
  have:=HI (Γ:=Γ') (iF ca.ID) (y8 (by omega)) (CO _)
  rw[←hi1];exact this
 have t2:∀Γ',Γ4.le Γ'→PG Tryz.prog Γ' 20 [.agg (enc (iF cb.ID)).toArray,.bool false] (.string (z7 (i2:Int))):=fun Γ' _=>by
  have:=HI (Γ:=Γ') (iF cb.ID) (y8 (by omega)) (CO _)
  rw[←hi2];exact this
 have pI1:∀Γ',Γ4.le Γ'→PG Tryz.prog Γ' 13 [.int .i64 ca.ID] (.agg (enc (iF ca.ID)).toArray):=fun Γ' _=>inferInstance
 have pI2:∀Γ',Γ4.le Γ'→PG Tryz.prog Γ' 13 [.int .i64 cb.ID] (.agg (enc (iF cb.ID)).toArray):=fun Γ' _=>inferInstance
 have hpar:=Un hb1 hb2
 have e1:(⟨#[115,101,108,101,99,116,32,68,32,119,104,101,114,101,32,99,111,114,101,40]⟩:ByteArray).size=20:=rfl
 have e2:(⟨#[44,32,95,44,32,65,44,32,95,41,44,32,99,111,114,101,40]⟩:ByteArray).size=17:=rfl
 have e3:(⟨#[44,32,95,44,32,66,44,32,95,41,44,32,100,105,115,116,97,110,99,101,40,65,44,32,66,44,32,68,41]⟩:ByteArray).size=29:=rfl
 refine A6 ?_;have hwX:Wd Γ4 ((.blk b9 (.cells (enc cb).toArray 72)::.blk b8 (.cells (enc ca).toArray 72)::.blk b7 (s7 H a1 n1 c1 a2 n2 c2 a3 n3 c3 a4 n4 c4 a5 n5 c5)::S)++[]) w:=by rw[List.append_nil];exact hw
 refine XV (.blk b9 (.cells (enc cb).toArray 72)::.blk b8 (.cells (enc ca).toArray 72)::.blk b7 (s7 H a1 n1 c1 a2 n2 c2 a3 n3 c3 a4 n4 c4 a5 n5 c5)::S) [fun _=>[],fun _=>[],fun _=>[],fun _=>[]] [[],[],[],[],[],[],[],[],[],[],[],[],[0],[0,1],[0],[],[],[2],[3],[0,2],[3],[]] [[],[],[],[],[],[],[],[],[],[],[],[],[0],[0,1],[0],[1],[1],[2],[3],[0,2],[3],[]] [[61,48,62],[48],[12],[13]] hwX ?_
 clear hwX hw;iterate 2 (refine gY ?_)
 refine hU pI1 ?_
 refine hU t1 ?_
 refine gY (v:=.string ((⟨#[115,101,108,101,99,116,32,68,32,119,104,101,114,101,32,99,111,114,101,40]⟩:ByteArray)++z7 (i1:Int))) ?_ (hy:=fun Γ' Y w g hle hw=>g9 rfl rfl (by omega))
 refine gY (v:=.string (((⟨#[115,101,108,101,99,116,32,68,32,119,104,101,114,101,32,99,111,114,101,40]⟩:ByteArray)++z7 (i1:Int))++(⟨#[44,32,95,44,32,65,44,32,95,41,44,32,99,111,114,101,40]⟩:ByteArray))) ?_ (hy:=fun Γ' Y w g hle hw=>g9 rfl rfl (by rw[ByteArray.size_append];omega))
 iterate 2 (refine gY ?_)
 refine hU pI2 ?_
 refine hU t2 ?_
 refine gY (v:=.string ((((⟨#[115,101,108,101,99,116,32,68,32,119,104,101,114,101,32,99,111,114,101,40]⟩:ByteArray)++z7 (i1:Int))++(⟨#[44,32,95,44,32,65,44,32,95,41,44,32,99,111,114,101,40]⟩:ByteArray))++z7 (i2:Int))) ?_ (hy:=fun Γ' Y w g hle hw=>g9 rfl rfl (by rw[ByteArray.size_append,ByteArray.size_append];omega))
 refine gY (v:=.string (bD i1 i2)) ?_ (hy:=fun Γ' Y w g hle hw=>g9 rfl rfl (by rw[ByteArray.size_append,ByteArray.size_append,ByteArray.size_append];omega))
 refine gS (c:=0) (v:=undef) (F:=fun _=>[]) (P5 (T:=UT) (fun t g=>g 61=Fj t ((⟨0,0⟩:F2)) (0)) fun t=>[B2.qr t (Be i1 i2)]) (fun Γ' g w Y hle5 hw=>?_) ?_ rfl rfl rfl rfl
 ·refine An (vs:=#[.string (bD i1 i2)]) ?_ ((Qu (bD i1 i2) (by omega) hpar hw).mono fun e w hq=>?_)
  ·exact EvL.eqA (xs:=[.tmp 60]) (vs:=[.string (bD i1 i2)]) (EvL.cons (by rfl) EvL.nil)
  obtain⟨Γ'',t,hle6,rfl,hw⟩:=hq;refine⟨_,rfl,Γ'',hle6,(fun h=>(by cases h)),?_⟩
  exact U2 (T:=UT) (φ:=fun t g=>g 61=Fj t ((⟨0,0⟩:F2)) (0)) (R:=fun t=>[B2.qr t (Be i1 i2)]) t rfl hw
 refine gS2 (c:=0) (c2:=1) (v:=undef) (F:=(P5 (T:=UT) (fun t g=>g 61=Fj t ((⟨0,0⟩:F2)) (0)) fun t=>[B2.qr t (Be i1 i2)])) (G:=fun _=>[]) (P5 (T:=UT) (fun t g=>g 48=Fj t ((⟨0,0⟩:F2)) (0)) fun t=>[B2.qr t (Be i1 i2)]) (P5 (T:=UT) (fun t g=>g 48=Fj t ((⟨0,0⟩:F2)) (0)) fun _=>[]) (fun Γ' g w Y hle5 hw=>?_) ?_ (by first|exact rfl|exact B0|exact((A0 (by decide)).trans B0)|exact((A0 (by decide)).trans ((A0 (by decide)).trans B0))|exact((A0 (by decide)).trans ((A0 (by decide)).trans ((A0 (by decide)).trans B0)))|exact((A0 (by decide)).trans ((A0 (by decide)).trans ((A0 (by decide)).trans ((A0 (by decide)).trans B0))))|exact((A0 (by decide)).trans ((A0 (by decide)).trans rfl))|exact((A0 (by decide)).trans ((A0 (by decide)).trans ((A0 (by decide)).trans rfl)))|exact((A0 (by decide)).trans ((A0 (by decide)).trans ((A0 (by decide)).trans ((A0 (by decide)).trans rfl))))|exact((A0 (by decide)).trans ((A0 (by decide)).trans ((A0 (by decide)).trans ((A0 (by decide)).trans ((A0 (by decide)).trans rfl)))))) (by first|exact rfl|exact B0|exact((A0 (by decide)).trans B0)|exact((A0 (by decide)).trans ((A0 (by decide)).trans B0))|exact((A0 (by decide)).trans ((A0 (by decide)).trans ((A0 (by decide)).trans B0)))|exact((A0 (by decide)).trans ((A0 (by decide)).trans ((A0 (by decide)).trans ((A0 (by decide)).trans B0))))|exact((A0 (by decide)).trans ((A0 (by decide)).trans rfl))|exact((A0 (by decide)).trans ((A0 (by decide)).trans ((A0 (by decide)).trans rfl)))|exact((A0 (by decide)).trans ((A0 (by decide)).trans ((A0 (by decide)).trans ((A0 (by decide)).trans rfl))))|exact((A0 (by decide)).trans ((A0 (by decide)).trans ((A0 (by decide)).trans ((A0 (by decide)).trans ((A0 (by decide)).trans rfl))))))
 ·obtain⟨t,ht,W1⟩:=L9 hw
  have ht:g 61=Fj t ((⟨0,0⟩:F2)) (0):=ht
  refine Yields.step (GK (v:=Fj t ((⟨0,0⟩:F2)) (0)) ht) ⟨Γ',.refl _,(fun h=>(by cases h)),?_⟩
  refine U2 (T:=UT) (φ:=fun t g=>g 48=Fj t ((⟨0,0⟩:F2)) (0)) (R:=fun t=>[B2.qr t (Be i1 i2)]) t rfl ?_
  have Aj:Wd Γ' (([]:List B2)++([B2.qr t (Be i1 i2)]++((.blk b9 (.cells (enc cb).toArray 72)::.blk b8 (.cells (enc ca).toArray 72)::.blk b7 (s7 H a1 n1 c1 a2 n2 c2 a3 n3 c3 a4 n4 c4 a5 n5 c5)::S)++Y))) w:=W1
  exact Wd.swapApp (U2 (T:=UT) (φ:=fun t g=>g 48=Fj t ((⟨0,0⟩:F2)) (0)) (R:=fun _=>[]) t rfl Aj)
 refine gS (c:=0) (v:=undef) (F:=(P5 (T:=UT) (fun t g=>g 48=Fj t ((⟨0,0⟩:F2)) (0)) fun t=>[B2.qr t (Be i1 i2)])) (P5 (T:=UT) (fun t g=>g 62=.agg #[En t.1,En t.2.1]) fun t=>[B2.qr t (Be i1 i2)]) (fun Γ' g w Y hle5 hw=>?_) ?_ (by first|exact rfl|exact B0|exact((A0 (by decide)).trans B0)|exact((A0 (by decide)).trans ((A0 (by decide)).trans B0))|exact((A0 (by decide)).trans ((A0 (by decide)).trans ((A0 (by decide)).trans B0)))|exact((A0 (by decide)).trans ((A0 (by decide)).trans ((A0 (by decide)).trans ((A0 (by decide)).trans B0))))|exact((A0 (by decide)).trans ((A0 (by decide)).trans rfl))|exact((A0 (by decide)).trans ((A0 (by decide)).trans ((A0 (by decide)).trans rfl)))|exact((A0 (by decide)).trans ((A0 (by decide)).trans ((A0 (by decide)).trans ((A0 (by decide)).trans rfl))))|exact((A0 (by decide)).trans ((A0 (by decide)).trans ((A0 (by decide)).trans ((A0 (by decide)).trans ((A0 (by decide)).trans rfl)))))) rfl rfl rfl
 ·obtain⟨t,ht,W1⟩:=L9 hw
  have ht:g 48=Fj t ((⟨0,0⟩:F2)) (0):=ht
  refine Yields.step (Ce (v:=.agg #[En t.1,En t.2.1]) ht rfl) ⟨Γ',.refl _,(fun h=>(by cases h)),?_⟩
  exact U2 (T:=UT) (φ:=fun t g=>g 62=.agg #[En t.1,En t.2.1]) (R:=fun t=>[B2.qr t (Be i1 i2)]) t rfl W1
 refine gC (v:=.agg (enc ((⟨0,0⟩:F2):F2)).toArray) (fun Γ' Y w g hle5 hw=>?_) rfl rfl rfl ?_
 ·have W1:Wd Γ' ((.blk b9 (.cells (enc cb).toArray 72)::.blk b8 (.cells (enc ca).toArray 72)::.blk b7 (s7 H a1 n1 c1 a2 n2 c2 a3 n3 c3 a4 n4 c4 a5 n5 c5)::S)++((((P5 (T:=UT) (fun t g=>g 48=Fj t ((⟨0,0⟩:F2)) (0)) fun _=>[]) (E7 [48] g D4))++[])++Y)) w:=hw
  obtain⟨t,ht,-⟩:=L9 (W1.perm ZO)
  exact Yields.step (Ce (v:=.agg (enc ((⟨0,0⟩:F2):F2)).toArray) ht rfl) ⟨rfl,hw⟩
 refine gC (v:=.int .i64 (0)) (fun Γ' Y w g hle5 hw=>?_) rfl rfl rfl ?_
 ·have W1:Wd Γ' ((.blk b9 (.cells (enc cb).toArray 72)::.blk b8 (.cells (enc ca).toArray 72)::.blk b7 (s7 H a1 n1 c1 a2 n2 c2 a3 n3 c3 a4 n4 c4 a5 n5 c5)::S)++((((P5 (T:=UT) (fun t g=>g 48=Fj t ((⟨0,0⟩:F2)) (0)) fun _=>[]) (E7 [48] g D4))++[])++Y)) w:=hw
  obtain⟨t,ht,-⟩:=L9 (W1.perm ZO)
  exact Yields.step (Ce (v:=.int .i64 (0)) ht rfl) ⟨rfl,hw⟩
 refine gS (c:=2) (v:=undef) (F:=fun _=>[]) (P5 (T:=Nat) (fun b g=>g 12=.pointer (some ⟨b,0,none⟩)) fun b=>[.blk b (.cells #[.slice none 0 0,.slice none 0 0] 26)]) (fun Γ' g w Y hle5 hw=>?_) ?_ (by first|exact rfl|exact B0|exact((A0 (by decide)).trans B0)|exact((A0 (by decide)).trans ((A0 (by decide)).trans B0))|exact((A0 (by decide)).trans ((A0 (by decide)).trans ((A0 (by decide)).trans B0)))|exact((A0 (by decide)).trans ((A0 (by decide)).trans ((A0 (by decide)).trans ((A0 (by decide)).trans B0))))|exact((A0 (by decide)).trans ((A0 (by decide)).trans rfl))|exact((A0 (by decide)).trans ((A0 (by decide)).trans ((A0 (by decide)).trans rfl)))|exact((A0 (by decide)).trans ((A0 (by decide)).trans ((A0 (by decide)).trans ((A0 (by decide)).trans rfl))))|exact((A0 (by decide)).trans ((A0 (by decide)).trans ((A0 (by decide)).trans ((A0 (by decide)).trans ((A0 (by decide)).trans rfl)))))) rfl rfl rfl
 ·refine JU hw fun b w' hw'=>⟨Γ',.refl _,(fun h=>(by cases h)),?_⟩
  exact U2 (T:=Nat) (φ:=fun b g=>g 12=.pointer (some ⟨b,0,none⟩)) (R:=fun b=>[.blk b (.cells #[.slice none 0 0,.slice none 0 0] 26)]) b rfl hw'
 refine gS (c:=3) (v:=undef) (F:=fun _=>[]) (P5 (T:=Nat) (fun b g=>g 13=.pointer (some ⟨b,0,none⟩)) fun b=>[.blk b (.cells (enc (⟨0,0⟩:F2)).toArray 44)]) (fun Γ' g w Y hle5 hw=>?_) ?_ (by first|exact rfl|exact B0|exact((A0 (by decide)).trans B0)|exact((A0 (by decide)).trans ((A0 (by decide)).trans B0))|exact((A0 (by decide)).trans ((A0 (by decide)).trans ((A0 (by decide)).trans B0)))|exact((A0 (by decide)).trans ((A0 (by decide)).trans ((A0 (by decide)).trans ((A0 (by decide)).trans B0))))|exact((A0 (by decide)).trans ((A0 (by decide)).trans rfl))|exact((A0 (by decide)).trans ((A0 (by decide)).trans ((A0 (by decide)).trans rfl)))|exact((A0 (by decide)).trans ((A0 (by decide)).trans ((A0 (by decide)).trans ((A0 (by decide)).trans rfl))))|exact((A0 (by decide)).trans ((A0 (by decide)).trans ((A0 (by decide)).trans ((A0 (by decide)).trans ((A0 (by decide)).trans rfl)))))) rfl rfl rfl
 ·refine JU hw fun b w' hw'=>⟨Γ',.refl _,(fun h=>(by cases h)),?_⟩
  exact U2 (T:=Nat) (φ:=fun b g=>g 13=.pointer (some ⟨b,0,none⟩)) (R:=fun b=>[.blk b (.cells ((enc (⟨0,0⟩:F2))).toArray 44)]) b rfl hw'
 refine gS2 (c:=0) (c2:=2) (v:=undef) (F:=(P5 (T:=UT) (fun t g=>g 62=.agg #[En t.1,En t.2.1]) fun t=>[B2.qr t (Be i1 i2)])) (G:=(P5 (T:=Nat) (fun b g=>g 12=.pointer (some ⟨b,0,none⟩)) fun b=>[.blk b (.cells #[.slice none 0 0,.slice none 0 0] 26)])) (fun _=>[]) (P5 (T:=UT×Nat) (fun t g=>g 12=.pointer (some ⟨t.2,0,none⟩)) fun t=>[.blk t.2 (.cells #[En t.1.1,En t.1.2.1] 26),B2.qr t.1 (Be i1 i2)]) (fun Γ' g w Y hle5 hw=>?_) ?_ (by first|exact rfl|exact B0|exact((A0 (by decide)).trans B0)|exact((A0 (by decide)).trans ((A0 (by decide)).trans B0))|exact((A0 (by decide)).trans ((A0 (by decide)).trans ((A0 (by decide)).trans B0)))|exact((A0 (by decide)).trans ((A0 (by decide)).trans ((A0 (by decide)).trans ((A0 (by decide)).trans B0))))|exact((A0 (by decide)).trans ((A0 (by decide)).trans rfl))|exact((A0 (by decide)).trans ((A0 (by decide)).trans ((A0 (by decide)).trans rfl)))|exact((A0 (by decide)).trans ((A0 (by decide)).trans ((A0 (by decide)).trans ((A0 (by decide)).trans rfl))))|exact((A0 (by decide)).trans ((A0 (by decide)).trans ((A0 (by decide)).trans ((A0 (by decide)).trans ((A0 (by decide)).trans rfl)))))) (by first|exact rfl|exact B0|exact((A0 (by decide)).trans B0)|exact((A0 (by decide)).trans ((A0 (by decide)).trans B0))|exact((A0 (by decide)).trans ((A0 (by decide)).trans ((A0 (by decide)).trans B0)))|exact((A0 (by decide)).trans ((A0 (by decide)).trans ((A0 (by decide)).trans ((A0 (by decide)).trans B0))))|exact((A0 (by decide)).trans ((A0 (by decide)).trans rfl))|exact((A0 (by decide)).trans ((A0 (by decide)).trans ((A0 (by decide)).trans rfl)))|exact((A0 (by decide)).trans ((A0 (by decide)).trans ((A0 (by decide)).trans ((A0 (by decide)).trans rfl))))|exact((A0 (by decide)).trans ((A0 (by decide)).trans ((A0 (by decide)).trans ((A0 (by decide)).trans ((A0 (by decide)).trans rfl))))))
 ·obtain⟨t,ht,W1⟩:=L9 hw
  obtain⟨b,hb,Aj⟩:=L9 W1.swapApp
  refine m9 (n:=2) (inferInstance:Rp Tryz.prog 26 2).h Aj hb ht (vs:=[En t.1,En t.2.1]) rfl rfl (fun u hu=>(List.all_eq_true.1 (rfl:[En t.1,En t.2.1].all (·.oneCell')=true)) u hu) (i:=0) rfl (Nat.le_refl 2) fun w' hw'=>⟨Γ',.refl _,fun _=>rfl,?_⟩
  have hw3:Wd Γ' ([.blk b (.cells #[En t.1,En t.2.1] 26),B2.qr t (Be i1 i2)]++((.blk b9 (.cells (enc cb).toArray 72)::.blk b8 (.cells (enc ca).toArray 72)::.blk b7 (s7 H a1 n1 c1 a2 n2 c2 a3 n3 c3 a4 n4 c4 a5 n5 c5)::S)++Y)) w':=hw'
  exact U2 (T:=UT×Nat) (φ:=fun t g=>g 12=.pointer (some ⟨t.2,0,none⟩)) (R:=fun t=>[.blk t.2 (.cells #[En t.1.1,En t.1.2.1] 26),B2.qr t.1 (Be i1 i2)]) (t,b) hb hw3
 refine gS (c:=3) (v:=undef) (F:=(P5 (T:=Nat) (fun b g=>g 13=.pointer (some ⟨b,0,none⟩)) fun b=>[.blk b (.cells (enc (⟨0,0⟩:F2)).toArray 44)])) (P5 (T:=Nat) (fun b g=>g 13=.pointer (some ⟨b,0,none⟩)) fun b=>[.blk b (.cells (enc ((⟨0,0⟩:F2):F2)).toArray 44)]) (fun Γ' g w Y hle5 hw=>?_) ?_ (by first|exact rfl|exact B0|exact((A0 (by decide)).trans B0)|exact((A0 (by decide)).trans ((A0 (by decide)).trans B0))|exact((A0 (by decide)).trans ((A0 (by decide)).trans ((A0 (by decide)).trans B0)))|exact((A0 (by decide)).trans ((A0 (by decide)).trans ((A0 (by decide)).trans ((A0 (by decide)).trans B0))))|exact((A0 (by decide)).trans ((A0 (by decide)).trans rfl))|exact((A0 (by decide)).trans ((A0 (by decide)).trans ((A0 (by decide)).trans rfl)))|exact((A0 (by decide)).trans ((A0 (by decide)).trans ((A0 (by decide)).trans ((A0 (by decide)).trans rfl))))|exact((A0 (by decide)).trans ((A0 (by decide)).trans ((A0 (by decide)).trans ((A0 (by decide)).trans ((A0 (by decide)).trans rfl)))))) rfl rfl rfl
 ·obtain⟨b,hb,Aj⟩:=L9 hw
  refine m9 (n:=2) (inferInstance:Rp Tryz.prog 44 2).h Aj hb rfl (vs:=enc ((⟨0,0⟩:F2):F2)) rfl rfl (fun u hu=>(List.all_eq_true.1 (Ep ((⟨0,0⟩:F2):F2))) u hu) (i:=0) rfl (Nat.le_refl 2) fun w' hw'=>⟨Γ',.refl _,fun _=>rfl,?_⟩
  exact U2 (T:=Nat) (φ:=fun b g=>g 13=.pointer (some ⟨b,0,none⟩)) (R:=fun b=>[.blk b (.cells (enc ((⟨0,0⟩:F2):F2)).toArray 44)]) b hb hw'
 repeat refine gY ?_
 refine iJ fun Γp w g hle5 hw=>?_
 have W1:Wd Γp ((.blk b9 (.cells (enc cb).toArray 72)::.blk b8 (.cells (enc ca).toArray 72)::.blk b7 (s7 H a1 n1 c1 a2 n2 c2 a3 n3 c3 a4 n4 c4 a5 n5 c5)::S)++([]++((P5 (T:=UT) (fun t g=>g 48=Fj t ((⟨0,0⟩:F2)) (0)) fun _=>[]) (E7 [48] g D4)++((P5 (T:=UT×Nat) (fun t g=>g 12=.pointer (some ⟨t.2,0,none⟩)) fun t=>[.blk t.2 (.cells #[En t.1.1,En t.1.2.1] 26),B2.qr t.1 (Be i1 i2)]) (E7 [12] g D4)++((P5 (T:=Nat) (fun b g=>g 13=.pointer (some ⟨b,0,none⟩)) fun b=>[.blk b (.cells (enc ((⟨0,0⟩:F2):F2)).toArray 44)]) (E7 [13] g D4)++[]))))) w:=hw
 rw[List.nil_append,List.append_nil]at W1;have Aj:=L9 W1.swapApp
 obtain⟨_,-,Aj⟩:=Aj;rw[List.nil_append]at Aj;obtain⟨⟨t,bq⟩,hbq,Aj⟩:=L9 Aj.swapApp
 have hbq:g 12=.pointer (some ⟨bq,0,none⟩):=hbq
 obtain⟨bp,hbp,Aj⟩:=L9 (Aj.perm (List.perm_append_comm.trans (by rw[List.append_assoc];exact List.perm_append_comm)):Wd Γp ((P5 (T:=Nat) (fun b g=>g 13=.pointer (some ⟨b,0,none⟩)) fun b=>[.blk b (.cells (enc ((⟨0,0⟩:F2):F2)).toArray 44)]) (E7 [13] g D4)++([.blk bq (.cells #[En t.1,En t.2.1] 26),B2.qr t (Be i1 i2)]++(.blk b9 (.cells (enc cb).toArray 72)::.blk b8 (.cells (enc ca).toArray 72)::.blk b7 (s7 H a1 n1 c1 a2 n2 c2 a3 n3 c3 a4 n4 c4 a5 n5 c5)::S))) w)
 have hbp:g 13=.pointer (some ⟨bp,0,none⟩):=hbp
 clear hw W1;have hqr:=gI (i:=2) Aj rfl
 have hw:Wd Γp (.blk bq (.cells #[En t.1,En t.2.1] 26)::.blk bp (.cells (enc ((⟨0,0⟩:F2):F2)).toArray 44)::(.blk b9 (.cells (enc cb).toArray 72)::.blk b8 (.cells (enc ca).toArray 72)::.blk b7 (s7 H a1 n1 c1 a2 n2 c2 a3 n3 c3 a4 n4 c4 a5 n5 c5)::S)) w:=(Aj.dropAt 2).ps [1]
 clear Aj;have hle24:=hle3.trans (hle4.trans hle5)
 obtain⟨⟨⟨sa,sn,sc⟩,⟨ga,gn,gc⟩,ghs⟩,hbt⟩:∃t',t'=t:=⟨t,rfl⟩
 subst hbt;refine Ob (l:=[(7,.pointer (some ⟨b7,0,none⟩)),(8,.pointer (some ⟨b8,0,none⟩)),(9,.pointer (some ⟨b9,0,none⟩)),(10,.slice fa fn fc),(11,.int .i64 0),(12,.pointer (some ⟨bq,0,none⟩)),(14,.int .i64 0)]) ⟨rfl,rfl,rfl,rfl,rfl,hbq,rfl,trivial⟩ fun ρ hρ=>?_
 rw[hρ.eq];clear hρ hbq hbp;have hw:Wd Γp (.blk bq (.cells #[.slice sa sn sc,.slice ga gn gc] 26)::.blk bp (.cells (enc (⟨0,0⟩:F2)).toArray 44)::.blk b9 (.cells (enc cb).toArray 72)::.blk b8 (.cells (enc ca).toArray 72)::.blk b7 (s7 H a1 n1 c1 a2 n2 c2 a3 n3 c3 a4 n4 c4 a5 n5 c5)::S) w:=hw
 have hqr:QR Γp (.slice sa sn sc) (.slice ga gn gc) ghs (Be i1 i2):=hqr
 refine A6 ?_;refine D3 (vs:=[.slice fa fn fc,.agg #[.slice sa sn sc,.slice ga gn gc]]) ?_
 refine(Uw (hRL.mono hle5) hfl hqr (Wj (by unfold GJ;omega) (by unfold GJ;omega)) hw).mono ?_
 clear hw;rintro e w ⟨Γ8,vr,R,hle8,rfl,hRW,hrows,hw⟩
 refine⟨_,rfl,?_⟩;obtain⟨hE,hL⟩:=Ye hV hcam hcbm (by omega) h16
 rw[hi1,hi2]at hE hL
 rw[hgs,hE];rw[hgs,hL]at hrows;obtain⟨⟨pv,pr⟩,rfl⟩:∃p,R=[p]:=by
  have:=congrArg List.length hrows
  unfold rowsOf at this;rw[List.length_map]at this;exact List.length_eq_one_iff.1 this
 have hpr:pr=[iF (K0 (D8 H.Links) ca.Node cb.Node)]:=by
  have:=hrows
  unfold rowsOf at this;exact(List.cons.inj this).1
 subst hpr;have hpo:D9 Γ8 pv 3 ([iF (K0 (D8 H.Links) ca.Node cb.Node)].map enc):=hRW.ok _ List.mem_cons_self
 obtain⟨pa,pn,pc,rfl,hpn,hpnc,hpc⟩:=hpo.shape;have hpn:pn=1:=hpn
 subst hpn;have hrep:=hRW.rep
 obtain⟨ra,rn,rc,rfl,hrn,hrnc,hrc⟩:=hrep.shape;have hrn:rn=1:=hrn
 subst hrn;have hR8:=(hR4.mono hle5).mono hle8
 have pD:=Ot (hh:=hR8) ca.Node cb.Node
 have hds:Gz H ca.Node cb.Node=(K0 (D8 H.Links) ca.Node cb.Node,0):=VO hval hcam hcbm
 rw[hds]at pD;generalize K0 (D8 H.Links) ca.Node cb.Node=dd at *
 have hw:Wd Γ8 (.blk bq (.cells #[.slice sa sn sc,.slice ga gn gc] 26)::.blk bp (.cells (enc (⟨0,0⟩:F2)).toArray 44)::.blk b9 (.cells (enc cb).toArray 72)::.blk b8 (.cells (enc ca).toArray 72)::.blk b7 (s7 H a1 n1 c1 a2 n2 c2 a3 n3 c3 a4 n4 c4 a5 n5 c5)::S) w:=hw
 have pA:=pA Γ8
 have pI3:PG Tryz.prog Γ8 13 [.int .i64 dd] (.agg (enc (iF dd)).toArray):=inferInstance
 repeat first|refine U9 ?_|refine V5 ?_;intro w hw
 refine I5 (by kernel_rfl) (bG (by kernel_rfl)) hw ?_
 repeat(first|(first|refine Bq ?_|(apply S6;first|(apply Z1;first|refine qP ?_|refine Ut ?_)|refine qY ?_)|(apply L1;first|(apply Z1;first|refine Vo ?_|refine Hr ?_)|refine qG ?_))|refine qG ?_ (hy:=by intro hc w hw;exact BA (hrep.rd hw) B8 B8 (by omega) (by omega))|refine qG ?_ (hy:=by intro hc w hw;exact O6 (k:=0) (u:=.slice pa 1 pc) B8 (hrep.rd hw) rfl)|refine qG ?_ (hy:=by intro hc w hw;exact BA (hpo.rd hw) B8 B8 (by omega) (by omega))|refine qG ?_ (hy:=by intro hc w hw;exact Q6 (k:=0) (r:=enc (iF dd)) B8 (hpo.rd hw) rfl)|refine qG ?_ (hy:=by intro hc w hw;exact Ge (a:=iF dd) (b:=iF dd) B8 B8 rfl))
 clear hw;intro w hw;refine A6 ?_;exact⟨_,rfl,Γ8,hle1.trans (hle2.trans (hle24.trans hle8)),F6 rfl (by simp),hw.ds [0,0,0,0,0]⟩
end Go.Proofs.YtlimglpjpcfpdaaGreat
end
