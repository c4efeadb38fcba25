/- Texts of this proof, one behind another. -/
import Derived.Test.YtlmiakjbogojgaaGreatDoorM8
import Derived.Test.YtlmiakjbogojgaaGreatDoorM7
import Derived.Test.YtlmiakjbogojgaaGreatDoorM5
import Derived.Test.YtlmiakjbogojgaaGreatDoorM6
import Derived.Test.YtlmiakjbogojgaaGreatDoorM4
import Derived.Test.YtlmiakjbogojgaaGreatDoorM2
import Derived.Test.YtlmiakjbogojgaaGreatDoorM3
set_option linter.unusedVariables false
set_option linter.unusedSimpArgs false
section
open Go Mk
namespace Go.Proofs.YtlmiakjbogojgaaGreatDoor
set_option maxHeartbeats 16000000
attribute [local irreducible] Calls I7 D8
theorem Nw{Γ:C8}{S:List B6}{w:World}{u:Value}{H:J6}[hh:FG Γ u H](hw:Wd Γ S w) :
  Calls Tryz.prog 67 #[u] w fun e w'=>∃Γ' v gs,Γ.le Γ'∧e=.returned (.tuple #[v,.int .i64 (D8 H)])∧facts gs=(if D8 H=0 then O4 (G1 H) else [])∧Dn Γ' gs∧Wd Γ' (.own v 80 2 (gs.map cF)::S) w':=by
 have pV:=Oy (hh:=hh)
 obtain⟨a1,n1,c1,a2,n2,c2,a3,n3,c3,a4,n4,c4,a5,n5,c5,cs',rfl,hcs,hok',hsz,r1,r2,r3,r4,r5⟩:=hh.h;have q1:=C0 r1
 have q2:=C0 r2
 have q3:=C0 r3
 have q4:=C0 r4
 have q5:=C0 r5
 simp only[List.length_map]at q1 q2 q3 q4 q5
 have e5:(G1 H).length=(Fs H).length+H.Devs.length:=by unfold G1;simp
 have e4:(Fs H).length=(HC H).length+H.Mems.length:=by unfold Fs;simp
 have e3:(HC H).length=(GM H).length+H.Links.length:=by unfold HC;simp
 have e2:(GM H).length=(FO H).length+(H.Caches.flatMap I2).length:=by unfold GM;simp
 have e1:(FO H).length=(QG H).length+H.Cores.length:=by unfold FO;simp
 refine A7 Tryz.func67 rfl rfl ?_
 refine A6 ?_;refine H2 ?_;intro b1 w hw;have hw:Wd Γ (.blk b1 (.cells #[.string H.Name,.slice a1 n1 c1,.slice a2 n2 c2,.slice a3 n3 c3,.slice a4 n4 c4,.slice a5 n5 c5] 44)::S) w:=hw
 repeat first|refine E6 ?_|refine E7 ?_;intro w hw
 refine A0 rfl (fun h=>?_) (fun h=>?_)
 ·have h:D8 H≠0:=of_decide_eq_true h
  refine A6 ?_;refine⟨_,rfl,Γ,.slice none 0 0,[],.refl _,rfl,by rw[if_neg h];rfl,fun f hf=>(by cases hf),Wd.addNil hw.drop⟩
 have h0:D8 H=0:=by have:=of_decide_eq_false h;omega
 have hV:=Br.1 h0
 have hB:=Rh hV
 rw[h0];clear h pV;refine A6 ?_;refine lY (v:=.iface 9 (.string (H.Name))) ?_ (hy:=R1 rfl)
 refine A6 ?_;refine B5 (AV [K5.w (H.Name)]) ?_
 intro qa w hw;refine A6 ?_;refine C9 (vs:=[.string Ab,.slice (some qa) 1 1]) ?_
 refine(Az [K5.w (H.Name)] (P4.own (i:=0) hw rfl) (by simp) hw).mono ?_
 clear hw;rintro e w ⟨f,rfl,hff,hw⟩
 have hff:f.fact=(Ab,[wF H.Name]):=hff
 refine⟨_,rfl,?_⟩;obtain⟨Γ2,hle2,hokf,hw⟩:=hw.freeze;have hw:=hw.drop
 refine A6 ?_;refine B5 [cF f] ?_
 intro qb w hw;refine A6 ?_;have hw:Wd Γ2 (.own (.slice (some qb) 1 1) 80 2 (([f]:List D1).map cF)::.blk b1 (.cells #[.string H.Name,.slice a1 n1 c1,.slice a2 n2 c2,.slice a3 n3 c3,.slice a4 n4 c4,.slice a5 n5 c5] 44)::S) w:=hw
 refine A6 ?_;refine B3 (fun μ ρ w=>∃(k:Nat) (g:Value) (Γ':C8) (fs:List D1),μ+k=n1∧Has ρ [(1,.pointer (some ⟨b1,0,none⟩)),(5,g),(30,.slice a1 n1 c1),(31,.int .i64 n1),(32,.int .i64 k)]∧Γ.le Γ'∧(∀f∈fs,BG Γ' f)∧facts fs=QG H++(H.Cores.take k).map TP∧Wd Γ' (.own g 80 2 (fs.map cF)::.blk b1 (.cells #[.string H.Name,.slice a1 n1 c1,.slice a2 n2 c2,.slice a3 n3 c3,.slice a4 n4 c4,.slice a5 n5 c5] 44)::S) w) n1 ⟨0,_,Γ2,[f],by omega,⟨rfl,rfl,rfl,rfl,rfl,trivial⟩,hle2,fun x hx=>by rw[List.mem_singleton.1 hx];exact hokf,by rw[List.take_zero,List.map_nil,List.append_nil];show [f.fact]=_;rw[hff];rfl,hw⟩ ?_
 clear hw hff hokf hle2;rintro μ ρ w ⟨k,g,Γ',fs,hk,hρ,hle,hok,hfs,hw⟩
 rw[hρ.eq];clear hρ;obtain⟨ag,ng,cg,rfl,hng,hngc,hcg⟩:=hw.own_shape (i:=0) rfl
 simp only[List.length_map]at hng
 have hfl:fs.length≤50000:=by
  have:=congrArg List.length hfs
  unfold facts at this;simp only[List.length_append,List.length_map,List.length_take]at this
  omega
 have rr:=r1.mono hle
 refine A6 ?_;refine A0 rfl (fun h=>?_) (fun h=>?_)
 ·have hkn:k<n1:=by have:=of_decide_eq_true h;omega
  clear h;obtain⟨x,hx⟩:=B2 (l:=H.Cores) (k:=k) (by omega)
  refine A6 ?_;refine B9 ?_;intro b9 w hw;refine B0 ?_;intro w hw;have hw:Wd Γ' (.blk b9 (.cells (enc x).toArray 47)::.own (.slice ag ng cg) 80 2 (fs.map cF)::.blk b1 (.cells #[.string H.Name,.slice a1 n1 c1,.slice a2 n2 c2,.slice a3 n3 c3,.slice a4 n4 c4,.slice a5 n5 c5] 44)::S) w:=hw
  refine A6 ?_;refine lY (v:=.iface 3 (.int .i64 (x.ID))) ?_ (hy:=R1 rfl)
  refine A6 ?_;refine lY (v:=.iface 3 (.int .i64 (x.Width))) ?_ (hy:=R1 rfl)
  refine A6 ?_;refine lY (v:=.iface 3 (.int .i64 (x.Node))) ?_ (hy:=R1 rfl)
  refine A6 ?_;refine lY (v:=.iface 3 (.int .i64 (x.Speed))) ?_ (hy:=R1 rfl)
  refine A6 ?_;refine B5 (AV [K5.i (x.ID),K5.i (x.Width),K5.i (x.Node),K5.i (x.Speed)]) ?_
  intro qa w hw;refine A6 ?_;refine C9 (vs:=[.string x8,.slice (some qa) 4 4]) ?_
  refine(Az [K5.i (x.ID),K5.i (x.Width),K5.i (x.Node),K5.i (x.Speed)] (P4.own (i:=0) hw rfl) (by simp) hw).mono ?_
  clear hw;rintro e w ⟨f,rfl,hff,hw⟩
  have hff:f.fact=TP x:=hff
  refine⟨_,rfl,?_⟩;obtain⟨Γ2,hle2,hokf,hw⟩:=hw.freeze;have hw:=hw.drop
  refine A6 ?_;refine B5 [cF f] ?_
  intro qb w hw;refine A6 ?_;refine T3 (i:=2) (rows2:=[cF f]) ?_ (Wd.own_rd (i:=0) hw rfl) (m2:=1) (c2:=1)
  intro t1 w hw;have hw:=hw.drop
  rw[show fs.map cF++[cF f]=(fs++[f]).map cF from by simp]at hw
  have hok2:∀x∈fs++[f],BG Γ2 x:=fun x hx=>(List.mem_append.1 hx).elim (fun h=>(hok x h).mono hle2) fun h=>by rw[List.mem_singleton.1 h];exact hokf
  have hw:Wd Γ2 (.own t1 80 2 ((fs++[f]).map cF)::.blk b1 (.cells #[.string H.Name,.slice a1 n1 c1,.slice a2 n2 c2,.slice a3 n3 c3,.slice a4 n4 c4,.slice a5 n5 c5] 44)::S) w:=hw.drop
  refine A6 ?_;refine⟨μ-1,by omega,k+1,t1,Γ2,fs++[f],by omega,⟨rfl,rfl,rfl,rfl,rfl,trivial⟩,hle.trans hle2,hok2,?_,hw⟩
  have h1:facts (fs++[f])=facts fs++[f.fact]:=by unfold facts;rw[List.map_append];rfl
  rw[h1,hfs,hff,List.take_add_one,hx,List.map_append,←List.append_assoc];rfl
 have hkn:n1≤k:=by have:=of_decide_eq_false h;omega
 clear h;rw[List.take_of_length_le (by omega)]at hfs
 have hfs:facts fs=FO H:=hfs
 have hle0:=hle
 clear rr hkn hk hle;refine A6 ?_;refine B3 (fun μ ρ w=>∃(k:Nat) (g:Value) (Γ':C8) (fs:List D1),μ+k=n2∧Has ρ [(1,.pointer (some ⟨b1,0,none⟩)),(5,g),(55,.slice a2 n2 c2),(56,.int .i64 n2),(57,.int .i64 k)]∧Γ.le Γ'∧(∀f∈fs,BG Γ' f)∧facts fs=FO H++(cs'.take k).flatMap (fun c=>I2 c.T)∧Wd Γ' (.own g 80 2 (fs.map cF)::.blk b1 (.cells #[.string H.Name,.slice a1 n1 c1,.slice a2 n2 c2,.slice a3 n3 c3,.slice a4 n4 c4,.slice a5 n5 c5] 44)::S) w) n2 ⟨0,_,Γ',fs,by omega,⟨rfl,rfl,rfl,rfl,rfl,trivial⟩,hle0,hok,by rw[List.take_zero,List.flatMap_nil,List.append_nil];exact hfs,hw⟩ ?_
 clear hw;rintro μ ρ w ⟨k,g,Γ',fs,hk,hρ,hle,hok,hfs,hw⟩
 rw[hρ.eq];clear hρ;obtain⟨ag,ng,cg,rfl,hng,hngc,hcg⟩:=hw.own_shape (i:=0) rfl
 simp only[List.length_map]at hng
 have hfl:fs.length≤50000:=by
  have:=congrArg List.length hfs
  unfold facts at this;rw[List.length_append,List.length_map]at this;have h3:=IB (g:=fun c:E1=>I2 c.T) (l:=cs') k
  have h4:(H.Caches.flatMap I2).length=(cs'.flatMap fun c=>I2 c.T).length:=by rw[←hcs,List.flatMap_map]
  omega
 have rr:=r2.mono hle
 refine A6 ?_;refine A0 rfl (fun h=>?_) (fun h=>?_)
 ·have hkn:k<n2:=by have:=of_decide_eq_true h;omega
  clear h;obtain⟨x,hx⟩:=B2 (l:=cs') (k:=k) (by omega)
  refine A6 ?_;refine B9 ?_;intro b9 w hw;refine B0 ?_;intro w hw;have hw:Wd Γ' (.blk b9 (.cells (cC x).toArray 135)::.own (.slice ag ng cg) 80 2 (fs.map cF)::.blk b1 (.cells #[.string H.Name,.slice a1 n1 c1,.slice a2 n2 c2,.slice a3 n3 c3,.slice a4 n4 c4,.slice a5 n5 c5] 44)::S) w:=hw
  refine A6 ?_;refine lY (v:=.iface 9 (.string (x.Name))) ?_ (hy:=R1 rfl)
  refine A6 ?_;refine lY (v:=.iface 3 (.int .i64 (x.Level))) ?_ (hy:=R1 rfl)
  refine A6 ?_;refine lY (v:=.iface 56 (.int .u64 (x.Size))) ?_ (hy:=R1 rfl)
  refine A6 ?_;refine lY (v:=.iface 3 (.int .i64 (x.Line))) ?_ (hy:=R1 rfl)
  refine A6 ?_;refine B5 (AV [K5.w (x.Name),K5.i (x.Level),K5.u (x.Size),K5.i (x.Line)]) ?_
  intro qa w hw;refine A6 ?_;refine C9 (vs:=[.string o9,.slice (some qa) 4 4]) ?_
  refine(Az [K5.w (x.Name),K5.i (x.Level),K5.u (x.Size),K5.i (x.Line)] (P4.own (i:=0) hw rfl) (by simp) hw).mono ?_
  clear hw;rintro e w ⟨f,rfl,hff,hw⟩
  have hff:f.fact=Mb x.T:=hff
  refine⟨_,rfl,?_⟩;obtain⟨Γ2,hle2,hokf,hw⟩:=hw.freeze;have hw:=hw.drop
  refine A6 ?_;refine B5 [cF f] ?_
  intro qb w hw;refine A6 ?_;refine T3 (i:=2) (rows2:=[cF f]) ?_ (Wd.own_rd (i:=0) hw rfl) (m2:=1) (c2:=1)
  intro t1 w hw;have hw:=hw.drop
  rw[show fs.map cF++[cF f]=(fs++[f]).map cF from by simp]at hw
  have hok2:∀x∈fs++[f],BG Γ2 x:=fun x hx=>(List.mem_append.1 hx).elim (fun h=>(hok x h).mono hle2) fun h=>by rw[List.mem_singleton.1 h];exact hokf
  have hw:Wd Γ2 (.blk b9 (.cells (cC x).toArray 135)::.own t1 80 2 ((fs++[f]).map cF)::.blk b1 (.cells #[.string H.Name,.slice a1 n1 c1,.slice a2 n2 c2,.slice a3 n3 c3,.slice a4 n4 c4,.slice a5 n5 c5] 44)::S) w:=hw
  have hxo:SZ Γ2 x:=SZ.mono (hok' x (List.mem_of_getElem? hx)) (hle.trans hle2)
  have hbase:facts (fs++[f])=(FO H++(cs'.take k).flatMap (fun c=>I2 c.T))++[Mb x.T]:=by
   have h1:facts (fs++[f])=facts fs++[f.fact]:=by unfold facts;rw[List.map_append];rfl
   rw[h1,hfs,hff]
  have hle2':=hle.trans hle2
  have rx2:D7 Γ2 (.slice x.A x.N x.C) 1 (A8 x.Cores):=hxo
  refine A6 ?_;refine B3 (fun μ2 ρ w=>∃(j:Nat) (g:Value) (Γ':C8) (fs:List D1),μ2+j=x.N∧Has ρ [(1,.pointer (some ⟨b1,0,none⟩)),(5,g),(9,.pointer (some ⟨b9,0,none⟩)),(55,.slice a2 n2 c2),(56,.int .i64 n2),(57,.int .i64 k),(79,.slice x.A x.N x.C),(80,.int .i64 x.N),(81,.int .i64 j)]∧Γ2.le Γ'∧(∀f∈fs,BG Γ' f)∧facts fs=((FO H++(cs'.take k).flatMap (fun c=>I2 c.T))++[Mb x.T])++(x.Cores.take j).map (SF x.T)∧Wd Γ' (.blk b9 (.cells (cC x).toArray 135)::.own g 80 2 (fs.map cF)::.blk b1 (.cells #[.string H.Name,.slice a1 n1 c1,.slice a2 n2 c2,.slice a3 n3 c3,.slice a4 n4 c4,.slice a5 n5 c5] 44)::S) w) x.N ⟨0,t1,Γ2,fs++[f],by omega,⟨rfl,rfl,rfl,rfl,rfl,rfl,rfl,rfl,rfl,trivial⟩,C8.le.refl _,hok2,by rw[List.take_zero,List.map_nil,List.append_nil];exact hbase,hw⟩ ?_
  clear hw hokf hok2 hff hbase;clear hfl hng;rename_i gOld
  clear hok hle;rintro μ2 ρ w ⟨j,g,Γ',fs,hj,hρ,hle,hok,hfs,hw⟩
  rw[hρ.eq];clear hρ;obtain⟨ag,ng,cg,rfl,hng,hngc,hcg⟩:=hw.own_shape (i:=1) rfl
  simp only[List.length_map]at hng
  have hfl:fs.length≤50000:=by
   have:=congrArg List.length hfs
   unfold facts at this;rw[List.length_map,List.length_append,List.length_append,List.length_append,List.length_map,List.length_take]at this;have h2:(cs'.take (k+1)).flatMap (fun c=>I2 c.T)=(cs'.take k).flatMap (fun c=>I2 c.T)++I2 x.T:=by rw[List.take_add_one,hx];simp
   have h3:=IB (g:=fun c:E1=>I2 c.T) (l:=cs') (k+1)
   have h4:(H.Caches.flatMap I2).length=(cs'.flatMap fun c=>I2 c.T).length:=by rw[←hcs,List.flatMap_map]
   have h5:(I2 x.T).length=x.Cores.length+1:=by unfold I2;simp[E1.T]
   rw[h2,List.length_append]at h3;simp only[List.length_cons,List.length_nil]at this
   omega
  have rr2:D7 Γ' (.slice x.A x.N x.C) 1 (A8 x.Cores):=rx2.mono hle
  have hxn:x.N=x.Cores.length:=by have:=(C0 rr2).1;unfold A8 at this;rwa [List.length_map]at this
  have hxc:=(C0 rr2).2
  refine A6 ?_;refine A0 rfl (fun h=>?_) (fun h=>?_)
  ·have hjn:j<x.N:=by have:=of_decide_eq_true h;omega
   clear h;obtain⟨y,hy⟩:=B2 (l:=x.Cores) (k:=j) (by omega)
   refine A6 ?_;refine lY (v:=.iface 9 (.string (x.Name))) ?_ (hy:=R1 rfl)
   refine A6 ?_;refine lY (v:=.iface 3 (.int .i64 (y))) ?_ (hy:=R1 rfl)
   refine A6 ?_;refine B5 (AV [K5.w (x.Name),K5.i (y)]) ?_
   intro qa w hw;refine A6 ?_;refine C9 (vs:=[.string V7,.slice (some qa) 2 2]) ?_
   refine(Az [K5.w (x.Name),K5.i (y)] (P4.own (i:=0) hw rfl) (by simp) hw).mono ?_
   clear hw;rintro e w ⟨f,rfl,hff,hw⟩
   have hff:f.fact=SF x.T y:=hff
   refine⟨_,rfl,?_⟩;obtain⟨Γ2,hle2,hokf,hw⟩:=hw.freeze;have hw:=hw.drop
   refine A6 ?_;refine B5 [cF f] ?_
   intro qb w hw;refine A6 ?_;refine T3 (i:=2) (rows2:=[cF f]) ?_ (Wd.own_rd (i:=0) hw rfl) (m2:=1) (c2:=1)
   intro t1 w hw;have hw:=hw.drop
   rw[show fs.map cF++[cF f]=(fs++[f]).map cF from by simp]at hw
   have hok2:∀x∈fs++[f],BG Γ2 x:=fun x hx=>(List.mem_append.1 hx).elim (fun h=>(hok x h).mono hle2) fun h=>by rw[List.mem_singleton.1 h];exact hokf
   refine A6 ?_;refine⟨μ2-1,by omega,j+1,t1,Γ2,fs++[f],by omega,⟨rfl,rfl,rfl,rfl,rfl,rfl,rfl,rfl,rfl,trivial⟩,hle.trans hle2,hok2,?_,hw⟩
   have h1:facts (fs++[f])=facts fs++[f.fact]:=by unfold facts;rw[List.map_append];rfl
   rw[h1,hfs,hff,List.take_add_one,hy,List.map_append,←List.append_assoc];rfl
  have hjn:x.N≤j:=by have:=of_decide_eq_false h;omega
  clear h;rw[List.take_of_length_le (l:=x.Cores) (i:=j) (by omega)]at hfs
  refine A6 ?_;refine⟨μ-1,by omega,k+1,_,Γ',fs,by omega,⟨rfl,rfl,rfl,rfl,rfl,trivial⟩,hle2'.trans hle,hok,?_,hw.drop⟩
  have h2:(cs'.take (k+1)).flatMap (fun c=>I2 c.T)=(cs'.take k).flatMap (fun c=>I2 c.T)++I2 x.T:=by rw[List.take_add_one,hx];simp
  rw[h2,hfs];unfold I2;simp only[List.append_assoc,List.cons_append,List.nil_append];rfl
 have hkn:n2≤k:=by have:=of_decide_eq_false h;omega
 clear h;rw[List.take_of_length_le (by omega)]at hfs
 have hfs:facts fs=GM H:=by
  rw[hfs];unfold GM;rw[←hcs,List.flatMap_map]
 have hle0:=hle
 clear rr hkn hk hle;refine A6 ?_;refine B3 (fun μ ρ w=>∃(k:Nat) (g:Value) (Γ':C8) (fs:List D1),μ+k=n3∧Has ρ [(1,.pointer (some ⟨b1,0,none⟩)),(5,g),(98,.slice a3 n3 c3),(99,.int .i64 n3),(100,.int .i64 k)]∧Γ.le Γ'∧(∀f∈fs,BG Γ' f)∧facts fs=GM H++(H.Links.take k).map Pb∧Wd Γ' (.own g 80 2 (fs.map cF)::.blk b1 (.cells #[.string H.Name,.slice a1 n1 c1,.slice a2 n2 c2,.slice a3 n3 c3,.slice a4 n4 c4,.slice a5 n5 c5] 44)::S) w) n3 ⟨0,_,Γ',fs,by omega,⟨rfl,rfl,rfl,rfl,rfl,trivial⟩,hle0,hok,by rw[List.take_zero,List.map_nil,List.append_nil];exact hfs,hw⟩ ?_
 clear hw;rintro μ ρ w ⟨k,g,Γ',fs,hk,hρ,hle,hok,hfs,hw⟩
 rw[hρ.eq];clear hρ;obtain⟨ag,ng,cg,rfl,hng,hngc,hcg⟩:=hw.own_shape (i:=0) rfl
 simp only[List.length_map]at hng
 have hfl:fs.length≤50000:=by
  have:=congrArg List.length hfs
  unfold facts at this;simp only[List.length_append,List.length_map,List.length_take]at this
  omega
 have rr:=r3.mono hle
 refine A6 ?_;refine A0 rfl (fun h=>?_) (fun h=>?_)
 ·have hkn:k<n3:=by have:=of_decide_eq_true h;omega
  clear h;obtain⟨x,hx⟩:=B2 (l:=H.Links) (k:=k) (by omega)
  refine A6 ?_;refine B9 ?_;intro b9 w hw;refine B0 ?_;intro w hw;have hw:Wd Γ' (.blk b9 (.cells (enc x).toArray 128)::.own (.slice ag ng cg) 80 2 (fs.map cF)::.blk b1 (.cells #[.string H.Name,.slice a1 n1 c1,.slice a2 n2 c2,.slice a3 n3 c3,.slice a4 n4 c4,.slice a5 n5 c5] 44)::S) w:=hw
  refine A6 ?_;refine lY (v:=.iface 3 (.int .i64 (if x.B<x.A then x.B else x.A))) ?_ (hy:=R1 rfl)
  refine A6 ?_;refine lY (v:=.iface 3 (.int .i64 (if x.A<x.B then x.B else x.A))) ?_ (hy:=R1 rfl)
  refine A6 ?_;refine lY (v:=.iface 3 (.int .i64 (x.Latency))) ?_ (hy:=R1 rfl)
  refine A6 ?_;refine B5 (AV [K5.i (if x.B<x.A then x.B else x.A),K5.i (if x.A<x.B then x.B else x.A),K5.i (x.Latency)]) ?_
  intro qa w hw;refine A6 ?_;refine C9 (vs:=[.string CE,.slice (some qa) 3 3]) ?_
  refine(Az [K5.i (if x.B<x.A then x.B else x.A),K5.i (if x.A<x.B then x.B else x.A),K5.i (x.Latency)] (P4.own (i:=0) hw rfl) (by simp) hw).mono ?_
  clear hw;rintro e w ⟨f,rfl,hff,hw⟩
  have hff:f.fact=Pb x:=hff
  refine⟨_,rfl,?_⟩;obtain⟨Γ2,hle2,hokf,hw⟩:=hw.freeze;have hw:=hw.drop
  refine A6 ?_;refine B5 [cF f] ?_
  intro qb w hw;refine A6 ?_;refine T3 (i:=2) (rows2:=[cF f]) ?_ (Wd.own_rd (i:=0) hw rfl) (m2:=1) (c2:=1)
  intro t1 w hw;have hw:=hw.drop
  rw[show fs.map cF++[cF f]=(fs++[f]).map cF from by simp]at hw
  have hok2:∀x∈fs++[f],BG Γ2 x:=fun x hx=>(List.mem_append.1 hx).elim (fun h=>(hok x h).mono hle2) fun h=>by rw[List.mem_singleton.1 h];exact hokf
  have hw:Wd Γ2 (.own t1 80 2 ((fs++[f]).map cF)::.blk b1 (.cells #[.string H.Name,.slice a1 n1 c1,.slice a2 n2 c2,.slice a3 n3 c3,.slice a4 n4 c4,.slice a5 n5 c5] 44)::S) w:=hw.drop
  refine A6 ?_;refine⟨μ-1,by omega,k+1,t1,Γ2,fs++[f],by omega,⟨rfl,rfl,rfl,rfl,rfl,trivial⟩,hle.trans hle2,hok2,?_,hw⟩
  have h1:facts (fs++[f])=facts fs++[f.fact]:=by unfold facts;rw[List.map_append];rfl
  rw[h1,hfs,hff,List.take_add_one,hx,List.map_append,←List.append_assoc];rfl
 have hkn:n3≤k:=by have:=of_decide_eq_false h;omega
 clear h;rw[List.take_of_length_le (by omega)]at hfs
 have hfs:facts fs=HC H:=hfs
 have hle0:=hle
 clear rr hkn hk hle;refine A6 ?_;refine B3 (fun μ ρ w=>∃(k:Nat) (g:Value) (Γ':C8) (fs:List D1),μ+k=n4∧Has ρ [(1,.pointer (some ⟨b1,0,none⟩)),(5,g),(126,.slice a4 n4 c4),(127,.int .i64 n4),(128,.int .i64 k)]∧Γ.le Γ'∧(∀f∈fs,BG Γ' f)∧facts fs=HC H++(H.Mems.take k).map IP∧Wd Γ' (.own g 80 2 (fs.map cF)::.blk b1 (.cells #[.string H.Name,.slice a1 n1 c1,.slice a2 n2 c2,.slice a3 n3 c3,.slice a4 n4 c4,.slice a5 n5 c5] 44)::S) w) n4 ⟨0,_,Γ',fs,by omega,⟨rfl,rfl,rfl,rfl,rfl,trivial⟩,hle0,hok,by rw[List.take_zero,List.map_nil,List.append_nil];exact hfs,hw⟩ ?_
 clear hw;rintro μ ρ w ⟨k,g,Γ',fs,hk,hρ,hle,hok,hfs,hw⟩
 rw[hρ.eq];clear hρ;obtain⟨ag,ng,cg,rfl,hng,hngc,hcg⟩:=hw.own_shape (i:=0) rfl
 simp only[List.length_map]at hng
 have hfl:fs.length≤50000:=by
  have:=congrArg List.length hfs
  unfold facts at this;simp only[List.length_append,List.length_map,List.length_take]at this
  omega
 have rr:=r4.mono hle
 refine A6 ?_;refine A0 rfl (fun h=>?_) (fun h=>?_)
 ·have hkn:k<n4:=by have:=of_decide_eq_true h;omega
  clear h;obtain⟨x,hx⟩:=B2 (l:=H.Mems) (k:=k) (by omega)
  refine A6 ?_;refine B9 ?_;intro b9 w hw;refine B0 ?_;intro w hw;have hw:Wd Γ' (.blk b9 (.cells (enc x).toArray 58)::.own (.slice ag ng cg) 80 2 (fs.map cF)::.blk b1 (.cells #[.string H.Name,.slice a1 n1 c1,.slice a2 n2 c2,.slice a3 n3 c3,.slice a4 n4 c4,.slice a5 n5 c5] 44)::S) w:=hw
  refine A6 ?_;refine lY (v:=.iface 9 (.string (x.Name))) ?_ (hy:=R1 rfl)
  refine A6 ?_;refine lY (v:=.iface 56 (.int .u64 (x.Base))) ?_ (hy:=R1 rfl)
  refine A6 ?_;refine lY (v:=.iface 56 (.int .u64 (x.Size))) ?_ (hy:=R1 rfl)
  refine A6 ?_;refine lY (v:=.iface 3 (.int .i64 (x.Node))) ?_ (hy:=R1 rfl)
  refine A6 ?_;refine lY (v:=.iface 3 (.int .i64 (x.Latency))) ?_ (hy:=R1 rfl)
  refine A6 ?_;refine B5 (AV [K5.w (x.Name),K5.u (x.Base),K5.u (x.Size),K5.i (x.Node),K5.i (x.Latency)]) ?_
  intro qa w hw;refine A6 ?_;refine C9 (vs:=[.string K4,.slice (some qa) 5 5]) ?_
  refine(Az [K5.w (x.Name),K5.u (x.Base),K5.u (x.Size),K5.i (x.Node),K5.i (x.Latency)] (P4.own (i:=0) hw rfl) (by simp) hw).mono ?_
  clear hw;rintro e w ⟨f,rfl,hff,hw⟩
  have hff:f.fact=IP x:=hff
  refine⟨_,rfl,?_⟩;obtain⟨Γ2,hle2,hokf,hw⟩:=hw.freeze;have hw:=hw.drop
  refine A6 ?_;refine B5 [cF f] ?_
  intro qb w hw;refine A6 ?_;refine T3 (i:=2) (rows2:=[cF f]) ?_ (Wd.own_rd (i:=0) hw rfl) (m2:=1) (c2:=1)
  intro t1 w hw;have hw:=hw.drop
  rw[show fs.map cF++[cF f]=(fs++[f]).map cF from by simp]at hw
  have hok2:∀x∈fs++[f],BG Γ2 x:=fun x hx=>(List.mem_append.1 hx).elim (fun h=>(hok x h).mono hle2) fun h=>by rw[List.mem_singleton.1 h];exact hokf
  have hw:Wd Γ2 (.own t1 80 2 ((fs++[f]).map cF)::.blk b1 (.cells #[.string H.Name,.slice a1 n1 c1,.slice a2 n2 c2,.slice a3 n3 c3,.slice a4 n4 c4,.slice a5 n5 c5] 44)::S) w:=hw.drop
  refine A6 ?_;refine⟨μ-1,by omega,k+1,t1,Γ2,fs++[f],by omega,⟨rfl,rfl,rfl,rfl,rfl,trivial⟩,hle.trans hle2,hok2,?_,hw⟩
  have h1:facts (fs++[f])=facts fs++[f.fact]:=by unfold facts;rw[List.map_append];rfl
  rw[h1,hfs,hff,List.take_add_one,hx,List.map_append,←List.append_assoc];rfl
 have hkn:n4≤k:=by have:=of_decide_eq_false h;omega
 clear h;rw[List.take_of_length_le (by omega)]at hfs
 have hfs:facts fs=Fs H:=hfs
 have hle0:=hle
 clear rr hkn hk hle;refine A6 ?_;refine B3 (fun μ ρ w=>∃(k:Nat) (g:Value) (Γ':C8) (fs:List D1),μ+k=n5∧Has ρ [(1,.pointer (some ⟨b1,0,none⟩)),(5,g),(154,.slice a5 n5 c5),(155,.int .i64 n5),(156,.int .i64 k)]∧Γ.le Γ'∧(∀f∈fs,BG Γ' f)∧facts fs=Fs H++(H.Devs.take k).map aX∧Wd Γ' (.own g 80 2 (fs.map cF)::.blk b1 (.cells #[.string H.Name,.slice a1 n1 c1,.slice a2 n2 c2,.slice a3 n3 c3,.slice a4 n4 c4,.slice a5 n5 c5] 44)::S) w) n5 ⟨0,_,Γ',fs,by omega,⟨rfl,rfl,rfl,rfl,rfl,trivial⟩,hle0,hok,by rw[List.take_zero,List.map_nil,List.append_nil];exact hfs,hw⟩ ?_
 clear hw;rintro μ ρ w ⟨k,g,Γ',fs,hk,hρ,hle,hok,hfs,hw⟩
 rw[hρ.eq];clear hρ;obtain⟨ag,ng,cg,rfl,hng,hngc,hcg⟩:=hw.own_shape (i:=0) rfl
 simp only[List.length_map]at hng
 have hfl:fs.length≤50000:=by
  have:=congrArg List.length hfs
  unfold facts at this;simp only[List.length_append,List.length_map,List.length_take]at this
  omega
 have rr:=r5.mono hle
 refine A6 ?_;refine A0 rfl (fun h=>?_) (fun h=>?_)
 ·have hkn:k<n5:=by have:=of_decide_eq_true h;omega
  clear h;obtain⟨x,hx⟩:=B2 (l:=H.Devs) (k:=k) (by omega)
  refine A6 ?_;refine B9 ?_;intro b9 w hw;refine B0 ?_;intro w hw;have hw:Wd Γ' (.blk b9 (.cells (enc x).toArray 131)::.own (.slice ag ng cg) 80 2 (fs.map cF)::.blk b1 (.cells #[.string H.Name,.slice a1 n1 c1,.slice a2 n2 c2,.slice a3 n3 c3,.slice a4 n4 c4,.slice a5 n5 c5] 44)::S) w:=hw
  refine A6 ?_;refine lY (v:=.iface 9 (.string (x.Name))) ?_ (hy:=R1 rfl)
  refine A6 ?_;refine lY (v:=.iface 3 (.int .i64 (x.Node))) ?_ (hy:=R1 rfl)
  refine A6 ?_;refine lY (v:=.iface 3 (.int .i64 (x.IRQ))) ?_ (hy:=R1 rfl)
  refine A6 ?_;refine lY (v:=.iface 56 (.int .u64 (x.Base))) ?_ (hy:=R1 rfl)
  refine A6 ?_;refine lY (v:=.iface 56 (.int .u64 (x.Size))) ?_ (hy:=R1 rfl)
  refine A6 ?_;refine B5 (AV [K5.w (x.Name),K5.i (x.Node),K5.i (x.IRQ),K5.u (x.Base),K5.u (x.Size)]) ?_
  intro qa w hw;refine A6 ?_;refine C9 (vs:=[.string o7,.slice (some qa) 5 5]) ?_
  refine(Az [K5.w (x.Name),K5.i (x.Node),K5.i (x.IRQ),K5.u (x.Base),K5.u (x.Size)] (P4.own (i:=0) hw rfl) (by simp) hw).mono ?_
  clear hw;rintro e w ⟨f,rfl,hff,hw⟩
  have hff:f.fact=aX x:=hff
  refine⟨_,rfl,?_⟩;obtain⟨Γ2,hle2,hokf,hw⟩:=hw.freeze;have hw:=hw.drop
  refine A6 ?_;refine B5 [cF f] ?_
  intro qb w hw;refine A6 ?_;refine T3 (i:=2) (rows2:=[cF f]) ?_ (Wd.own_rd (i:=0) hw rfl) (m2:=1) (c2:=1)
  intro t1 w hw;have hw:=hw.drop
  rw[show fs.map cF++[cF f]=(fs++[f]).map cF from by simp]at hw
  have hok2:∀x∈fs++[f],BG Γ2 x:=fun x hx=>(List.mem_append.1 hx).elim (fun h=>(hok x h).mono hle2) fun h=>by rw[List.mem_singleton.1 h];exact hokf
  have hw:Wd Γ2 (.own t1 80 2 ((fs++[f]).map cF)::.blk b1 (.cells #[.string H.Name,.slice a1 n1 c1,.slice a2 n2 c2,.slice a3 n3 c3,.slice a4 n4 c4,.slice a5 n5 c5] 44)::S) w:=hw.drop
  refine A6 ?_;refine⟨μ-1,by omega,k+1,t1,Γ2,fs++[f],by omega,⟨rfl,rfl,rfl,rfl,rfl,trivial⟩,hle.trans hle2,hok2,?_,hw⟩
  have h1:facts (fs++[f])=facts fs++[f.fact]:=by unfold facts;rw[List.map_append];rfl
  rw[h1,hfs,hff,List.take_add_one,hx,List.map_append,←List.append_assoc];rfl
 have hkn:n5≤k:=by have:=of_decide_eq_false h;omega
 clear h;rw[List.take_of_length_le (by omega)]at hfs
 have hfs:facts fs=G1 H:=hfs
 have hle0:=hle
 clear rr hkn hk hle;refine A6 ?_;have hFs:Dn Γ' fs:=fun f hf=>⟨hok f hf,dI hV _ (by rw[←hfs];exact List.mem_map.2 ⟨f,hf,rfl⟩)⟩
 refine C9 (vs:=[.slice ag ng cg]) ?_
 refine(bL fs hFs (by omega) (P4.own (i:=0) hw rfl) hw).mono ?_
 clear hw;rintro e w ⟨Γ2,v',gs,hle2,rfl,hgs,hgo,hw⟩
 refine⟨_,rfl,?_⟩;refine A6 ?_;exact⟨_,rfl,Γ2,v',gs,hle0.trans hle2,rfl,by rw[if_pos rfl,hgs,hfs],hgo,hw.ds [1,1]⟩
end Go.Proofs.YtlmiakjbogojgaaGreatDoor
end
section
open Go Mk
namespace Go.Proofs.YtlmiakjbogojgaaGreatDoor
set_option maxHeartbeats 16000000
theorem WO{fs gs:List D1}(hp:gs.Perm fs)(hs:gs.Pairwise fun a b=>Go.Proofs.ltOf (fun a b:D1=>I7 a.fact b.fact) b a=false)(hn:(facts fs).Nodup):facts gs=O4 (facts fs):=by
 have hm:∀x,x∈facts gs↔x∈facts fs:=fun x=>(hp.map D1.fact).mem_iff
 have hn2:(facts gs).Nodup:=(hp.map D1.fact).nodup_iff.2 hn
 refine DY.eq J8 ⟨?_,hm⟩
 unfold facts at hn2 ⊢
 rw[List.Nodup,List.pairwise_map]at hn2;rw[List.pairwise_map];refine(hs.and hn2).imp fun {a b} ⟨h1,h2⟩=>?_
 have h1:¬I7 b.fact a.fact<0:=by simpa[Go.Proofs.ltOf] using h1
 have h3:=J8.anti a.fact b.fact
 rcases J8.rng a.fact b.fact with h|h|h
 ·exact h
 ·exact absurd (J8.eq0 h) h2
 ·omega
theorem Lv{H:J6}{a b c d:Int}(h:W1 H a b=W1 H c d):a=c∧b=d:=
 ⟨HR (Option.some.inj (congrArg (fun f:F3=>f.2[0]?) h)),HR (Option.some.inj (congrArg (fun f:F3=>f.2[1]?) h))⟩
theorem Qd{H:J6}{X:List Int}(h:X.Nodup):(BU H X).Nodup:=by
 unfold BU;rw[List.Nodup,List.pairwise_flatMap];refine⟨fun a _=>?_,?_⟩
 ·rw[List.pairwise_map];exact(h:X.Pairwise (·≠·)).imp fun {x y} hne he=>hne (Lv he).2
 ·refine(h:X.Pairwise (·≠·)).imp fun {x y} hne p hp q hq he=>?_
  obtain⟨b,_,rfl⟩:=List.mem_map.1 hp
  obtain⟨c,_,rfl⟩:=List.mem_map.1 hq
  exact hne (Lv he).1
theorem YU{H:J6}(v:V4 H){X:List Int}(h:X.Nodup):(O4 (G1 H)++BU H X).Nodup:=by
 refine List.nodup_append.2 ⟨(VS (Pw v)).nodup_iff.2 (Pw v),Qd h,fun a ha b hb he=>?_⟩
 obtain⟨x,_,y,_,rfl⟩:=Bu.1 hb
 have h1:a∈G1 H:=by
  unfold O4 at ha;exact(As J8).1 ha
 have e:a.1=Bt:=congrArg Prod.fst he
 have k1:Ab≠Bt:=by decide +kernel
 have k2:x8≠Bt:=by decide +kernel
 have k3:o9≠Bt:=by decide +kernel
 have k4:V7≠Bt:=by decide +kernel
 have k5:CE≠Bt:=by decide +kernel
 have k6:K4≠Bt:=by decide +kernel
 have k7:o7≠Bt:=by decide +kernel
 unfold G1 at h1;rcases List.mem_append.1 h1 with h1|h1
 ·rcases fu h1 with h|h|h|h|h|h <;> rw[h]at e <;> first|exact k1 e|exact k2 e|exact k3 e|exact k4 e|exact k5 e|exact k6 e
 ·obtain⟨d,_,rfl⟩:=List.mem_map.1 h1
  exact k7 e
instance gb{Γ:C8}(n:Int):PG Tryz.prog Γ 70 [.int .i64 n] (.agg (enc (iF n)).toArray):=⟨fun S w hw=>by
 refine I4 Tryz.func70 rfl rfl ?_
 refine A6 ?_;refine B9 ?_;intro b w hw;refine A6 ?_;refine B0 ?_;intro w hw;have hw:Wd Γ (.blk b (.cells (enc (iF n)).toArray 65)::S) w:=hw
 refine A6 ?_;exact⟨[.agg (enc (iF n)).toArray],⟨U4 (i:=0) hw rfl rfl rfl,trivial⟩,rfl,hw.drop⟩⟩
attribute [local irreducible] Calls I7 D8 G1 S2 O4
theorem Rj{Γ:C8}{S:List B6}{w:World}{u:Value}{H:J6}[hh:FG Γ u H](hw:Wd Γ S w) :
  Calls Tryz.prog 20 #[u] w fun e w'=>∃Γ' v gs,Γ.le Γ'∧e=.returned (.tuple #[v,.int .i64 (D8 H)])∧facts gs=(if D8 H=0 then Rt H else [])∧Dn Γ' gs∧Wd Γ' (.own v 80 2 (gs.map cF)::S) w':=by
 have hh':=hh
 obtain⟨a1,n1,c1,a2,n2,c2,a3,n3,c3,a4,n4,c4,a5,n5,c5,cs',rfl,hcs,hok',hsz,r1,r2,r3,r4,r5⟩:=hh.h;refine A7 Tryz.func20 rfl rfl ?_
 refine A6 ?_;refine H2 ?_;intro b1 w hw;have hw:Wd Γ (.blk b1 (J2 H a1 n1 c1 a2 n2 c2 a3 n3 c3 a4 n4 c4 a5 n5 c5)::S) w:=hw
 refine A6 ?_;refine C9 ((Nw (hh:=hh') hw).mono fun e w hq=>?_)
 clear hw;obtain⟨Γ1,v0,fs0,hle1,rfl,hfs0,hfo0,hw⟩:=hq;refine⟨_,rfl,?_⟩;refine A6 ?_;refine A0 rfl (fun h=>?_) (fun h=>?_)
 ·have h:D8 H≠0:=of_decide_eq_true h
  refine A6 ?_;rw[if_neg h]at hfs0 ⊢
  refine⟨_,rfl,Γ1,.slice none 0 0,[],hle1,rfl,rfl,fun f hf=>(by cases hf),Wd.addNil (hw.ds [0,0])⟩
 have h0:D8 H=0:=by have:=of_decide_eq_false h;omega
 rw[h0];rw[if_pos h0]at hfs0;clear h;have hV:=Br.1 h0
 have hfew:=Rh hV
 have hN:=aU hV
 have hcnt:=w5 hV.c
 have hLk:=W4 h0
 have hfew0:(O4 (G1 H)).length≤2497:=Nat.le_trans (by unfold O4;exact Ah) hfew
 replace r1:=r1.mono hle1
 replace r4:=r4.mono hle1
 replace r5:=r5.mono hle1
 obtain⟨q1,q1b,q1c⟩:=C0 r1
 obtain⟨q4,q4b,q4c⟩:=C0 r4
 obtain⟨q5,q5b,q5c⟩:=C0 r5
 simp only[List.length_map]at q1 q4 q5
 obtain⟨g0,hg0⟩:∃g,g=B6.own v0 80 2 (fs0.map cF):=⟨_,rfl⟩
 rw[←hg0]at hw;have hw:=Wd.addNil (a:=none) (E:=3) (sz:=1) hw
 have hw:Wd Γ1 (.own (.slice none 0 0) 3 1 (A8 (([]:List Int)++(H.Cores.take 0).map (fun c=>c.Node)))::g0::.blk b1 (J2 H a1 n1 c1 a2 n2 c2 a3 n3 c3 a4 n4 c4 a5 n5 c5)::S) w:=hw
 refine A6 ?_;refine B3 (fun μ ρ w=>∃(k:Nat) (q:Option Addr) (m d:Nat),μ+k=n1∧Has ρ [(1,.pointer (some ⟨b1,0,none⟩)),(4,v0),(6,.slice q m d),(28,.slice a1 n1 c1),(29,.int .i64 n1),(30,.int .i64 k)]∧Wd Γ1 (.own (.slice q m d) 3 1 (A8 (([]:List Int)++(H.Cores.take k).map (fun c=>c.Node)))::g0::.blk b1 (J2 H a1 n1 c1 a2 n2 c2 a3 n3 c3 a4 n4 c4 a5 n5 c5)::S) w) n1 ⟨0,_,_,_,by omega,⟨rfl,rfl,rfl,rfl,rfl,rfl,trivial⟩,hw⟩ ?_
 clear hw;rintro μ ρ w ⟨k,q,m,d,hk,hρ,hw⟩
 have hm:=Q8 (i:=0) hw rfl
 simp only[A8,List.length_map,List.length_append,List.length_nil,List.length_take]at hm
 rw[hρ.eq];refine A6 ?_;refine A0 rfl (fun h=>?_) (fun h=>?_)
 ·have hkn:k<n1:=by simpa using h
  obtain⟨x,hx⟩:=B2 (l:=H.Cores) (k:=k) (by omega)
  refine A6 ?_;refine B9 ?_;intro b9 w hw;refine B0 ?_;intro w hw;have hw:Wd Γ1 (.blk b9 (.cells (enc x).toArray 47)::.own (.slice q m d) 3 1 (A8 (([]:List Int)++(H.Cores.take k).map (fun c=>c.Node)))::g0::.blk b1 (J2 H a1 n1 c1 a2 n2 c2 a3 n3 c3 a4 n4 c4 a5 n5 c5)::S) w:=hw
  refine A6 ?_;refine B5 [[.int .i64 x.Node]] ?_
  intro ab w hw;refine T3 (i:=2) (rows2:=[[.int .i64 x.Node]]) ?_ (Wd.own_rd (i:=0) hw rfl)
  intro v' w hw;obtain⟨q',m',d',rfl,-,-,-⟩:=hw.own_shape (i:=2) rfl
  have hw:Wd Γ1 (.own (.slice q' m' d') 3 1 (A8 (([]:List Int)++(H.Cores.take (k+1)).map (fun c=>c.Node)))::g0::.blk b1 (J2 H a1 n1 c1 a2 n2 c2 a3 n3 c3 a4 n4 c4 a5 n5 c5)::S) w:=by
   rw[←t8 (f:=fun c:F0=>c.Node) hx];exact hw.drop.drop
  refine A6 ?_;exact⟨μ-1,by omega,k+1,_,_,_,by omega,⟨rfl,rfl,rfl,rfl,rfl,rfl,trivial⟩,hw⟩
 have hkn:¬k<n1:=by simpa using h
 rw[List.take_of_length_le (l:=H.Cores) (by omega)]at hw
 clear h hkn hρ hk hm;rw[List.nil_append]at hw;rw[show H.Cores.map (fun c=>c.Node)=(H.Cores.map (fun c=>c.Node)++(H.Mems.take 0).map (fun c=>c.Node)) from by simp]at hw
 refine A6 ?_;refine B3 (fun μ ρ w=>∃(k:Nat) (q:Option Addr) (m d:Nat),μ+k=n4∧Has ρ [(1,.pointer (some ⟨b1,0,none⟩)),(4,v0),(6,.slice q m d),(41,.slice a4 n4 c4),(42,.int .i64 n4),(43,.int .i64 k)]∧Wd Γ1 (.own (.slice q m d) 3 1 (A8 (H.Cores.map (fun c=>c.Node)++(H.Mems.take k).map (fun c=>c.Node)))::g0::.blk b1 (J2 H a1 n1 c1 a2 n2 c2 a3 n3 c3 a4 n4 c4 a5 n5 c5)::S) w) n4 ⟨0,_,_,_,by omega,⟨rfl,rfl,rfl,rfl,rfl,rfl,trivial⟩,hw⟩ ?_
 clear hw;rintro μ ρ w ⟨k,q,m,d,hk,hρ,hw⟩
 have hm:=Q8 (i:=0) hw rfl
 simp only[A8,List.length_map,List.length_append,List.length_nil,List.length_take]at hm
 rw[hρ.eq];refine A6 ?_;refine A0 rfl (fun h=>?_) (fun h=>?_)
 ·have hkn:k<n4:=by simpa using h
  obtain⟨x,hx⟩:=B2 (l:=H.Mems) (k:=k) (by omega)
  refine A6 ?_;refine B9 ?_;intro b9 w hw;refine B0 ?_;intro w hw;have hw:Wd Γ1 (.blk b9 (.cells (enc x).toArray 58)::.own (.slice q m d) 3 1 (A8 (H.Cores.map (fun c=>c.Node)++(H.Mems.take k).map (fun c=>c.Node)))::g0::.blk b1 (J2 H a1 n1 c1 a2 n2 c2 a3 n3 c3 a4 n4 c4 a5 n5 c5)::S) w:=hw
  refine A6 ?_;refine B5 [[.int .i64 x.Node]] ?_
  intro ab w hw;refine T3 (i:=2) (rows2:=[[.int .i64 x.Node]]) ?_ (Wd.own_rd (i:=0) hw rfl)
  intro v' w hw;obtain⟨q',m',d',rfl,-,-,-⟩:=hw.own_shape (i:=2) rfl
  have hw:Wd Γ1 (.own (.slice q' m' d') 3 1 (A8 (H.Cores.map (fun c=>c.Node)++(H.Mems.take (k+1)).map (fun c=>c.Node)))::g0::.blk b1 (J2 H a1 n1 c1 a2 n2 c2 a3 n3 c3 a4 n4 c4 a5 n5 c5)::S) w:=by
   rw[←t8 (f:=fun c:I3=>c.Node) hx];exact hw.drop.drop
  refine A6 ?_;exact⟨μ-1,by omega,k+1,_,_,_,by omega,⟨rfl,rfl,rfl,rfl,rfl,rfl,trivial⟩,hw⟩
 have hkn:¬k<n4:=by simpa using h
 rw[List.take_of_length_le (l:=H.Mems) (by omega)]at hw
 clear h hkn hρ hk hm;rw[show (H.Cores.map (fun c=>c.Node)++H.Mems.map (fun c=>c.Node))=((H.Cores.map (fun c=>c.Node)++H.Mems.map (fun c=>c.Node))++(H.Devs.take 0).map (fun c=>c.Node)) from by simp]at hw
 refine A6 ?_;refine B3 (fun μ ρ w=>∃(k:Nat) (q:Option Addr) (m d:Nat),μ+k=n5∧Has ρ [(1,.pointer (some ⟨b1,0,none⟩)),(4,v0),(6,.slice q m d),(54,.slice a5 n5 c5),(55,.int .i64 n5),(56,.int .i64 k)]∧Wd Γ1 (.own (.slice q m d) 3 1 (A8 ((H.Cores.map (fun c=>c.Node)++H.Mems.map (fun c=>c.Node))++(H.Devs.take k).map (fun c=>c.Node)))::g0::.blk b1 (J2 H a1 n1 c1 a2 n2 c2 a3 n3 c3 a4 n4 c4 a5 n5 c5)::S) w) n5 ⟨0,_,_,_,by omega,⟨rfl,rfl,rfl,rfl,rfl,rfl,trivial⟩,hw⟩ ?_
 clear hw;rintro μ ρ w ⟨k,q,m,d,hk,hρ,hw⟩
 have hm:=Q8 (i:=0) hw rfl
 simp only[A8,List.length_map,List.length_append,List.length_nil,List.length_take]at hm
 rw[hρ.eq];refine A6 ?_;refine A0 rfl (fun h=>?_) (fun h=>?_)
 ·have hkn:k<n5:=by simpa using h
  obtain⟨x,hx⟩:=B2 (l:=H.Devs) (k:=k) (by omega)
  refine A6 ?_;refine B9 ?_;intro b9 w hw;refine B0 ?_;intro w hw;have hw:Wd Γ1 (.blk b9 (.cells (enc x).toArray 131)::.own (.slice q m d) 3 1 (A8 ((H.Cores.map (fun c=>c.Node)++H.Mems.map (fun c=>c.Node))++(H.Devs.take k).map (fun c=>c.Node)))::g0::.blk b1 (J2 H a1 n1 c1 a2 n2 c2 a3 n3 c3 a4 n4 c4 a5 n5 c5)::S) w:=hw
  refine A6 ?_;refine B5 [[.int .i64 x.Node]] ?_
  intro ab w hw;refine T3 (i:=2) (rows2:=[[.int .i64 x.Node]]) ?_ (Wd.own_rd (i:=0) hw rfl)
  intro v' w hw;obtain⟨q',m',d',rfl,-,-,-⟩:=hw.own_shape (i:=2) rfl
  have hw:Wd Γ1 (.own (.slice q' m' d') 3 1 (A8 ((H.Cores.map (fun c=>c.Node)++H.Mems.map (fun c=>c.Node))++(H.Devs.take (k+1)).map (fun c=>c.Node)))::g0::.blk b1 (J2 H a1 n1 c1 a2 n2 c2 a3 n3 c3 a4 n4 c4 a5 n5 c5)::S) w:=by
   rw[←t8 (f:=fun c:AA=>c.Node) hx];exact hw.drop.drop
  refine A6 ?_;exact⟨μ-1,by omega,k+1,_,_,_,by omega,⟨rfl,rfl,rfl,rfl,rfl,rfl,trivial⟩,hw⟩
 have hkn:¬k<n5:=by simpa using h
 rw[List.take_of_length_le (l:=H.Devs) (by omega)]at hw
 clear h hkn hρ hk hm;have hw:Wd Γ1 (.own (.slice q m d) 3 1 (l9 (F9 H))::g0::.blk b1 (J2 H a1 n1 c1 a2 n2 c2 a3 n3 c3 a4 n4 c4 a5 n5 c5)::S) w:=hw
 have hul:(F9 H).length≤128:=by unfold F9;simp;omega
 refine A6 ?_;refine C9 ((Sort_int LW (F9 H) (.slice q m d) (i:=0) hw rfl (by omega)).mono fun e w hq=>?_)
 clear hw;obtain⟨rfl,hw⟩:=hq;refine⟨_,rfl,?_⟩;obtain⟨Y,hY⟩:∃Y,Y=(F9 H).mergeSort fun x y=>decide (x≤y):=⟨_,rfl⟩
 rw[←hY]at hw;have hYp:Y.Perm (F9 H):=by rw[hY];exact List.mergeSort_perm _ _
 have hYs:Y.Pairwise (·≤·):=by
  rw[hY];have:=List.pairwise_mergeSort (le:=fun x y:Int=>decide (x≤y)) (fun a b c h1 h2=>by simp at *;omega) (fun a b=>by simp;omega) (F9 H)
  exact this.imp fun h=>by simpa using h
 clear hY;have hYl:Y.length≤128:=by rw[hYp.length_eq];exact hul
 have hw:Wd Γ1 (.own (.slice q m d) 3 1 (l9 Y)::g0::.blk b1 (J2 H a1 n1 c1 a2 n2 c2 a3 n3 c3 a4 n4 c4 a5 n5 c5)::S) w:=hw
 refine A6 ?_;refine C9 ((NI TW Y (i:=0) hw rfl (by omega)).mono fun e w hq=>?_)
 clear hw;obtain⟨rfl,zs,hw⟩:=hq;refine⟨_,rfl,?_⟩;obtain⟨X,hX⟩:∃X,X=Go.Lib.compact Y:=⟨_,rfl⟩
 rw[←hX]at hw ⊢
 have hXm:∀x,x∈X↔x∈F9 H:=fun x=>by rw[hX,PF];exact hYp.mem_iff
 have hXs:X.Pairwise (· < ·):=by rw[hX];exact Nq hYs
 have hXn:X.Nodup:=hXs.imp fun h=>by omega
 have hXr:∀x∈X,0≤x∧x<64:=fun x hx=>hN x ((hXm x).1 hx)
 have hXl:X.length≤64:=by
  have h1:(X.map Int.toNat).Nodup:=by
   rw[List.Nodup,List.pairwise_map];refine List.Pairwise.imp_of_mem (fun {x y} hx hy hlt he=>?_) hXs
   have:=hXr x hx
   have:=hXr y hy
   omega
  have:=Mk.nodup_le 64 _ h1 fun x hx=>by
   obtain⟨y,hy,rfl⟩:=List.mem_map.1 hx
   have:=hXr y hy
   omega
  rwa [List.length_map]at this
 clear hX hYp hYs;have hw:Wd Γ1 (.own (.slice q m d) 3 1 (l9 (X++zs))::g0::.blk b1 (J2 H a1 n1 c1 a2 n2 c2 a3 n3 c3 a4 n4 c4 a5 n5 c5)::S) w:=hw
 obtain⟨Γ2,hle2,hrz,hw⟩:=hw.freeze;have hxlen:m=(X++zs).length:=by have:=(C0 hrz).1;simpa[l9] using this
 have hrX:D7 Γ2 (.slice q X.length d) 1 (A8 X):=by
  have:=hrz.cut (l:=0) (h:=X.length) (by omega) (by rw[hxlen,List.length_append];omega)
  rw[Ha,List.drop_zero,Nat.sub_zero,Nat.sub_zero]at this;have e:(l9 (X++zs)).take X.length=A8 X:=by simp[l9,A8]
  rwa [e]at this
 have hXc:=(C0 hrX).2
 rw[hg0]at hw;clear hg0;have hfo:∀f∈fs0,BG Γ2 f:=fun f hf=>((hfo0 f hf).1).mono hle2
 have hle02:=hle1.trans hle2
 have hfs:facts fs0=O4 (G1 H)++(X.take 0).flatMap (fun a=>X.map (W1 H a)):=by rw[hfs0,List.take_zero];simp
 clear hfs0 hfo0 hrz;have hD:∀k,((X.take k).flatMap fun a=>X.map (W1 H a)).length≤4096:=fun k=>by
  have h1:=MN (m:=X.length) (f:=fun a=>X.map (W1 H a)) (l:=X.take k) fun a _=>by rw[List.length_map];exact Nat.le_refl _
  have h2:(X.take k).length≤64:=by rw[List.length_take];omega
  exact Nat.le_trans h1 (Nat.le_trans (Nat.mul_le_mul h2 hXl) (by decide))
 refine A6 ?_;refine B3 (fun μ ρ w=>∃(i:Nat) (gv:Value) (Γ':C8) (fs:List D1),μ+i=X.length∧Has ρ [(1,.pointer (some ⟨b1,0,none⟩)),(4,gv),(6,.slice q X.length d),(13,.func (.func 70) #[] #[]),(70,.slice q X.length d),(71,.int .i64 X.length),(72,.int .i64 i)]∧Γ2.le Γ'∧(∀f∈fs,BG Γ' f)∧facts fs=O4 (G1 H)++(X.take i).flatMap (fun a=>X.map (W1 H a))∧Wd Γ' (.own gv 80 2 (fs.map cF)::.blk b1 (J2 H a1 n1 c1 a2 n2 c2 a3 n3 c3 a4 n4 c4 a5 n5 c5)::S) w) X.length ⟨0,_,Γ2,fs0,by omega,⟨rfl,rfl,rfl,rfl,rfl,rfl,rfl,trivial⟩,C8.le.refl _,hfo,hfs,hw⟩ ?_
 clear hw hfo hfs;rintro μ ρ w ⟨i,gv,Γ',fs,hi,hρ,hle,hfo,hfs,hw⟩
 rw[hρ.eq];clear hρ;have hrX1:=hrX.mono hle
 refine A6 ?_;refine A0 rfl (fun h=>?_) (fun h=>?_)
 ·have hin:i<X.length:=by have:=of_decide_eq_true h;omega
  clear h;obtain⟨a,hxa⟩:=B2 (l:=X) (k:=i) hin
  have har:=hXr a (List.mem_of_getElem? hxa)
  refine A6 ?_;have hRR:=(hh'.mono hle1).mono (hle2.trans hle)
  refine C9 ((Kl (hh:=hRR) hLk har hw).mono fun e w hq=>?_)
  clear hw;obtain⟨vo,O,rfl,hOl,hOd,hw⟩:=hq;refine⟨_,rfl,?_⟩;obtain⟨ao,no,co,rfl,hno,hnoc,hco⟩:=hw.own_shape (i:=0) rfl
  obtain⟨Γ3,hle3,hrO,hw⟩:=hw.freeze;simp only[A8,List.length_map]at hno
  have hle':=hle.trans hle3
  have hfo3:∀f∈fs,BG Γ3 f:=fun f hf=>(hfo f hf).mono hle3
  have hfs3:facts fs=(O4 (G1 H)++(X.take i).flatMap (fun a=>X.map (W1 H a)))++(X.take 0).map (W1 H a):=by rw[hfs,List.take_zero,List.map_nil,List.append_nil]
  have hDi:=hD i
  refine A6 ?_;refine B3 (fun μ2 ρ w=>∃(j:Nat) (gv:Value) (Γ':C8) (fs:List D1),μ2+j=X.length∧Has ρ [(1,.pointer (some ⟨b1,0,none⟩)),(4,gv),(6,.slice q X.length d),(13,.func (.func 70) #[] #[]),(15,.int .i64 a),(16,.slice ao no co),(70,.slice q X.length d),(71,.int .i64 X.length),(72,.int .i64 i),(79,.slice q X.length d),(80,.int .i64 X.length),(81,.int .i64 j)]∧Γ3.le Γ'∧(∀f∈fs,BG Γ' f)∧facts fs=(O4 (G1 H)++(X.take i).flatMap (fun a=>X.map (W1 H a)))++(X.take j).map (W1 H a)∧Wd Γ' (.own gv 80 2 (fs.map cF)::.blk b1 (J2 H a1 n1 c1 a2 n2 c2 a3 n3 c3 a4 n4 c4 a5 n5 c5)::S) w) X.length ⟨0,gv,Γ3,fs,by omega,⟨rfl,rfl,rfl,rfl,rfl,rfl,rfl,rfl,rfl,rfl,rfl,rfl,trivial⟩,C8.le.refl _,hfo3,hfs3,hw⟩ ?_
  clear hw hfo hfs hfo3 hfs3;rintro μ2 ρ w ⟨j,gv,Γ',fs,hj,hρ,hle4,hfo,hfs,hw⟩
  rw[hρ.eq];clear hρ;obtain⟨ag,ng,cg,rfl,hng,-,-⟩:=hw.own_shape (i:=0) rfl
  rw[List.length_map]at hng;have hfl:fs.length≤10000:=by
   have h1:(facts fs).length=fs.length:=List.length_map ..
   rw[hfs,List.length_append,List.length_append,List.length_map,List.length_take]at h1;omega
  have hrX2:=hrX.mono (hle'.trans hle4)
  have hrO2:=hrO.mono hle4
  refine A6 ?_;refine A0 rfl (fun h=>?_) (fun h=>?_)
  ·have hjn:j<X.length:=by have:=of_decide_eq_true h;omega
   clear h;obtain⟨b,hxb⟩:=B2 (l:=X) (k:=j) hjn
   have hbr:=hXr b (List.mem_of_getElem? hxb)
   obtain⟨y,hy⟩:=B2 (l:=O) (k:=b.toNat) (by omega)
   have hyb:Da O b=y:=by unfold Da;rw[List.getD_eq_getElem?_getD,hy];rfl
   have hyd:=(hOd b hbr.1 hbr.2).1.eq
   rw[hyb]at hyd;rw[←hyd]at hy;refine A6 ?_;refine dm [] (.own (.slice ag ng cg) 80 2 (fs.map cF)::.blk b1 (J2 H a1 n1 c1 a2 n2 c2 a3 n3 c3 a4 n4 c4 a5 n5 c5)::S) [98,99,100,101] 4 (.slice ag ng cg) [[],[],[],[],[],[],[],[],[],[],[],[],[],[0],[0],[0],[0],[0,1]] [[1],[],[],[],[],[],[],[],[],[],[],[],[],[0],[0],[0],[0],[0,1]] hw ?_
   refine ea (dd:=4) ?_
   repeat(first|refine gi ?_|refine mY ?_|refine mP ?_|refine mPg ?_|refine mY (v:=.pointer (some ⟨aB ao,aO ao+b.toNat*1,none⟩)) ?_ (hy:=fun Y w g hw=>AF (hrO2.rd hw) rfl rfl (by omega) (by omega))|refine mY (v:=.int .i64 (S2 (G0 H.Links) a b)) ?_ (hy:=fun Y w g hw=>G6 (k:=b.toNat) rfl (hrO2.rd hw) (B8 hy)))
   refine Mg (v:=undef) (T':=Value) (fun t g=>g 98=t) (fun t=>.own t 65 3 (([iF a,iF b,iF (S2 (G0 H.Links) a b)]:List Val).map enc)::(.own (.slice ag ng cg) 80 2 (fs.map cF)::.blk b1 (J2 H a1 n1 c1 a2 n2 c2 a3 n3 c3 a4 n4 c4 a5 n5 c5)::S)) (fun t g w Y _ hw=>R4 (rws:=([iF a,iF b,iF (S2 (G0 H.Links) a b)]:List Val).map enc) hw rfl rfl rfl (fun r hr=>by obtain⟨v,_,rfl⟩:=List.mem_map.1 hr;rfl) (by decide) fun q w' hw'=>⟨_,rfl,(fun h=>by cases h),hw'⟩) ?_
   refine Mg (φ:=fun (t:Value) g=>g 98=t) (R:=fun t=>.own t 65 3 (([iF a,iF b,iF (S2 (G0 H.Links) a b)]:List Val).map enc)::(.own (.slice ag ng cg) 80 2 (fs.map cF)::.blk b1 (J2 H a1 n1 c1 a2 n2 c2 a3 n3 c3 a4 n4 c4 a5 n5 c5)::S)) (v:=undef) (T':=D1) (fun t g=>g 99=.agg (cF t).toArray∧t.fact=W1 H a b) (fun t=>.own t.hdr 65 3 (t.Args.map enc)::(.own (.slice ag ng cg) 80 2 (fs.map cF)::.blk b1 (J2 H a1 n1 c1 a2 n2 c2 a3 n3 c3 a4 n4 c4 a5 n5 c5)::S)) (fun t g w Y ht hw=>?_) ?_
   ·obtain⟨a9,n9,c9,rfl,-,-,-⟩:=hw.own_shape (i:=0) rfl
    have ht:g 98=.slice a9 n9 c9:=ht
    refine Mk.Yields.step (v:=.agg (cF ⟨Bt,a9,n9,c9,[iF a,iF b,iF (S2 (G0 H.Links) a b)]⟩).toArray) (V8 ?_) ⟨⟨Bt,a9,n9,c9,[iF a,iF b,iF (S2 (G0 H.Links) a b)]⟩,⟨rfl,rfl⟩,(fun h=>by cases h),hw⟩
    show r8 _ _ [(0,_),(1,g 98)]=_
    rw[ht];rfl
   refine Mg (φ:=fun (t:D1) g=>g 99=.agg (cF t).toArray∧t.fact=W1 H a b) (R:=fun t=>.own t.hdr 65 3 (t.Args.map enc)::(.own (.slice ag ng cg) 80 2 (fs.map cF)::.blk b1 (J2 H a1 n1 c1 a2 n2 c2 a3 n3 c3 a4 n4 c4 a5 n5 c5)::S)) (v:=undef) (T':=Value×D1) (fun t g=>g 100=t.1∧t.2.fact=W1 H a b) (fun t=>.own t.1 80 2 [cF t.2]::.own t.2.hdr 65 3 (t.2.Args.map enc)::(.own (.slice ag ng cg) 80 2 (fs.map cF)::.blk b1 (J2 H a1 n1 c1 a2 n2 c2 a3 n3 c3 a4 n4 c4 a5 n5 c5)::S)) (fun t g w Y ht hw=>R4 (rws:=[cF t]) (cells:=cF t) hw ?_ (by simp) rfl (by simp[cF]) (by decide) fun q w' hw'=>⟨(_,t),⟨rfl,ht.2⟩,(fun h=>by cases h),hw'⟩) ?_
   ·have h1:g 99=.agg (cF t).toArray:=ht.1
    show r8 _ _ [(0,g 99)]=_
    rw[h1];rfl
   refine Mg (φ:=fun (t:Value×D1) g=>g 100=t.1∧t.2.fact=W1 H a b) (R:=fun t=>.own t.1 80 2 [cF t.2]::.own t.2.hdr 65 3 (t.2.Args.map enc)::(.own (.slice ag ng cg) 80 2 (fs.map cF)::.blk b1 (J2 H a1 n1 c1 a2 n2 c2 a3 n3 c3 a4 n4 c4 a5 n5 c5)::S)) (v:=undef) (T':=Value×D1) (fun t g=>g 101=t.1∧t.2.fact=W1 H a b) (fun t=>.own t.1 80 2 (fs.map cF++[cF t.2])::.own t.2.hdr 65 3 (t.2.Args.map enc)::.blk b1 (J2 H a1 n1 c1 a2 n2 c2 a3 n3 c3 a4 n4 c4 a5 n5 c5)::S) (fun t g w Y ht hw=>?_) ?_
   ·obtain⟨t1,f⟩:=t;obtain⟨a9,n9,c9,rfl,hn9,-,-⟩:=hw.own_shape (i:=0) rfl
    simp at hn9
    exact EH (i:=2) (rows2:=[cF f]) hw rfl ht.1 rfl (Wd.own_rd (i:=0) hw rfl) (by simp;omega) (Mq [f]) (by omega) (by omega) fun v' w' hw'=>⟨(v',f),⟨rfl,ht.2⟩,(fun h=>by cases h),hw'.drop.ps [1]⟩
   refine fS (φ:=fun (t:Value×D1) g=>g 101=t.1∧t.2.fact=W1 H a b) (dx:=101) (dd:=4) (fun t g=>g 4=t.1∧t.2.fact=W1 H a b) (fun t g ht=>ht) ?_
   refine fb (φ:=fun (t:Value×D1) g=>g 4=t.1∧t.2.fact=W1 H a b) fun t w g ht hw=>?_
   obtain⟨t1,f⟩:=t;obtain⟨Γ2,hle2,hokf,hw⟩:=(hw.ps [1]).freeze
   refine Ty (l:=[(1,.pointer (some ⟨b1,0,none⟩)),(6,.slice q X.length d),(13,.func (.func 70) #[] #[]),(15,.int .i64 a),(16,.slice ao no co),(70,.slice q X.length d),(71,.int .i64 X.length),(72,.int .i64 i),(79,.slice q X.length d),(80,.int .i64 X.length),(81,.int .i64 j),(4,t1)]) ⟨rfl,rfl,rfl,rfl,rfl,rfl,rfl,rfl,rfl,rfl,rfl,ht.1,trivial⟩ fun ρ hρ=>?_
   have hff:f.fact=W1 H a b:=ht.2
   rw[hρ.eq];clear hρ ht;rw[show fs.map cF++[cF f]=(fs++[f]).map cF from by simp]at hw
   have hok2:∀x∈fs++[f],BG Γ2 x:=fun x hx=>(List.mem_append.1 hx).elim (fun h=>(hfo x h).mono hle2) fun h=>by rw[List.mem_singleton.1 h];exact hokf
   have hw:Wd Γ2 (.own t1 80 2 ((fs++[f]).map cF)::.blk b1 (J2 H a1 n1 c1 a2 n2 c2 a3 n3 c3 a4 n4 c4 a5 n5 c5)::S) w:=Wd.left (S:=.own t1 80 2 ((fs++[f]).map cF)::.blk b1 (J2 H a1 n1 c1 a2 n2 c2 a3 n3 c3 a4 n4 c4 a5 n5 c5)::S) hw
   refine A6 ?_;refine⟨μ2-1,by omega,j+1,t1,Γ2,fs++[f],by omega,⟨rfl,rfl,rfl,rfl,rfl,rfl,rfl,rfl,rfl,rfl,rfl,rfl,trivial⟩,hle4.trans hle2,hok2,?_,hw⟩
   have h1:facts (fs++[f])=facts fs++[f.fact]:=by unfold facts;rw[List.map_append];rfl
   rw[h1,hfs,hff,D4 hxb,List.map_append,←List.append_assoc];rfl
  ·have hjn:X.length≤j:=by have:=of_decide_eq_false h;omega
   clear h;rw[List.take_of_length_le (l:=X) (i:=j) (by omega)]at hfs
   refine A6 ?_;refine⟨μ-1,by omega,i+1,_,Γ',fs,by omega,⟨rfl,rfl,rfl,rfl,rfl,rfl,rfl,trivial⟩,hle'.trans hle4,hfo,?_,hw⟩
   rw[hfs,D4 hxa,List.flatMap_append,List.append_assoc];simp
 ·have hin:X.length≤i:=by have:=of_decide_eq_false h;omega
  clear h;rw[List.take_of_length_le (l:=X) (i:=i) (by omega)]at hfs
  have hfs:facts fs=O4 (G1 H)++BU H X:=hfs
  have hDl:=hD X.length
  rw[List.take_length]at hDl;have hfl:fs.length≤6593:=by
   have h1:(facts fs).length=fs.length:=List.length_map ..
   have h2:(BU H X).length≤4096:=hDl
   rw[hfs,List.length_append]at h1;omega
  refine A6 ?_;refine C9 (vs:=[gv,.func (.func 73) #[] #[]]) ?_
  refine(KJ fs gv hfo (by omega) hw).mono ?_
  clear hw;rintro e w ⟨rfl,gs,hp,hs,hw⟩
  refine⟨_,rfl,?_⟩;have hgs:=WO hp hs (by rw[hfs];exact YU hV hXn)
  have hgl:gs.length=fs.length:=hp.length_eq
  obtain⟨ag,ng,cg,rfl,hng,-,-⟩:=hw.own_shape (i:=0) rfl
  rw[List.length_map]at hng;refine A6 ?_;refine A0 rfl (fun h=>?_) (fun _=>?_)
  ·exfalso
   have:=of_decide_eq_true h
   omega
  refine A6 ?_;refine⟨_,rfl,Γ',_,gs,hle02.trans hle,rfl,?_,fun f hf=>⟨hfo f (hp.mem_iff.1 hf),?_⟩,hw.dropAt 1⟩
  ·rw[if_pos rfl,hgs,hfs];refine eO fun f=>?_
   rw[List.mem_append,Bu];have e1:f∈O4 (G1 H)↔f∈G1 H:=by unfold O4;exact As J8
   rw[e1];refine or_congr Iff.rfl ⟨fun⟨a,ha,b,hb,h⟩=>⟨a,(hXm a).1 ha,b,(hXm b).1 hb,h⟩,fun⟨a,ha,b,hb,h⟩=>⟨a,(hXm a).2 ha,b,(hXm b).2 hb,h⟩⟩
  ·have hm:f.fact∈facts fs:=List.mem_map.2 ⟨f,hp.mem_iff.1 hf,rfl⟩
   rw[hfs,List.mem_append]at hm;rcases hm with hm|hm
   ·refine dI hV _ ?_
    have e1:f.fact∈O4 (G1 H)↔f.fact∈G1 H:=by unfold O4;exact As J8
    exact e1.1 hm
   ·obtain⟨a,ha,b,hb,he⟩:=Bu.1 hm
    rw[he];have h1:=hXr a ha
    have h2:=hXr b hb
    have h3:=MO (x:=b) hLk h1
    refine⟨by show 3≤100000;decide,by show Bt.size≤100000;decide,fun x hx=>?_⟩
    have hx:x∈[iF a,iF b,iF (S2 (G0 H.Links) a b)]:=hx
    simp only[List.mem_cons,List.not_mem_nil,or_false]at hx
    rcases hx with rfl|rfl|rfl
    ·exact AK (by omega)
    ·exact AK (by omega)
    ·exact AK (by omega)
end Go.Proofs.YtlmiakjbogojgaaGreatDoor
end
section
open Go Mk
namespace Go.Proofs.YtlmiakjbogojgaaGreatDoor
set_option maxHeartbeats 16000000
attribute [local irreducible] Calls I7
def NM(u:Nat):ByteArray:=⟨(Lib.decDigits u).toArray⟩
def fW:ByteArray:=⟨#[48,49,50,51,52,53,54,55,56,57]⟩
theorem gU:∀d:Nat,d<10→G2 fW d (d+1)=⟨#[UInt8.ofNat (48+d)]⟩
 | 0,_=>rfl
 | 1,_=>rfl
 | 2,_=>rfl
 | 3,_=>rfl
 | 4,_=>rfl
 | 5,_=>rfl
 | 6,_=>rfl
 | 7,_=>rfl
 | 8,_=>rfl
 | 9,_=>rfl
 | d+10,h=>by omega
theorem dG{P:Program}{ρ:Fr}{w:World}{d:Option Tmp}{T ty:TypeId}{pos:String}{es:Array Edge}{g:Option (Nat×Bool)}{x lo hi:Operand}{m:Nat}{l h:Int}[En P T](hm:m<10)(hx:ev ρ x=.string fW)(hl:ev ρ lo=.int .u64 l)(hh:ev ρ hi=.int .u64 h)(e1:l=((m:Nat):Int))(e2:h=((m+1:Nat):Int)) :
  Mk.Yields P ⟨d,.slice T x (some lo) (some hi) none,ty,pos,es,g⟩ ρ w (.string ⟨#[UInt8.ofNat (48+m)]⟩):=by
 subst e1;subst e2;have:=d9 (P:=P) (d:=d) (T:=T) (ty:=ty) (pos:=pos) (es:=es) (g:=g) (w:=w) hx hl hh (by omega) (by omega) (show ((m+1:Nat):Int)≤((10:Nat):Int) by omega)
 rw[show ((m:Nat):Int).toNat=m from rfl,show ((m+1:Nat):Int).toNat=m+1 from rfl,gU m hm]at this;exact this
theorem Ju(b:UInt8):(⟨#[b]⟩:ByteArray).size=1:=rfl
theorem Wh{u:Nat}(h:u<18446744073709551616):(Lib.decDigits u).length≤20:=by
 rw[Lib.decDigits_length];exact Fc 19 u (by omega)
theorem KE(u:Nat)(h:u<18446744073709551616):PC Tryz.prog 74 [.int .u64 (u:Nat)] (.string (NM u)):=⟨fun w=>by
 have hL:=Wh h
 refine A7 Tryz.func74 rfl rfl ?_
 refine A6 ?_;refine B3 (fun μ ρ w'=>∃(t:List UInt8),μ<18446744073709551616∧Has ρ [(0,.int .u64 (μ:Nat)),(3,.string ⟨t.toArray⟩)]∧Lib.decDigits u=Lib.decDigits μ++t∧w'=w) u ⟨[],h,⟨rfl,rfl,trivial⟩,by simp,rfl⟩ ?_
 rintro μ ρ w' ⟨t,hμ,hρ,hd,rfl⟩
 rw[hρ.eq];have ht:t.length≤20:=by rw[hd,List.length_append]at hL;omega
 have hts:(⟨t.toArray⟩:ByteArray).size=t.length:=by show t.toArray.size=_;simp
 refine A6 ?_;refine A0 rfl (fun h1=>?_) (fun h1=>?_)
 ·have h1:10≤μ:=by have:=of_decide_eq_true h1;omega
  refine A6 ?_;have e1:((μ:Nat):Int).tmod 10=((μ%10:Nat):Int):=by
   rw[Int.tmod_eq_emod_of_nonneg (by omega)];omega
  have e2:IntKind.u64.wrap (((μ:Nat):Int).tmod 10+1)=((μ%10+1:Nat):Int):=by
   rw[e1,IntKind.wrap_u64];omega
  refine lY (v:=.string ⟨#[UInt8.ofNat (48+μ%10)]⟩) ?_ (hy:=dG (m:=μ%10) (by omega) rfl rfl rfl e1 e2)
  refine A6 ?_;refine lY (v:=.string (⟨#[UInt8.ofNat (48+μ%10)]⟩++⟨t.toArray⟩)) ?_ (hy:=AG rfl rfl (by rw[hts,Ju];omega))
  refine A6 ?_;have e3:((μ:Nat):Int).tdiv 10=((μ / 10:Nat):Int):=by
   rw[Int.tdiv_eq_ediv_of_nonneg (by omega)];omega
  refine⟨μ / 10,by omega,UInt8.ofNat (48+μ%10)::t,by omega,⟨?_,?_,trivial⟩,?_,rfl⟩
  ·show Value.int .u64 (IntKind.u64.wrap (((μ:Nat):Int).tdiv 10))=_
   rw[e3,IntKind.wrap_u64];congr 1
   omega
  ·show Value.string _=_
   congr 1
  ·rw[hd,Lib.decDigits,dif_neg (by omega)];simp
 ·have h1:μ<10:=by have:=of_decide_eq_false h1;omega
  refine A6 ?_;have e2:IntKind.u64.wrap (((μ:Nat):Int)+1)=((μ+1:Nat):Int):=by
   rw[IntKind.wrap_u64];omega
  refine lY (v:=.string ⟨#[UInt8.ofNat (48+μ)]⟩) ?_ (hy:=dG (m:=μ) h1 rfl rfl rfl rfl e2)
  refine A6 ?_;refine lY (v:=.string (⟨#[UInt8.ofNat (48+μ)]⟩++⟨t.toArray⟩)) ?_ (hy:=AG rfl rfl (by rw[hts,Ju];omega))
  refine A6 ?_;refine⟨_,rfl,?_,rfl⟩
  show Ending.returned (.string _)=_
  congr 2
  refine BL ?_
  unfold NM;rw[Qf,W9,W9,hd,Lib.decDigits,dif_pos h1]⟩
theorem Md{Γ:C8}(v:Val)(hv:j8 v)(hr:L0 v=true):PG Tryz.prog Γ 21 [.agg (enc v).toArray,.bool false] (.string (NO v)):=⟨fun S w hw=>by
 obtain⟨⟨hv0,hv1⟩,-⟩:=hv;have hv2:=UZ hr
 haveI:SB v.Word:=⟨by omega⟩
 refine A7 Tryz.func21 rfl rfl ?_
 refine A6 ?_;refine H2 ?_;intro b2 w hw;have hw:Wd Γ (.blk b2 (.cells (enc v).toArray 65)::S) w:=hw
 refine A6 ?_;refine A0 rfl (fun h=>?_) (fun h=>?_)
 ·have h:(decide (v.Kind=1)&&decide (v.Num<0))=true:=h
  rw[Bool.and_eq_true,decide_eq_true_eq,decide_eq_true_eq]at h;obtain⟨hk,hneg⟩:=h;have hD:=KE v.Num.natAbs (by omega)
  have hE:NO v=⟨#[45]⟩++NM v.Num.natAbs:=by
   unfold NO Dy Lib.itoa;rw[if_pos hk,if_pos hneg];refine BL ?_
   unfold NM;rw[Qf,W9,W9];rfl
  rw[hE];have hDl:=Wh (u:=v.Num.natAbs) (by omega)
  have hDs:(NM v.Num.natAbs).size=(Lib.decDigits v.Num.natAbs).length:=by show (List.toArray _).size=_;simp
  refine A6 ?_;refine lP (v:=.string (NM v.Num.natAbs)) ?_ (hp:=hD) (ha:=EvL.cons ?_ EvL.nil)
  ·refine A6 ?_;refine lY (v:=.string (⟨#[45]⟩++NM v.Num.natAbs)) ?_ (hy:=AG rfl rfl (by rw[hDs,Ju];omega))
   refine A6 ?_;exact⟨_,rfl,rfl,hw.drop⟩
  ·show Value.int .u64 (IntKind.u64.wrap (IntKind.u64.wrap (-(v.Num+1))+1))=_
   congr 1
   rw[IntKind.wrap_u64,IntKind.wrap_u64];omega
 have h:¬(v.Kind=1∧v.Num<0):=fun q=>by
  have h:(decide (v.Kind=1)&&decide (v.Num<0))=false:=h
  rw[decide_eq_true q.1,decide_eq_true q.2]at h;cases h
 refine A6 ?_;refine A0 rfl (fun h2=>?_) (fun h2=>?_)
 ·have h2:v.Kind=1:=of_decide_eq_true h2
  have hn:¬v.Num<0:=fun q=>h ⟨h2,q⟩
  have hD:=KE v.Num.toNat (by omega)
  have hE:NO v=NM v.Num.toNat:=by
   unfold NO Dy Lib.itoa;rw[if_pos h2,if_neg hn];rfl
  rw[hE];refine A6 ?_;refine lP (v:=.string (NM v.Num.toNat)) ?_ (hp:=hD) (ha:=EvL.cons ?_ EvL.nil)
  ·refine A6 ?_;exact⟨_,rfl,rfl,hw.drop⟩
  ·show Value.int .u64 (IntKind.u64.wrap v.Num)=_
   congr 1
   rw[IntKind.wrap_u64];omega
 have h2:¬v.Kind=1:=of_decide_eq_false h2
 have hnm:F8 v.Word=s5 v.Word:=by
  unfold L0 EA at hr;simp only[Bool.or_eq_true,Bool.and_eq_true,decide_eq_true_eq]at hr
  unfold F8;rw[decide_eq_true (show v.Word.size≤24 from hr.elim (fun q=>absurd q.1 h2) (fun q=>q.2.2)),Bool.and_true]
 refine A6 ?_;refine A0 rfl (fun h3=>?_) (fun h3=>?_)
 ·have hE:NO v=v.Word:=by unfold NO;rw[if_neg h2,if_pos (by rw[hnm];simpa using h3)]
  rw[hE];refine A6 ?_;exact⟨_,rfl,rfl,hw.drop⟩
 ·have hE:NO v=(Cl++v.Word)++Cl:=by unfold NO;rw[if_neg h2,if_neg (by rw[hnm];simpa using h3)]
  rw[hE];refine A6 ?_;refine lY (v:=.string (Cl++v.Word)) ?_ (hy:=AG rfl rfl (by have:Cl.size=1:=rfl;have:(⟨#[34]⟩:ByteArray).size=1:=rfl;omega))
  refine A6 ?_;refine lY (v:=.string ((Cl++v.Word)++Cl)) ?_ (hy:=AG rfl rfl (by have:(⟨#[34]⟩:ByteArray).size=1:=rfl;have:Cl.size=1:=rfl;rw[ByteArray.size_append];omega))
  refine A6 ?_;exact⟨_,rfl,rfl,hw.drop⟩⟩
end Go.Proofs.YtlmiakjbogojgaaGreatDoor
end
section
open Go Mk
namespace Go.Proofs.YtlmiakjbogojgaaGreatDoor
set_option maxHeartbeats 16000000
theorem Qs{H:J6}(hv:D8 H=0){x:Int}(hx:x∈F9 H):Reach H.Links ((F9 H).headD 0) x:=by
 obtain⟨-,-,-,-,-,-,-,-,h9⟩:=S9 hv
 have hP:Po H:=by
  by_cases h:Po H
  ·exact h
  ·unfold GR at h9;rw[Fb h]at h9;cases h9
 exact hP x hx
set_option maxHeartbeats 8000000
section
variable {α β:Type}
theorem WH{R:α→α→Prop}(hs:∀x y,R x y→R y x):∀ {l:List α},l.Pairwise R→∀x∈l,∀y∈l,x≠y→R x y
 | [],_,x,hx,_,_,_=>by cases hx
 | a::l,h,x,hx,y,hy,e=>by
  rw[List.pairwise_cons]at h;rcases List.mem_cons.1 hx with rfl|hx1
  ·rcases List.mem_cons.1 hy with rfl|hy1
   ·exact absurd rfl e
   ·exact h.1 y hy1
  ·rcases List.mem_cons.1 hy with rfl|hy1
   ·exact hs _ _ (h.1 x hx1)
   ·exact WH hs h.2 x hx1 y hy1 e
end
theorem RF(x y:Int×Int)(h:q9 x y=true):q9 y x=true:=by
 unfold q9 at *
 rw[Bool.and_comm];exact h
set_option maxHeartbeats 16000000
theorem Kc{H:J6}(hv:D8 H=0):(H.Cores.map (·.ID)).Nodup:=by
 have hu:=(Br.1 hv).u
 unfold T6 at hu;simp only[Bool.and_eq_true,decide_eq_true_eq]at hu
 exact hu.2.1.1.1.1.1
section
variable {H:J6}{LS:List Int}{cap:Nat}{cs:List F0}{ys:List AA}{x:List Int}
end
attribute [local irreducible] Calls
def IV(s:ByteArray):List Value:=[.string s]
attribute [local irreducible] E4
theorem Uc{H:J6}(hv:D8 H=0){m:I3}(hm:m∈H.Mems):Reach H.Links ((F9 H).headD 0) m.Node:=
 Qs hv (by unfold F9;exact List.mem_append_left _ (List.mem_append_right _ (List.mem_map.2 ⟨m,hm,rfl⟩)))
theorem ZL{H:J6}(hv:D8 H=0){m:I3}(hm:m∈H.Mems){c:F0}(hc:c∈H.Cores):0≤N7 H c.Node m.Node∧N7 H c.Node m.Node≤63000000∧Ml H c.Node m.Node=N7 H c.Node m.Node:=by
 have hL:=W4 hv
 have h1:=RH hL (Bp hv hc) (Qx hv hc) (Uc hv hm)
 have h2:=(MO (x:=m.Node) hL (Bp hv hc)).2
 have h3:N7 H c.Node m.Node=S2 (G0 H.Links) c.Node m.Node:=by
  show (if S2 (G0 H.Links) c.Node m.Node<0 then BY else S2 (G0 H.Links) c.Node m.Node)=_
  rw[if_neg (by omega)]
 rw[h3];exact⟨h1,h2,rfl⟩
end Go.Proofs.YtlmiakjbogojgaaGreatDoor
end
section
open Go Mk
namespace Go.Proofs.YtlmiakjbogojgaaGreatDoor
theorem By{H:J6}(hv:D8 H=0):(H.Mems.map (·.Name)).Nodup:=by
 obtain⟨-,-,-,-,h5,-⟩:=S9 hv
 unfold T6 at h5;simp only[Bool.and_eq_true,decide_eq_true_eq]at h5
 exact h5.2.1.1.1.2
section
variable {D:Mx}{cs:List F0}{H:J6}{m:I3}
end
set_option maxHeartbeats 64000000
attribute [local irreducible] Calls
attribute [local irreducible] E4
def CQ(l:List (ByteArray×Int))(s:ByteArray):Int:=(G3 l s).getD 0
def Wt(l:List (ByteArray×Int))(x y:I3):Int:=Ch (cI (CQ l x.Name) (CQ l y.Name)) (cI x.Base y.Base)
theorem bG(a b:Int):NQ [a,b]=Ch a b:=by
 show Ch a (Ch b 0)=Ch a b
 rw[TU]
theorem Qk{Γ:C8}{S:List B6}{w:World}{v:Value}{xs:List I3}(hr:D7 Γ v 5 (xs.map enc))(hN:xs.length≤1000000)(hw:Wd Γ S w) :
  Calls Tryz.prog 57 #[v] w fun e w'=>∃v',e=.returned v'∧Wd Γ (.own v' 58 5 (xs.map enc)::S) w':=by
 obtain⟨a,n,c,rfl,hn,hnc,hc⟩:=hr.shape;have hn:n=xs.length:=by simpa using hn
 refine A7 Tryz.func57 rfl rfl ?_
 repeat first|refine E6 ?_|refine E7 ?_;intro w hw
 refine A0 rfl (fun h=>?_) (fun h=>?_)
 ·repeat first|refine E6 ?_|refine E7 ?_;intro w hw
  have hx:xs=[]:=by
   cases a with
   | none=>
    cases xs with
    | nil=>rfl
    | cons x xs=>have:=(hr.rd hw).at_ (by simp);cases this
   | some a=>cases h
  subst hx;exact⟨_,rfl,_,rfl,Wd.addNil hw⟩
 ·repeat first|refine E6 ?_|refine E7 ?_;intro w hw
  refine B5 [] ?_
  intro a2 w hw;repeat first|refine E6 ?_|refine E7 ?_;intro w hw
  refine T3 (i:=0) (rows2:=xs.map enc) ?_ (hr.rd hw) rfl rfl hw rfl (Jb _) (by simpa using hn)
  intro v' w hw;repeat first|refine E6 ?_|refine E7 ?_;intro w hw
  exact⟨_,rfl,v',rfl,by simpa using hw⟩
theorem Va{Γ:C8}{S:List B6}{w0:World}{i j b10 bm:Nat}{l:List (ByteArray×Int)}(hw0:Wd Γ S w0)(hj:S[j]? = some (.blk b10 (.cells #[.map (some bm)] 140)))(hi:S[i]? = some (B6.ms (fun n:Int=>Value.int .i64 n) bm l))(x y:I3) :
  Calls Tryz.prog 61 #[.agg (enc x).toArray,.agg (enc y).toArray,.pointer (some ⟨b10,0,none⟩)] w0 fun e w'=>e=.returned (.int .i64 (Wt l x y))∧∃S'',Wd (Ai w0) S'' w':=by
 haveI hB10:gG (Ai w0) b10 #[.map (some bm)] 140:=⟨hw0.at_blk hj⟩
 have hw:Wd (Ai w0) [] w0:=Ec w0
 have hlk:∀(S1:List B6) (w1:World),Wd (Ai w0) S1 w1→Wd (YI w1) [B6.ms (fun n:Int=>Value.int .i64 n) bm l] w1:=fun S1 w1 h1=>by
  obtain⟨es,clock,e1,-⟩:=hw0.at_mp hi
  exact bS hw0 hi ((h1.imm bm _ (show (Ai w0).imm bm=_ from e1)).trans e1.symm)
 rw[show Wt l x y=NQ [cI (CQ l x.Name) (CQ l y.Name),cI x.Base y.Base] from (bG _ _).symm]
 refine A7 Tryz.func61 rfl rfl ?_
 repeat first|refine E6 ?_|refine E7 ?_;intro w hw
 refine H2 ?_;intro b3 w hw;refine H2 ?_;intro b4 w hw;have hw:Wd (Ai w0) ([.blk b4 (.cells (enc y).toArray 58),.blk b3 (.cells (enc x).toArray 58)]++[]) w:=hw
 repeat first|refine E6 ?_|refine E7 ?_;intro w hw
 refine U0 [.blk b4 (.cells (enc y).toArray 58),.blk b3 (.cells (enc x).toArray 58)] [fun _=>[]] [[],[],[],[],[],[],[],[],[],[],[],[],[],[],[0],[],[]] [[],[],[],[],[],[],[],[],[],[],[],[],[],[],[0],[0],[]] [[20]] (by simpa[List.range,List.range.loop,ML] using hw) ?_
 refine mY (v:=.map (some bm)) ?_ (hy:=fun Y w g hw=>XP (hB:=hB10) hw rfl rfl)
 refine P3 ?_;refine mY (v:=.int .i64 (CQ l x.Name)) ?_ (hy:=fun Y w g hw=>O6 (i:=0) (hlk _ _ hw) rfl rfl rfl rfl)
 refine P3 ?_;refine mY (v:=.map (some bm)) ?_ (hy:=fun Y w g hw=>XP (hB:=hB10) hw rfl rfl)
 refine P3 ?_;refine mY (v:=.int .i64 (CQ l y.Name)) ?_ (hy:=fun Y w g hw=>O6 (i:=0) (hlk _ _ hw) rfl rfl rfl rfl)
 refine P3 ?_;refine p8 (c:=0) (cells:=[.int .i64 (cI (CQ l x.Name) (CQ l y.Name)),.int .i64 (cI x.Base y.Base)]) [[.int .i64 (cI (CQ l x.Name) (CQ l y.Name))],[.int .i64 (cI x.Base y.Base)]] ?_
 refine mC (v:=.int .i64 (NQ [cI (CQ l x.Name) (CQ l y.Name),cI x.Base y.Base])) (fun Y w g hw=>?_) rfl rfl rfl ?_
 ·have S3:Wd (Ai w0) (.blk b4 (.cells (enc y).toArray 58)::.blk b3 (.cells (enc x).toArray 58)::.own (g 20) 3 1 [[.int .i64 (cI (CQ l x.Name) (CQ l y.Name))],[.int .i64 (cI x.Base y.Base)]]::Y) w:=hw
  obtain⟨qa,qn,qc,hq,hqn,hqc,hqm⟩:=S3.own_shape (i:=2) rfl
  refine Ba (vs:=#[.slice qa qn qc]) ?_ ((MF [cI (CQ l x.Name) (CQ l y.Name),cI x.Base y.Base] S3 (by rw[←hq];exact P4.own (i:=2) S3 rfl)).mono fun e w' hq2=>?_)
  ·exact EvL.eqA (xs:=[.tmp 20]) (vs:=[.slice qa qn qc]) (EvL.cons (by exact hq) EvL.nil)
  ·obtain⟨rfl,ES⟩:=hq2;exact⟨_,rfl,rfl,ES⟩
 refine P3 ?_;refine V1 fun w g hw=>?_
 repeat first|refine E6 ?_|refine E7 ?_;intro w hw
 exact⟨_,rfl,rfl,_,hw⟩
def eA(D:Mx)(c:F0)(xs:List I3)(k:Nat)(l:List (ByteArray×Int)):Prop:=∀(j:Nat) (x:I3),j<k→xs[j]? = some x→G3 l x.Name=some (I0 D c x)
theorem Un{D:Mx}{c:F0}{xs:List I3}{k:Nat}{l:List (ByteArray×Int)}{m:I3}(h:eA D c xs k l)(hn:(xs.map (·.Name)).Nodup)(hm:xs[k]? = some m):eA D c xs (k+1) (j6 l m.Name (I0 D c m)):=fun j x hj hx=>by
 rw[Le];by_cases e:j=k
 ·subst e;rw[hm]at hx;cases hx;rw[if_pos rfl]
 ·rw[if_neg (fun e2=>e ?_)]
  ·exact h j x (by omega) hx
  ·have h1:(xs.map (·.Name))[k]? = some m.Name:=by rw[List.getElem?_map,hm];rfl
   have h2:(xs.map (·.Name))[j]? = some x.Name:=by rw[List.getElem?_map,hx];rfl
   exact(List.getElem?_inj (List.getElem?_eq_some_iff.1 h2).1 hn).1 (by rw[h1,h2,e2])
def Bz(H:J6)(id:Int)(ns:List ByteArray)(code:Int):Prop:=
 if D8 H≠0 then ns=[]∧code=D8 H else if (H0 H.Cores id).2=false then ns=[]∧code=57
 else ∃ys:List I3,ys.Perm H.Mems∧(ys.Pairwise fun a b=>I0 (N7 H) (H0 H.Cores id).1 a<I0 (N7 H) (H0 H.Cores id).1 b∨(I0 (N7 H) (H0 H.Cores id).1 a=I0 (N7 H) (H0 H.Cores id).1 b∧a.Base<b.Base))∧ns=ys.map (·.Name)∧code=0
theorem ZW{H:J6}(hv:D8 H=0){x y:I3}(hx:x∈H.Mems)(hy:y∈H.Mems)(h3:x.Base=y.Base):x=y:=by
 have v:=Br.1 hv
 have hpw:=(List.pairwise_append.1 (cM.1 (QF.1 v.d))).1
 rw[List.pairwise_map]at hpw;have hpw:H.Mems.Pairwise fun a b=>q9 (P6 b) (P6 a)=true:=hpw
 by_cases hne:x=y
 ·exact hne
 ·exfalso
  have h4:=WH (fun a b h=>RF _ _ h) hpw x hx y hy hne
  have hr:=v.g
  unfold H4 at hr;simp only[Bool.and_eq_true,List.all_eq_true]at hr
  have hb:∀z∈H.Mems,z.Base<IntKind.u64.wrap (z.Base+z.Size):=fun z hz=>by
   have q:=hr.1 z hz
   unfold CR l8 at q;simp only[Bool.and_eq_true,decide_eq_true_eq]at q
   obtain⟨-,⟨q1,q2⟩,q3⟩:=q;simp[IntKind.wrap,IntKind.bits,IntKind.signed]at q3 ⊢
   omega
  have b1:=hb x hx
  have b2:=hb y hy
  unfold q9 P6 at h4;simp at h4
  omega
theorem OQ{H:J6}(hv:D8 H=0){D:Mx}{c:F0}{l:List (ByteArray×Int)}{ys:List I3}(hyp:ys.Perm H.Mems)(hkey:∀x∈H.Mems,CQ l x.Name=I0 D c x)(hys:ys.Pairwise fun a b=>Go.Proofs.ltOf (Wt l) b a=false) :
  ys.Pairwise fun a b=>I0 D c a<I0 D c b∨(I0 D c a=I0 D c b∧a.Base<b.Base):=by
 have hnd:ys.Nodup:=by
  have h1:(ys.map (·.Name)).Nodup:=(hyp.map _).nodup_iff.2 (By hv)
  exact List.Pairwise.of_map (·.Name) (fun a b h e=>h (by rw[e])) h1
 refine(hys.and hnd).imp_of_mem fun {a b} ha hb h=>?_
 obtain⟨h1,h2⟩:=h;have ha:=hyp.mem_iff.1 ha
 have hb:=hyp.mem_iff.1 hb
 unfold Go.Proofs.ltOf Wt at h1;rw[hkey a ha,hkey b hb]at h1;have h1:=of_decide_eq_false h1
 have h3:a.Base≠b.Base:=fun e=>h2 (ZW hv ha hb e)
 unfold Ch cI at h1;by_cases e1:I0 D c b<I0 D c a
 ·simp[e1]at h1
 ·by_cases e2:I0 D c a<I0 D c b
  ·exact .inl e2
  ·by_cases e3:b.Base<a.Base
   ·simp[e1,e2,e3]at h1
   ·exact .inr ⟨by omega,by omega⟩
set_option maxRecDepth 8000 in
theorem ZM{Γ:C8}{u:Value}{H:J6}[hh:FG Γ u H](id:Int)(hL:H.Mems.length≤1000){S:List B6}{w:World}(hw:Wd Γ S w) :
  Calls Tryz.prog 16 #[u,.int .i64 id] w fun e w'=>∃(Γ':C8) (v':Value) (ns:List ByteArray) (code:Int),Γ.le Γ'∧e=.returned (.tuple #[v',.int .i64 code])∧Bz H id ns code∧Wd Γ' (.own v' 9 1 (ns.map IV)::S) w':=by
 have hhw:=hh
 obtain⟨a1,n1,c1,a2,n2,c2,a3,n3,c3,a4,n4,c4,a5,n5,c5,cs',rfl,hcs,hok,hsz,r1,r2,r3,r4,r5⟩:=hh.h;obtain⟨hn4,hm4,hx4⟩:=C0 r4
 simp only[List.length_map]at hn4
 refine A7 Tryz.func16 rfl rfl ?_
 repeat first|refine E6 ?_|refine E7 ?_;intro w hw
 refine H2 ?_;intro b2 w hw;have hw:Wd Γ (.blk b2 (J2 H a1 n1 c1 a2 n2 c2 a3 n3 c3 a4 n4 c4 a5 n5 c5)::S) w:=hw
 repeat first|refine E6 ?_|refine E7 ?_;intro w hw
 refine A0 rfl (fun h=>?_) (fun h=>?_)
 ·have h:D8 H≠0:=of_decide_eq_true h
  repeat first|refine E6 ?_|refine E7 ?_;intro w hw
  exact⟨_,rfl,Γ,_,[],D8 H,C8.le.refl _,rfl,by unfold Bz;rw[if_pos h];exact⟨rfl,rfl⟩,Wd.addNil hw.drop⟩
 have hv:D8 H=0:=by
  by_cases e:D8 H=0
  ·exact e
  ·exact absurd (decide_eq_true (show D8 H≠0 from e)) (by simp[h])
 clear h;have hv2:¬D8 H≠0:=fun e=>e hv
 repeat first|refine E6 ?_|refine E7 ?_;intro w hw
 refine B9 ?_;intro b7 w hw;refine B0 ?_;intro w hw;have hw:Wd Γ (.blk b7 (.cells (enc (H0 H.Cores id).1).toArray 47)::.blk b2 (J2 H a1 n1 c1 a2 n2 c2 a3 n3 c3 a4 n4 c4 a5 n5 c5)::S) w:=hw
 repeat first|refine E6 ?_|refine E7 ?_;intro w hw
 refine A0 rfl (fun h=>?_) (fun h=>?_)
 ·have h:(H0 H.Cores id).2=false:=by simpa using h
  repeat first|refine E6 ?_|refine E7 ?_;intro w hw
  exact⟨_,rfl,Γ,_,[],57,C8.le.refl _,rfl,by unfold Bz;rw[if_neg hv2,if_pos h];exact⟨rfl,rfl⟩,Wd.addNil (hw.ds [0,0])⟩
 have hf:(H0 H.Cores id).2=true:=by simpa using h
 clear h;have hf2:¬(H0 H.Cores id).2=false:=fun e=>by rw[hf]at e;cases e
 obtain⟨c,hcE⟩:∃c,c=(H0 H.Cores id).1:=⟨_,rfl⟩
 have hcm:c∈H.Cores:=by rw[hcE];exact(Gc hf).1
 rw[←hcE]at hw;have hnm:(H.Mems.map (·.Name)).Nodup:=By hv
 repeat first|refine E6 ?_|refine E7 ?_;intro w hw
 refine C9 ((Qk (xs:=H.Mems) r4 (by omega) hw).mono fun e w hq=>?_)
 clear hw;obtain⟨vl,rfl,hw⟩:=hq;refine⟨_,rfl,?_⟩;obtain⟨al,nl,cl,rfl,hnl,-,-⟩:=hw.own_shape (i:=0) rfl
 simp only[List.length_map]at hnl
 repeat first|refine E6 ?_|refine E7 ?_;intro w hw
 refine VN (fun n:Int=>Value.int .i64 n) ?_
 intro bm w hw;repeat first|refine E6 ?_|refine E7 ?_;intro w hw
 refine B9 ?_;intro b10 w hw;refine B0 ?_;intro w hw;have hw:Wd Γ (.blk b10 (.cells #[.map (some bm)] 140)::B6.ms (fun n:Int=>Value.int .i64 n) bm []::.own (.slice al nl cl) 58 5 (H.Mems.map enc)::.blk b7 (.cells (enc c).toArray 47)::.blk b2 (J2 H a1 n1 c1 a2 n2 c2 a3 n3 c3 a4 n4 c4 a5 n5 c5)::S) w:=hw
 repeat first|refine E6 ?_|refine E7 ?_;intro w hw
 refine C9 ((Do (hh:=hhw) hv hw).mono fun e w hq=>?_)
 clear hw;obtain⟨b11,rfl,hw⟩:=hq;refine⟨_,rfl,?_⟩;obtain⟨Γ1,hle1,hD,S3⟩:=hw.freezeB;clear hw;have hw:=S3;clear S3;haveI hTab:gp Γ1 b11 (N7 H):=⟨hD⟩
 repeat first|refine E6 ?_|refine E7 ?_;intro w hw
 refine B3 (fun μ ρ w=>∃(k:Nat) (l:List (ByteArray×Int)),μ+k=nl∧eA (N7 H) c H.Mems k l∧Has ρ [(2,.pointer (some ⟨b2,0,none⟩)),(7,.pointer (some ⟨b7,0,none⟩)),(9,.slice al nl cl),(10,.pointer (some ⟨b10,0,none⟩)),(11,.pointer (some ⟨b11,0,none⟩)),(36,.slice al nl cl),(37,.int .i64 nl),(38,.int .i64 k)]∧Wd Γ1 (.blk b10 (.cells #[.map (some bm)] 140)::B6.ms (fun n:Int=>Value.int .i64 n) bm l::.own (.slice al nl cl) 58 5 (H.Mems.map enc)::.blk b7 (.cells (enc c).toArray 47)::.blk b2 (J2 H a1 n1 c1 a2 n2 c2 a3 n3 c3 a4 n4 c4 a5 n5 c5)::S) w) nl ⟨0,[],by omega,fun j x h=>by omega,⟨rfl,rfl,rfl,rfl,rfl,rfl,rfl,rfl,trivial⟩,hw⟩ ?_
 clear hw;rintro μ ρ w ⟨k,l,hμ,hMC,hρ,hw⟩
 rw[hρ.eq];clear hρ;repeat first|refine E6 ?_|refine E7 ?_;intro w hw
 refine A0 rfl (fun h=>?_) (fun h=>?_)
 ·have hkn:k<nl:=by have:=of_decide_eq_true h;omega
  clear h;obtain⟨m,hm⟩:=B2 (l:=H.Mems) (k:=k) (by omega)
  have hmm:=List.mem_of_getElem? hm
  haveI pmm:=Ln (hT:=hTab) (Rb hv hcm hmm)
  repeat first|refine E6 ?_|refine E7 ?_;intro w hw
  refine B9 ?_;intro b13 w hw;refine B0 ?_;intro w hw;have hw:Wd Γ1 ([.blk b13 (.cells (enc m).toArray 58),.blk b10 (.cells #[.map (some bm)] 140),.blk b7 (.cells (enc c).toArray 47)]++(B6.ms (fun n:Int=>Value.int .i64 n) bm l::.own (.slice al nl cl) 58 5 (H.Mems.map enc)::.blk b2 (J2 H a1 n1 c1 a2 n2 c2 a3 n3 c3 a4 n4 c4 a5 n5 c5)::S)) w:=Wd.ps (S:=.blk b13 (.cells (enc m).toArray 58)::.blk b10 (.cells #[.map (some bm)] 140)::B6.ms (fun n:Int=>Value.int .i64 n) bm l::.own (.slice al nl cl) 58 5 (H.Mems.map enc)::.blk b7 (.cells (enc c).toArray 47)::.blk b2 (J2 H a1 n1 c1 a2 n2 c2 a3 n3 c3 a4 n4 c4 a5 n5 c5)::S) [4,2,2] hw
  repeat first|refine E6 ?_|refine E7 ?_;intro w hw
  refine Cb [.blk b13 (.cells (enc m).toArray 58),.blk b10 (.cells #[.map (some bm)] 140),.blk b7 (.cells (enc c).toArray 47)] (B6.ms (fun n:Int=>Value.int .i64 n) bm l::.own (.slice al nl cl) 58 5 (H.Mems.map enc)::.blk b2 (J2 H a1 n1 c1 a2 n2 c2 a3 n3 c3 a4 n4 c4 a5 n5 c5)::S) [[],[],[],[],[],[],[],[0]] [[],[],[],[],[],[],[],[0]] hw ?_
  refine P3 ?_;refine fB (j:=0) (v:=I0 (N7 H) c m) ?_
  refine V1 fun w g hw=>?_
  have hw:Wd Γ1 (([.blk b13 (.cells (enc m).toArray 58),.blk b10 (.cells #[.map (some bm)] 140),.blk b7 (.cells (enc c).toArray 47)]++(B6.ms (fun n:Int=>Value.int .i64 n) bm (j6 l m.Name (I0 (N7 H) c m))::.own (.slice al nl cl) 58 5 (H.Mems.map enc)::.blk b2 (J2 H a1 n1 c1 a2 n2 c2 a3 n3 c3 a4 n4 c4 a5 n5 c5)::S))++[]) w:=hw
  rw[List.append_nil]at hw;have hw:Wd Γ1 (.blk b10 (.cells #[.map (some bm)] 140)::B6.ms (fun n:Int=>Value.int .i64 n) bm (j6 l m.Name (I0 (N7 H) c m))::.own (.slice al nl cl) 58 5 (H.Mems.map enc)::.blk b7 (.cells (enc c).toArray 47)::.blk b2 (J2 H a1 n1 c1 a2 n2 c2 a3 n3 c3 a4 n4 c4 a5 n5 c5)::S) w:=(Wd.drop hw).ps [3,3,2]
  repeat first|refine E6 ?_|refine E7 ?_;intro w hw
  exact⟨nl-k-1,by omega,k+1,_,by omega,Un hMC hnm hm,⟨rfl,rfl,rfl,rfl,rfl,rfl,rfl,rfl,trivial⟩,hw⟩
 have hkn:k=nl:=by have:=of_decide_eq_false h;omega
 clear h;have hkey:∀x∈H.Mems,CQ l x.Name=I0 (N7 H) c x:=fun x hx=>by
  obtain⟨j,hj⟩:=List.mem_iff_getElem?.1 hx
  unfold CQ;rw[hMC j x (by have:=(List.getElem?_eq_some_iff.1 hj).1;omega) hj];rfl
 repeat first|refine E6 ?_|refine E7 ?_;intro w hw
 refine C9 (vs:=[.slice al nl cl,.func (.func 61) #[] #[.pointer (some ⟨b10,0,none⟩)]]) ((FH ax (Wt l) 61 [.pointer (some ⟨b10,0,none⟩)] H.Mems _ hw (i:=2) rfl (fun _=>rfl) (fun x u hu=>List.all_eq_true.1 (Cc x) u hu) (inferInstanceAs (TA Tryz.prog 58 5)) (MM (Hf.prod Hf) fun x:I3=>(CQ l x.Name,x.Base)) (by omega) (fun dk w' hw' x y=>Va hw' (j:=0) (i:=1) rfl rfl x y)).mono fun e w hq=>?_)
 obtain⟨rfl,ys,hyp,hys,ES⟩:=hq;refine⟨_,rfl,?_⟩;clear hw;have hw:Wd Γ1 (.blk b10 (.cells #[.map (some bm)] 140)::B6.ms (fun n:Int=>Value.int .i64 n) bm l::.own (.slice al nl cl) 58 5 (ys.map enc)::.blk b7 (.cells (enc c).toArray 47)::.blk b2 (J2 H a1 n1 c1 a2 n2 c2 a3 n3 c3 a4 n4 c4 a5 n5 c5)::S) w:=ES
 clear ES;have hyl:ys.length=nl:=by rw[hyp.length_eq];exact hnl.symm
 obtain⟨Γ2,hle2,rY,S3⟩:=(hw.ps [2]).freeze
 clear hw;have hw:Wd Γ2 S w:=S3.ds [0,0,0,0]
 clear S3;have hw:=Wd.addNil (a:=none) (E:=9) (sz:=1) hw
 repeat first|refine E6 ?_|refine E7 ?_;intro w hw
 refine B3 (fun μ ρ w=>∃(k:Nat) (rq:Option Addr) (rm rd:Nat),μ+k=nl∧Has ρ [(14,.slice rq rm rd),(53,.slice al nl cl),(54,.int .i64 nl),(55,.int .i64 k)]∧Wd Γ2 (.own (.slice rq rm rd) 9 1 (((ys.take k).map (·.Name)).map IV)::S) w) nl ⟨0,none,0,0,by omega,⟨rfl,rfl,rfl,rfl,trivial⟩,hw⟩ ?_
 clear hw;rintro μ ρ w ⟨k,rq,rm,rd,hμ,hρ,hw⟩
 rw[hρ.eq];clear hρ;repeat first|refine E6 ?_|refine E7 ?_;intro w hw
 refine A0 rfl (fun h=>?_) (fun h=>?_)
 ·have hkn:k<nl:=by have:=of_decide_eq_true h;omega
  clear h;obtain⟨m,hm⟩:=B2 (l:=ys) (k:=k) (by omega)
  have hrm:rm=k:=by
   obtain⟨p1,p2,p3,hp,hp2,-,-⟩:=hw.own_shape (i:=0) rfl
   cases hp
   simp at hp2;omega
  repeat first|refine E6 ?_|refine E7 ?_;intro w hw
  refine B9 ?_;intro b16 w hw;refine B0 ?_;intro w hw;have hw:Wd Γ2 (.blk b16 (.cells (enc m).toArray 58)::.own (.slice rq rm rd) 9 1 (((ys.take k).map (·.Name)).map IV)::S) w:=hw
  repeat first|refine E6 ?_|refine E7 ?_;intro w hw
  refine B5 [IV m.Name] ?_
  intro a62 w hw;repeat first|refine E6 ?_|refine E7 ?_;intro w hw
  refine T3 (i:=2) (rows2:=[IV m.Name]) ?_ (hw.own_rd (i:=0) rfl) rfl rfl hw rfl rfl rfl
  intro v1 w hw;obtain⟨rq',rm',rd',rfl,-,-,-⟩:=hw.own_shape (i:=2) rfl
  have hw:Wd Γ2 (.own (.slice rq' rm' rd') 9 1 (((ys.take (k+1)).map (·.Name)).map IV)::S) w:=by
   have h1:=hw.ds [0,0]
   have e:((ys.take (k+1)).map (·.Name)).map IV=((ys.take k).map (·.Name)).map IV++[IV m.Name]:=by
    rw[D4 hm,List.map_append,List.map_append];rfl
   rw[e];exact h1
  repeat first|refine E6 ?_|refine E7 ?_;intro w hw
  exact⟨nl-k-1,by omega,k+1,rq',rm',rd',by omega,⟨rfl,rfl,rfl,rfl,trivial⟩,hw⟩
 have hkn2:k=nl:=by have:=of_decide_eq_false h;omega
 rw[hkn2,List.take_of_length_le (by omega)]at hw
 repeat first|refine E6 ?_|refine E7 ?_;intro w hw
 have hpost:Bz H id (ys.map (·.Name)) 0:=by
  unfold Bz;rw[if_neg hv2,if_neg hf2,←hcE];exact⟨ys,hyp,OQ hv hyp hkey hys,rfl,rfl⟩
 exact⟨_,rfl,Γ2,_,_,0,hle1.trans hle2,rfl,hpost,hw⟩
end Go.Proofs.YtlmiakjbogojgaaGreatDoor
end
section
open Go
namespace Mk
section
variable {P:Program}{w:World}{ρ:Fr}{d:Option Tmp}{T ty:TypeId}{pos:String}{es:Array Edge}{g:Option (Nat×Bool)}{x y:Operand}
theorem Ug{E n:Nat}(h:JN P E=some n):(isAgg E).run P w=.ok true w∧(Go.sizeOf E).run P w=.ok n w:=by
 unfold JN at h;cases hu:P.underlying E with
 | none=>simp[hu]at h
 | some t=>
  simp[hu]at h
  obtain⟨h1,i,h2,h3⟩:=h;constructor
  ·unfold isAgg;simp only[Sem.run_bind,run_underlying hu]
   cases t <;> simp_all [TypeDesc.isRow] <;> rfl
  ·simp[Go.sizeOf,typeInfo,h2,h3]
theorem Ya{E n len:Nat}{cs:Array Value}{i:Int}{k:IntKind}[ha:TA P E n](hu:P.underlying T=some (.array len E))(hx:ev ρ x=.agg cs)(hy:ev ρ y=.int k i)(h0:0≤i)(h1:i<len) :
  Yields P ⟨d,.index T x y,ty,pos,es,g⟩ ρ w (.agg (cs.extract (i.toNat*n) (i.toNat*n+n))):=by
 obtain⟨q1,q2⟩:=Ug (w:=w) ha.h
 unfold Yields;simp[execOp,go_sem,hx,hy,Instr.index,asIntOf,run_underlying hu,h0,h1,q2,part,q1]
theorem Wx{E len:Nat}{cs:Array Value}{i:Int}{k:IntKind}{v:Value}(hs:Fw P E=true)(hu:P.underlying T=some (.array len E))(hx:ev ρ x=.agg cs)(hy:ev ρ y=.int k i)(h0:0≤i)(h1:i<len)(hc:cs[i.toNat]? = some v) :
  Yields P ⟨d,.index T x y,ty,pos,es,g⟩ ρ w v:=by
 unfold Yields;simp[execOp,go_sem,hx,hy,Instr.index,asIntOf,run_underlying hu,h0,h1,Ks hs,part,w4 hs,hc]
end
end Mk
end
section
open Go Mk
namespace Go.Proofs.YtlmiakjbogojgaaGreatDoor
set_option maxHeartbeats 32000000
attribute [local irreducible] Calls cI cB T0 U1 I7 D8 G1 S2 O4 Rt E4 VW
def dJ(n:Nat):ByteArray:=(⟨#[115,101,108,101,99,116,32,77,44,32,76,32,119,104,101,114,101,32,109,101,109,111,114,121,40,77,44,32,95,44,32,95,44,32,78,44,32,76,41,44,32,78,32,61,32]⟩:ByteArray)++Dy (n:Int)
theorem eD(n:Nat):dJ n=U6 (qL (FQ n)):=BL (by
 rw[ai,show M8 (U6 (fg n))=fg n from W9 _];unfold dJ fg;rw[Qf];have:M8 (Dy (n:Int))=Lib.decDigits n:=by
  unfold Dy;rw[W9];unfold Lib.itoa;rw[if_neg (show ¬((n:Nat):Int)<0 by omega)];rfl
 rw[this])
theorem Pz{n:Nat}(hn:n≤1000):(Dy (n:Int)).size≤25∧(dJ n).size≤200:=by
 have h1:=XM (n:=(n:Int)) (by omega) (by omega)
 refine⟨h1,?_⟩
 unfold dJ;have e1:(⟨#[115,101,108,101,99,116,32,77,44,32,76,32,119,104,101,114,101,32,109,101,109,111,114,121,40,77,44,32,95,44,32,95,44,32,78,44,32,76,41,44,32,78,32,61,32]⟩:ByteArray).size=45:=rfl
 rw[ByteArray.size_append];omega
theorem Vo{n:Nat}(hn:n≤1000):Bb (dJ n)=(FQ n,⟨0,0⟩,0):=by
 have hs:=(Pz hn).2
 rw[eD]at hs ⊢
 refine SY (fC (ZD (by unfold Hc;omega)) Ov) ?_
 have:(U6 (qL (FQ n))).size=(qL (FQ n)).length:=by unfold U6;show (List.toArray _).size=_;simp
 omega
theorem av{H:J6}(v:V4 H)(h16:(F9 H).length≤16):(Rt H).length≤50000:=by
 have h1:=Ah (c:=I7) (db:=G1 H++BU H (F9 H))
 have h2:=Rh v
 have h3:=MN (m:=(F9 H).length) (f:=fun a=>(F9 H).map (W1 H a)) (l:=F9 H) fun a _=>by rw[List.length_map];exact Nat.le_refl _
 have h4:(BU H (F9 H)).length≤(F9 H).length*(F9 H).length:=h3
 have h5:=Nat.mul_le_mul h16 h16
 have h6:(Rt H).length=(O4 (G1 H++BU H (F9 H))).length:=by unfold Rt;rfl
 have h7:(O4 (G1 H++BU H (F9 H))).length≤(G1 H++BU H (F9 H)).length:=by unfold O4;exact h1
 rw[List.length_append]at h7;omega
theorem CU{α β:Type}{f:α→β}:∀ {l:List α},(l.map f).Nodup→∀ {x y:α},x∈l→y∈l→f x=f y→x=y
 | a::l,h,x,y,hx,hy,e=>by
  rw[List.map_cons,List.nodup_cons]at h;rcases List.mem_cons.1 hx with e1|hx
  ·rcases List.mem_cons.1 hy with e2|hy
   ·exact e1.trans e2.symm
   ·exact absurd (List.mem_map.2 ⟨y,hy,by rw[←e,e1]⟩) h.1
  ·rcases List.mem_cons.1 hy with e2|hy
   ·exact absurd (List.mem_map.2 ⟨x,hx,by rw[e,e2]⟩) h.1
   ·exact CU h.2 hx hy e
theorem UL{H:J6}(hv:D8 H=0){id:Int}{c:F0}(hid:H0 H.Cores id=(c,true)){m:I3}(hm:m∈H.Mems):Ev H id m.Name=(I0 (N7 H) c m,0):=by
 unfold Ev;rcases IF H.Mems m.Name with⟨h3,h4⟩|⟨k,y,h3,hy,hn,h5⟩
 ·exact absurd rfl (h4 m hm)
 ·rw[if_neg (fun e=>e hv),if_neg (by rw[hid,h3];simp),h3,hid]
  have:y=m:=CU (By hv) (List.mem_of_getElem? hy) hm hn
  subst this;simp[hy]
set_option maxRecDepth 8000 in
theorem SR{Γ:C8}{u:Value}{H:J6}[hh:FG Γ u H](hv:D8 H=0){m:I3}(hm:m∈H.Mems):PG Tryz.prog Γ 19 [u,.string m.Name] (.agg (enc m).toArray):=⟨fun S w hw=>by
 obtain⟨a1,n1,c1,a2,n2,c2,a3,n3,c3,a4,n4,c4,a5,n5,c5,cs',rfl,hcs,hok,hsz,r1,r2,r3,r4,r5⟩:=hh.h;obtain⟨hn4,hm4,hx4⟩:=C0 r4
 simp only[List.length_map]at hn4
 obtain⟨k,hk⟩:=List.mem_iff_getElem?.1 hm
 have hkl:=(List.getElem?_eq_some_iff.1 hk).1
 refine I4 Tryz.func19 rfl rfl ?_
 repeat first|refine E6 ?_|refine E7 ?_;intro w hw
 refine H2 ?_;intro b2 w hw;have hw:Wd Γ (.blk b2 (J2 H a1 n1 c1 a2 n2 c2 a3 n3 c3 a4 n4 c4 a5 n5 c5)::S) w:=hw
 refine B9 ?_;intro b4 w hw;have hw:Wd Γ (.blk b4 (.cells (enc (default:I3)).toArray 58)::.blk b2 (J2 H a1 n1 c1 a2 n2 c2 a3 n3 c3 a4 n4 c4 a5 n5 c5)::S) w:=hw
 repeat first|refine E6 ?_|refine E7 ?_;intro w hw
 refine B3 (fun μ ρ w=>∃(i:Nat),μ+i=n4∧i≤k∧Has ρ [(1,.string m.Name),(2,.pointer (some ⟨b2,0,none⟩)),(4,.pointer (some ⟨b4,0,none⟩)),(5,.int .i64 i)]∧Wd Γ (.blk b4 (.cells (enc (default:I3)).toArray 58)::.blk b2 (J2 H a1 n1 c1 a2 n2 c2 a3 n3 c3 a4 n4 c4 a5 n5 c5)::S) w) n4 ⟨0,by omega,by omega,⟨rfl,rfl,rfl,rfl,trivial⟩,hw⟩ ?_
 clear hw;rintro μ ρ w ⟨i,hμ,hik,hρ,hw⟩
 rw[hρ.eq];clear hρ;repeat first|refine E6 ?_|refine E7 ?_;intro w hw
 refine A0 rfl (fun h=>?_) (fun h=>?_)
 ·have hin:i<n4:=by have:=of_decide_eq_true h;omega
  clear h;obtain⟨x,hx⟩:=B2 (l:=H.Mems) (k:=i) (by omega)
  repeat first|refine E6 ?_|refine E7 ?_;intro w hw
  refine A0 rfl (fun h=>?_) (fun h=>?_)
  ·have h:x.Name=m.Name:=of_decide_eq_true h
   have hxm:x=m:=CU (By hv) (List.mem_of_getElem? hx) hm h
   subst hxm;repeat first|refine E6 ?_|refine E7 ?_;intro w hw
   refine B0 ?_;intro w hw;have hw:Wd Γ (.blk b4 (.cells (enc x).toArray 58)::.blk b2 (J2 H a1 n1 c1 a2 n2 c2 a3 n3 c3 a4 n4 c4 a5 n5 c5)::S) w:=hw
   repeat first|refine E6 ?_|refine E7 ?_;intro w hw
   exact⟨[.agg (enc x).toArray],⟨U4 (i:=0) hw rfl rfl rfl,trivial⟩,rfl,hw.ds [0,0]⟩
  ·have h:¬x.Name=m.Name:=of_decide_eq_false h
   have hne:i≠k:=fun e=>by
    subst e;rw[hk]at hx;cases hx;exact h rfl
   repeat first|refine E6 ?_|refine E7 ?_;intro w hw
   exact⟨μ-1,by omega,i+1,by omega,by omega,⟨rfl,rfl,rfl,rfl,trivial⟩,hw⟩
 ·have:=of_decide_eq_false h
  omega⟩
set_option maxRecDepth 8000 in
theorem Ep{Γ:C8}[hBr:QN Γ]{S:List B6}{w:World}{a:Option Addr}{m0 cp:Nat}{L:List Int}(y:Int)(hr:D7 Γ (.slice a m0 cp) 1 (A8 L))(hw:Wd Γ S w) :
  Calls Tryz.prog 4 #[.slice a m0 cp,.int .i64 y] w fun e w'=>∃Γ',Γ.le Γ'∧e=.returned (.bool true)∧Wd Γ' S w':=by
 refine A7 Tryz.func4 rfl rfl ?_
 repeat first|refine E6 ?_|refine E7 ?_;intro w hw
 refine A0 rfl (fun h=>?_) (fun h=>?_)
 ·repeat first|refine E6 ?_|refine E7 ?_;intro w hw
  exact⟨_,rfl,Γ,.refl _,rfl,hw⟩
 clear h;repeat first|refine E6 ?_|refine E7 ?_;intro w hw
 refine C9 ((ND hr hw).mono fun r w hq=>?_)
 clear hw;obtain⟨Γ1,H,u,nodes,sh,first,irq,hle1,rfl,hG,ho⟩:=hq;refine⟨_,rfl,?_⟩;have hV:=Br.1 (LR hG)
 haveI hWd:fm H:=⟨Xw hG⟩
 obtain⟨Γ2,hle2,hR,hw⟩:=ho.freeze (eT hG)
 have hnc:=hG.nc
 have h16:(F9 H).length≤16:=by
  have:=hG.nm'
  have:=hG.nd'
  unfold F9;simp only[List.length_append,List.length_map]
  omega
 have hm4:H.Mems.length≤4:=hG.nm'
 have hval:=LR hG
 clear ho hr hG;have hle:=hle1.trans hle2
 haveI hBr2:QN Γ2:=hBr.mono hle
 clear hle1 hle2;obtain⟨a1,n1,c1,a2,n2,c2,a3,n3,c3,a4,n4,c4,a5,n5,c5,cs,rfl,hcs,hok,hsz,r1,r2,r3,r4,r5⟩:=hR.h;repeat first|refine E6 ?_|refine E7 ?_;intro w hw
 refine B9 ?_;intro b5 w hw;refine B0 ?_;intro w hw;have hw:Wd Γ2 (.blk b5 (J2 H a1 n1 c1 a2 n2 c2 a3 n3 c3 a4 n4 c4 a5 n5 c5)::S) w:=hw
 obtain⟨q1,q2,q3⟩:=C0 r1
 rw[List.length_map]at q1;obtain⟨hn4,hc4,hx4⟩:=C0 r4
 rw[List.length_map]at hn4;haveI:eF (n1:Int):=⟨by omega⟩
 obtain⟨k,hk⟩:∃k:Nat,(k:Int)=y%(n1:Int):=⟨(y%(n1:Int)).toNat,by have:=Int.emod_nonneg y (show (n1:Int)≠0 by omega);omega⟩
 have hkn:k<n1:=by have:=Int.emod_lt_of_pos y (show (0:Int)<(n1:Int) by omega);omega
 haveI pp:PC Tryz.prog 15 [.int .i64 y,.int .i64 (n1:Int)] (.int .i64 (k:Int)):=by rw[hk];infer_instance
 obtain⟨c,hc⟩:=B2 (l:=H.Cores) (k:=k) (by omega)
 have hcm:=List.mem_of_getElem? hc
 have hcv:=NK hV hcm
 have hcnn:=Bp hval hcm
 have hcnn1:0≤c.Node∧c.Node<64:=hcnn
 repeat first|refine E6 ?_|refine E7 ?_;intro w hw
 refine Gy 1 [[],[],[],[],[],[],[],[],[],[0],[0]] [[],[],[],[],[],[],[],[],[],[0],[0]] [[6]] ?_ (hw:=hw)
 clear hw;refine P3 ?_;refine HG (c:=0) ?_
 refine Bv (c:=0) ?_
 refine V1 fun w g hw=>?_
 have hw:Wd Γ2 ((.blk b5 (J2 H a1 n1 c1 a2 n2 c2 a3 n3 c3 a4 n4 c4 a5 n5 c5)::S)++([NX (g 6) fun bb=>[.blk bb (.cells (enc c).toArray 47)]]++[])) w:=hw
 have hw:=hw.flip
 have hw:Wd Γ2 (NX (g 6) (fun bb=>[.blk bb (.cells (enc c).toArray 47)])::.blk b5 (J2 H a1 n1 c1 a2 n2 c2 a3 n3 c3 a4 n4 c4 a5 n5 c5)::S) w:=hw
 obtain⟨b6,h6,hw⟩:=hw.openAt;have hw:Wd Γ2 (.blk b6 (.cells (enc c).toArray 47)::.blk b5 (J2 H a1 n1 c1 a2 n2 c2 a3 n3 c3 a4 n4 c4 a5 n5 c5)::S) w:=hw
 refine Ty (l:=[(5,.pointer (some ⟨b5,0,none⟩)),(6,.pointer (some ⟨b6,0,none⟩))]) ⟨rfl,h6,trivial⟩ fun ρ hρ=>?_
 rw[hρ.eq];clear hρ h6;repeat first|refine E6 ?_|refine E7 ?_;intro w hw
 refine C9 ((ZM (hh:=hR) c.ID (by omega) hw).mono fun e w hq=>?_)
 clear hw;obtain⟨Γ3,vn,ns,code,hle3,rfl,hnp,hw⟩:=hq;refine⟨_,rfl,?_⟩;have hfc:H0 H.Cores c.ID=(c,true):=by
  have h2:(H0 H.Cores c.ID).2=true:=RQ (List.mem_map.2 ⟨c,hcm,rfl⟩)
  obtain⟨h3,h4⟩:=Gc h2
  exact Prod.ext (CU (Kc hval) h3 hcm h4) h2
 unfold Bz at hnp;rw[if_neg (fun e=>e hval),if_neg (by rw[hfc];simp),hfc]at hnp
 obtain⟨ys,hyp,hys,rfl,rfl⟩:=hnp;obtain⟨na,nn,nc,rfl,hnn,-,-⟩:=hw.own_shape (i:=0) rfl
 rw[List.length_map,List.length_map]at hnn;have hyl:=hyp.length_eq
 obtain⟨Γ4,hle4,hns,S3⟩:=hw.freeze;clear hw;have hw:Wd Γ4 (.blk b6 (.cells (enc c).toArray 47)::.blk b5 (J2 H a1 n1 c1 a2 n2 c2 a3 n3 c3 a4 n4 c4 a5 n5 c5)::S) w:=S3
 clear S3;have hR4:=(hR.mono hle3).mono hle4
 have hle:=hle.trans (hle3.trans hle4)
 haveI hBr4:QN Γ4:=hBr.mono hle
 clear hle3 hle4 hBr2 hR;have hym:∀x∈ys,x∈H.Mems:=fun x hx=>hyp.mem_iff.1 hx
 have pM:PG Tryz.prog Γ4 18 [.agg #[.string H.Name,.slice a1 n1 c1,.slice a2 n2 c2,.slice a3 n3 c3,.slice a4 n4 c4,.slice a5 n5 c5]] (.agg (E4 (Ml H)).toArray):=⟨fun S w hw=>SS (hh:=hR4) hval hw⟩
 repeat first|refine E6 ?_|refine E7 ?_;intro w hw
 refine A0 rfl (fun h=>?_) (fun h=>?_)
 ·exfalso
  simp at h
  omega
 clear h;repeat first|refine E6 ?_|refine E7 ?_;intro w hw
 refine B3 (fun μ ρ w=>∃(i:Nat),μ+i=nn∧Has ρ [(5,.pointer (some ⟨b5,0,none⟩)),(6,.pointer (some ⟨b6,0,none⟩)),(7,.slice na nn nc),(9,.int .i64 i)]∧Wd Γ4 (.blk b6 (.cells (enc c).toArray 47)::.blk b5 (J2 H a1 n1 c1 a2 n2 c2 a3 n3 c3 a4 n4 c4 a5 n5 c5)::S) w) nn ⟨0,by omega,⟨rfl,rfl,rfl,rfl,trivial⟩,hw⟩ ?_
 clear hw;rintro μ ρ w ⟨i,hμ,hρ,hw⟩
 rw[hρ.eq];clear hρ;repeat first|refine E6 ?_|refine E7 ?_;intro w hw
 refine A0 rfl (fun h=>?_) (fun h=>?_)
 ·have hin:i<nn:=by have:=of_decide_eq_true h;omega
  clear h;obtain⟨x,hx⟩:=B2 (l:=ys) (k:=i) (by omega)
  have hxm:=hym x (List.mem_of_getElem? hx)
  have hxr:((ys.map (·.Name)).map IV)[i]? = some [.string x.Name]:=by rw[List.getElem?_map,List.getElem?_map,hx];rfl
  have pC:PG Tryz.prog Γ4 17 [.agg #[.string H.Name,.slice a1 n1 c1,.slice a2 n2 c2,.slice a3 n3 c3,.slice a4 n4 c4,.slice a5 n5 c5],.int .i64 c.ID,.string x.Name] (.tuple #[.int .i64 (I0 (N7 H) c x),.int .i64 0]):=by
   have:=NH (hh:=hR4) c.ID x.Name
   rw[UL hval hfc hxm]at this;exact this
  have pX:=SR (hh:=hR4) hval hxm
  obtain⟨hd1,hd2,hd3⟩:=ZL hval hxm hcm
  obtain⟨hxn,hl1,hl2⟩:=Mv hval hxm
  have hxn1:0≤x.Node∧x.Node<64:=hxn
  obtain⟨cn,hcn⟩:∃cn:Nat,c.Node=(cn:Int):=⟨c.Node.toNat,by omega⟩
  obtain⟨xn,hxn2⟩:∃xn:Nat,x.Node=(xn:Int):=⟨x.Node.toNat,by omega⟩
  have hgm:(E4 (Ml H)).toArray[0+c.Node.toNat*64+x.Node.toNat*1]? = some (.int .i64 (N7 H c.Node x.Node)):=by rw[←hd3];exact MW _ hcnn hxn
  have hrow:((E4 (Ml H)).toArray.extract (c.Node.toNat*64) (c.Node.toNat*64+64))[x.Node.toNat]? = some (.int .i64 (N7 H c.Node x.Node)):=by
   have hsz:=(Array.getElem?_eq_some_iff.1 hgm).1
   have hz:(E4 (Ml H)).toArray.size=4096:=by unfold E4;simp
   rw[Array.getElem?_extract,if_pos (by omega),←hgm]
   congr 1
   omega
  have hcm0:I0 (N7 H) c x=N7 H c.Node x.Node+x.Latency:=rfl
  repeat first|refine E6 ?_|refine E7 ?_;intro w hw
  refine G9 (by kernel_rfl) (by kernel_rfl) hw ?_
  refine X3 ?_;refine qY (v:=.string x.Name) ?_ (hy:=fun w hw=>G6 (k:=i) (u:=.string x.Name) rfl (hns.rd hw) hxr)
  refine X3 ?_;intro w hw;repeat first|refine E6 ?_|refine E7 ?_;intro w hw
  refine G9 (by kernel_rfl) (by kernel_rfl) hw ?_
  refine X3 ?_;refine qG (v:=.agg ((E4 (Ml H)).toArray.extract (c.Node.toNat*64) (c.Node.toNat*64+64))) ?_ (hy:=by intro hc w hw;exact Ya Tryz.underlying54 B4 B4 (by omega) (by omega))
  refine X3 ?_;refine qG (v:=.string x.Name) ?_ (hy:=by intro hc w hw;exact G6 (k:=i) (u:=.string x.Name) B4 (hns.rd hw) hxr)
  refine X3 ?_;refine qG (v:=.int .i64 x.Node) ?_ (hy:=by intro hc w hw;exact Av Tryz.underlying58 rfl (by kernel_rfl) rfl B4)
  refine X3 ?_;refine qG (v:=.int .i64 (N7 H c.Node x.Node)) ?_ (hy:=by intro hc w hw;exact Wx (by kernel_rfl) Tryz.underlying53 B4 B4 (by omega) (by omega) hrow)
  refine X3 ?_;refine qG (v:=.string x.Name) ?_ (hy:=by intro hc w hw;exact G6 (k:=i) (u:=.string x.Name) B4 (hns.rd hw) hxr)
  refine X3 ?_;refine qG (v:=.int .i64 x.Latency) ?_ (hy:=by intro hc w hw;exact Av Tryz.underlying58 rfl (by kernel_rfl) rfl B4)
  refine X3 ?_;intro w hw;refine A0 rfl (fun h=>?_) (fun h=>?_)
  ·exfalso
   simp at h
   omega
  clear h;repeat first|refine E6 ?_|refine E7 ?_;intro w hw
  refine B3 (fun μ ρ w=>∃(j:Nat),μ+j=i∧Has ρ [(5,.pointer (some ⟨b5,0,none⟩)),(6,.pointer (some ⟨b6,0,none⟩)),(7,.slice na nn nc),(9,.int .i64 i),(10,.int .i64 (I0 (N7 H) c x)),(12,.int .i64 j)]∧Wd Γ4 (.blk b6 (.cells (enc c).toArray 47)::.blk b5 (J2 H a1 n1 c1 a2 n2 c2 a3 n3 c3 a4 n4 c4 a5 n5 c5)::S) w) i ⟨0,by omega,⟨rfl,rfl,rfl,rfl,rfl,rfl,trivial⟩,hw⟩ ?_
  clear hw pC;rintro μ2 ρ w ⟨j,hμ2,hρ,hw⟩
  rw[hρ.eq];clear hρ;repeat first|refine E6 ?_|refine E7 ?_;intro w hw
  refine A0 rfl (fun h=>?_) (fun h=>?_)
  ·have hji:j<i:=by have:=of_decide_eq_true h;omega
   clear h;obtain⟨z,hz⟩:=B2 (l:=ys) (k:=j) (by omega)
   have hzm:=hym z (List.mem_of_getElem? hz)
   have hzr:((ys.map (·.Name)).map IV)[j]? = some [.string z.Name]:=by rw[List.getElem?_map,List.getElem?_map,hz];rfl
   have pC:PG Tryz.prog Γ4 17 [.agg #[.string H.Name,.slice a1 n1 c1,.slice a2 n2 c2,.slice a3 n3 c3,.slice a4 n4 c4,.slice a5 n5 c5],.int .i64 c.ID,.string z.Name] (.tuple #[.int .i64 (I0 (N7 H) c z),.int .i64 0]):=by
    have:=NH (hh:=hR4) c.ID z.Name
    rw[UL hval hfc hzm]at this;exact this
   have pZ:=SR (hh:=hR4) hval hzm
   have hzx:I0 (N7 H) c z<I0 (N7 H) c x∨(I0 (N7 H) c z=I0 (N7 H) c x∧z.Base<x.Base):=by
    obtain⟨g1,g2⟩:=List.getElem?_eq_some_iff.1 hz
    obtain⟨g3,g4⟩:=List.getElem?_eq_some_iff.1 hx
    have:=List.pairwise_iff_getElem.1 hys j i g1 g3 hji
    rw[g2,g4]at this;exact this
   have hne:z.Name≠x.Name:=fun e=>by
    have:=CU (By hval) hzm hxm e
    subst this;omega
   repeat first|refine E6 ?_|refine E7 ?_;intro w hw
   refine G9 (by kernel_rfl) (by kernel_rfl) hw ?_
   refine X3 ?_;refine qY (v:=.string z.Name) ?_ (hy:=fun w hw=>G6 (k:=j) (u:=.string z.Name) rfl (hns.rd hw) hzr)
   refine X3 ?_;intro w hw;repeat first|refine E6 ?_|refine E7 ?_;intro w hw
   generalize I0 (N7 H) c z=kz at *
   generalize I0 (N7 H) c x=kx at *
   refine G9 (by kernel_rfl) (by kernel_rfl) hw ?_
   refine X3 ?_;refine qG (v:=.string z.Name) ?_ (hy:=by intro hc w hw;exact G6 (k:=j) (u:=.string z.Name) B4 (hns.rd hw) hzr)
   refine X3 ?_;refine qG (v:=.string x.Name) ?_ (hy:=by intro hc w hw;exact G6 (k:=i) (u:=.string x.Name) B4 (hns.rd hw) hxr)
   refine X3 ?_;refine qG (v:=.string z.Name) ?_ (hy:=by intro hc w hw;exact G6 (k:=j) (u:=.string z.Name) B4 (hns.rd hw) hzr)
   refine X3 ?_;refine qG (v:=.int .u64 z.Base) ?_ (hy:=by intro hc w hw;exact Av Tryz.underlying58 rfl (by kernel_rfl) rfl B4)
   refine X3 ?_;refine qG (v:=.string x.Name) ?_ (hy:=by intro hc w hw;exact G6 (k:=i) (u:=.string x.Name) B4 (hns.rd hw) hxr)
   refine X3 ?_;refine qG (v:=.int .u64 x.Base) ?_ (hy:=by intro hc w hw;exact Av Tryz.underlying58 rfl (by kernel_rfl) rfl B4)
   refine X3 ?_;intro w hw;refine A0 rfl (fun h=>?_) (fun h=>?_)
   ·exfalso
    simp[hne]at h
    omega
   clear h;repeat first|refine E6 ?_|refine E7 ?_;intro w hw
   exact⟨μ2-1,by omega,j+1,by omega,⟨rfl,rfl,rfl,rfl,rfl,rfl,trivial⟩,hw⟩
  ·repeat first|refine E6 ?_|refine E7 ?_;intro w hw
   exact⟨μ-1,by omega,i+1,by omega,⟨rfl,rfl,rfl,rfl,trivial⟩,hw⟩
 have hin:¬i<nn:=by have:=of_decide_eq_false h;omega
 clear h hμ hin pM;repeat first|refine E6 ?_|refine E7 ?_;intro w hw
 refine C9 ((Rj (hh:=hR4) hw).mono fun e w hq=>?_)
 clear hw;obtain⟨Γ5,vf,gs,hle5,rfl,hgs,hgo,hw⟩:=hq;rw[if_pos hval]at hgs;rw[hval];refine⟨_,rfl,?_⟩;obtain⟨fa,fn,fc,rfl,-,-,-⟩:=hw.own_shape (i:=0) rfl
 obtain⟨Γ6,hle6,hdb,S3⟩:=hw.freeze;clear hw;have hw:Wd Γ6 (.blk b6 (.cells (enc c).toArray 47)::.blk b5 (J2 H a1 n1 c1 a2 n2 c2 a3 n3 c3 a4 n4 c4 a5 n5 c5)::S) w:=S3
 clear S3;have hRL:RL Γ6 (.slice fa fn fc) gs:=⟨hdb,hgo.mono hle6⟩
 have hfl:gs.length≤50000:=by
  have h1:=av hV h16
  have h2:(facts gs).length=gs.length:=List.length_map ..
  rw[hgs]at h2;omega
 have hR6:=(hR4.mono hle5).mono hle6
 have hle:=hle.trans (hle5.trans hle6)
 have hns6:=(hns.mono hle5).mono hle6
 clear hle5 hle6 hgo hdb hR4 hns hBr4;obtain⟨cn,hcn⟩:∃i:Nat,c.Node=(i:Int):=⟨c.Node.toNat,by omega⟩
 have hb1:cn≤1000:=by omega
 obtain⟨z1,z3⟩:=Pz hb1
 have t1:PG Tryz.prog Γ6 21 [.agg (enc (iF c.Node)).toArray,.bool false] (.string (Dy (cn:Int))):=by
  have:=Md (Γ:=Γ6) (iF c.Node) (AK (by omega)) (Gp _)
  rw[←hcn];exact this
 have pI1:PG Tryz.prog Γ6 22 [.int .i64 c.Node] (.agg (enc (iF c.Node)).toArray):=inferInstance
 have hpar:=Vo hb1
 have e1:(⟨#[115,101,108,101,99,116,32,77,44,32,76,32,119,104,101,114,101,32,109,101,109,111,114,121,40,77,44,32,95,44,32,95,44,32,78,44,32,76,41,44,32,78,32,61,32]⟩:ByteArray).size=45:=rfl
 repeat first|refine E6 ?_|refine E7 ?_;intro w hw
 refine lY (v:=.string (dJ cn)) ?_ (hy:=AG (a:=(⟨#[115,101,108,101,99,116,32,77,44,32,76,32,119,104,101,114,101,32,109,101,109,111,114,121,40,77,44,32,95,44,32,95,44,32,78,44,32,76,41,44,32,78,32,61,32]⟩:ByteArray)) (b:=Dy (cn:Int)) rfl rfl (by omega))
 refine C9 (vs:=[.string (dJ cn)]) ?_
 refine(QU (dJ cn) (by omega) hw).mono ?_
 clear hw;rintro e w ⟨Γ7,qs,qg,ghs,hle7,rfl,hqr,hw⟩
 rw[hpar]at hqr ⊢
 have hqr:QR Γ7 qs qg ghs (FQ cn):=hqr
 obtain⟨qa1,qn1,qc1,rfl,-,-⟩:=hqr.sel.shape;obtain⟨qa2,qn2,qc2,rfl,-,-⟩:=hqr.goals.shape;refine⟨_,rfl,?_⟩;repeat first|refine E6 ?_|refine E7 ?_;intro w hw
 refine B9 ?_;intro b17 w hw;refine B9 ?_;intro b18 w hw;refine B0 ?_;intro w hw;refine B0 ?_;intro w hw;have hw:Wd Γ7 (.blk b18 (.cells (enc (⟨0,0⟩:H9)).toArray 29)::.blk b17 (.cells #[.slice qa1 qn1 qc1,.slice qa2 qn2 qc2] 25)::.blk b6 (.cells (enc c).toArray 47)::.blk b5 (J2 H a1 n1 c1 a2 n2 c2 a3 n3 c3 a4 n4 c4 a5 n5 c5)::S) w:=hw
 obtain⟨hE,-⟩:=Oe hV (n:=(cn:Int)) hm4
 obtain⟨hmin1,hmin2⟩:=eR hV (n:=(cn:Int)) hm4
 rw[←hgs]at hE hmin1 hmin2
 repeat first|refine E6 ?_|refine E7 ?_;intro w hw
 refine C9 (vs:=[.slice fa fn fc,.agg #[.slice qa1 qn1 qc1,.slice qa2 qn2 qc2],.string Fh]) ?_
 refine(PO (p:=1) (hRL.mono hle7) hfl hqr (ZD (by unfold Hc;omega)) hE rfl (fun j hj=>?_) hw).mono ?_
 ·have:j=0:=by omega
  subst this;intro e;exact absurd (Option.some.inj e) (by decide)
 clear hw;rintro e w ⟨Γ8,vr,R,hle8,rfl,hRW,hrows,hw⟩
 refine⟨_,rfl,?_⟩;rw[←hrows]at hmin1 hmin2
 have hR8:=(hR6.mono hle7).mono hle8
 have hns8:=(hns6.mono hle7).mono hle8
 have hle:=hle.trans (hle7.trans hle8)
 haveI hBr8:QN Γ8:=hBr.mono hle
 have hrep:=hRW.rep
 obtain⟨ra,rn,rc,rfl,hrn,hrnc,hrc⟩:=hrep.shape;rw[List.length_map]at hrn;have hRl:(rowsOf R).length=R.length:=List.length_map ..
 clear hle7 hle8 hqr hE hR6 hns6 hRL t1 pI1 hpar hrows hgs;repeat first|refine E6 ?_|refine E7 ?_;intro w hw
 refine A0 rfl (fun h=>?_) (fun h=>?_)
 ·exfalso
  simp at h
 clear h;repeat first|refine E6 ?_|refine E7 ?_;intro w hw
 refine B3 (fun μ ρ w=>∃(k:Nat),μ+k=nn∧(∀j x,j<k→ys[j]? = some x→x.Node≠c.Node)∧Has ρ [(5,.pointer (some ⟨b5,0,none⟩)),(6,.pointer (some ⟨b6,0,none⟩)),(7,.slice na nn nc),(20,.slice ra rn rc),(22,.int .i64 k)]∧Wd Γ8 (.blk b18 (.cells (enc (⟨0,0⟩:H9)).toArray 29)::.blk b17 (.cells #[.slice qa1 qn1 qc1,.slice qa2 qn2 qc2] 25)::.blk b6 (.cells (enc c).toArray 47)::.blk b5 (J2 H a1 n1 c1 a2 n2 c2 a3 n3 c3 a4 n4 c4 a5 n5 c5)::S) w) nn ⟨0,by omega,(fun j x hj=>absurd hj (by omega)),⟨rfl,rfl,rfl,rfl,rfl,trivial⟩,hw⟩ ?_
 clear hw;rintro μ ρ w ⟨k,hμ,hno,hρ,hw⟩
 rw[hρ.eq];clear hρ;repeat first|refine E6 ?_|refine E7 ?_;intro w hw
 refine A0 rfl (fun h=>?_) (fun h=>?_)
 ·have hin:k<nn:=by have:=of_decide_eq_true h;omega
  clear h;obtain⟨x,hx⟩:=B2 (l:=ys) (k:=k) (by omega)
  have hxm:=hym x (List.mem_of_getElem? hx)
  have hxr:((ys.map (·.Name)).map IV)[k]? = some [.string x.Name]:=by rw[List.getElem?_map,List.getElem?_map,hx];rfl
  have pX:=SR (hh:=hR8) hval hxm
  repeat first|refine E6 ?_|refine E7 ?_;intro w hw
  refine G9 (by kernel_rfl) (by kernel_rfl) hw ?_
  refine X3 ?_;refine qY (v:=.string x.Name) ?_ (hy:=fun w hw=>G6 (k:=k) (u:=.string x.Name) rfl (hns8.rd hw) hxr)
  refine X3 ?_;refine qY (v:=.int .i64 x.Node) ?_ (hy:=fun w hw=>Av Tryz.underlying58 rfl (by kernel_rfl) rfl rfl)
  refine X3 ?_;intro w hw;refine A0 rfl (fun h=>?_) (fun h=>?_)
  ·have h:x.Node≠c.Node:=of_decide_eq_true h
   repeat first|refine E6 ?_|refine E7 ?_;intro w hw
   refine⟨μ-1,by omega,k+1,by omega,fun j y hj hy=>?_,⟨rfl,rfl,rfl,rfl,rfl,trivial⟩,hw⟩
   by_cases e:j=k
   ·subst e;rw[hx]at hy;cases hy;exact h
   ·exact hno j y (by omega) hy
  have h:x.Node=c.Node:=by
   by_cases e:x.Node=c.Node
   ·exact e
   ·exact absurd (decide_eq_true (show x.Node≠c.Node from e)) (by simp[h])
  have hself:N7 H c.Node c.Node=0:=by
   have h2:=Lu (a:=c.Node) (W4 hval) hcnn1
   unfold N7 fM;show (if S2 (G0 H.Links) c.Node c.Node<0 then BY else S2 (G0 H.Links) c.Node c.Node)=0
   rw[h2];rfl
  have hbest:∀m'∈H.Mems,m'.Node=(cn:Int)→x.Latency≤m'.Latency:=fun m' hm' hn'=>by
   obtain⟨j,hj⟩:=List.mem_iff_getElem?.1 (hyp.mem_iff.2 hm')
   have hkj:k≤j:=by
    apply Decidable.byContradiction
    intro q;exact hno j m' (by omega) hj (by omega)
   by_cases e:k=j
   ·subst e;rw[hx]at hj;cases hj;exact Int.le_refl _
   obtain⟨g1,g2⟩:=List.getElem?_eq_some_iff.1 hj
   obtain⟨g3,g4⟩:=List.getElem?_eq_some_iff.1 hx
   have:=List.pairwise_iff_getElem.1 hys k j g3 g1 (by omega)
   rw[g2,g4]at this;unfold I0 at this;rw[h,show m'.Node=c.Node by omega,hself]at this
   omega
  obtain⟨j0,hj0⟩:=List.mem_iff_getElem?.1 (hmin1 x hxm (by omega) hbest)
  have hj0l:=(List.getElem?_eq_some_iff.1 hj0).1
  have pA:=To (Γ:=Γ8)
  have pWd:=Zs Γ8 x.Name
  repeat first|refine E6 ?_|refine E7 ?_;intro w hw
  refine B3 (fun μ ρ w=>∃(j:Nat),μ+j=rn∧j≤j0∧Has ρ [(5,.pointer (some ⟨b5,0,none⟩)),(6,.pointer (some ⟨b6,0,none⟩)),(7,.slice na nn nc),(20,.slice ra rn rc),(22,.int .i64 k),(23,.int .i64 j)]∧Wd Γ8 (.blk b18 (.cells (enc (⟨0,0⟩:H9)).toArray 29)::.blk b17 (.cells #[.slice qa1 qn1 qc1,.slice qa2 qn2 qc2] 25)::.blk b6 (.cells (enc c).toArray 47)::.blk b5 (J2 H a1 n1 c1 a2 n2 c2 a3 n3 c3 a4 n4 c4 a5 n5 c5)::S) w) rn ⟨0,by omega,by omega,⟨rfl,rfl,rfl,rfl,rfl,rfl,trivial⟩,hw⟩ ?_
  clear hw;rintro μ2 ρ w ⟨j,hμ2,hjj,hρ,hw⟩
  rw[hρ.eq];clear hρ;repeat first|refine E6 ?_|refine E7 ?_;intro w hw
  refine A0 rfl (fun h2=>?_) (fun h2=>?_)
  ·have hjn:j<rn:=by have:=of_decide_eq_true h2;omega
   clear h2;obtain⟨⟨pv,pr⟩,hp⟩:=B2 (l:=R) (k:=j) (by omega)
   have hpr:(rowsOf R)[j]? = some pr:=by unfold rowsOf;rw[List.getElem?_map,hp];rfl
   obtain⟨m',hm',hn',rfl⟩:=hmin2 pr (List.mem_of_getElem? hpr)
   have hpo:D7 Γ8 pv 3 ([wF m'.Name,iF m'.Latency].map enc):=hRW.ok _ (List.mem_of_getElem? hp)
   obtain⟨pa,pn,pc,rfl,hpn,hpnc,hpc⟩:=hpo.shape;have hpn:pn=2:=hpn
   subst hpn;have hrr:(R.map cR)[j]? = some [.slice pa 2 pc]:=by rw[List.getElem?_map,hp];rfl
   repeat first|refine E6 ?_|refine E7 ?_;intro w hw
   refine G9 (by kernel_rfl) (by kernel_rfl) hw ?_
   refine X3 ?_;refine qG (v:=.agg (enc (wF m'.Name)).toArray) ?_ (hy:=by intro hc w hw;exact P0 (k:=0) (r:=enc (wF m'.Name)) B4 (hpo.rd hw) rfl)
   refine X3 ?_;refine qG ?_ (hy:=by intro hc w hw;exact AF (hns8.rd hw) B4 B4 (by omega) (by omega) (hm:=by simp only[List.length_map];omega))
   refine qG (v:=.string x.Name) ?_ (hy:=by intro hc w hw;exact G6 (k:=k) (u:=.string x.Name) B4 (hns8.rd hw) hxr)
   refine X3 ?_;refine qG (v:=.bool (decide (wF m'.Name=wF x.Name))) ?_ (hy:=by intro hc w hw;exact Fl (a:=wF m'.Name) (b:=wF x.Name) B4 B4 rfl)
   refine X3 ?_;intro w hw;refine A0 rfl (fun h3=>?_) (fun h3=>?_)
   ·repeat first|refine E6 ?_|refine E7 ?_;intro w hw
    exact⟨_,rfl,Γ8,hle,rfl,hw.ds [0,0,0,0]⟩
   ·have h3:¬wF m'.Name=wF x.Name:=fun e=>by simp[e]at h3
    have hne:j≠j0:=fun e=>by
     subst e;rw[hj0]at hpr;exact h3 (List.cons.inj (Option.some.inj hpr)).1.symm
    repeat first|refine E6 ?_|refine E7 ?_;intro w hw
    exact⟨μ2-1,by omega,j+1,by omega,by omega,⟨rfl,rfl,rfl,rfl,rfl,rfl,trivial⟩,hw⟩
  ·exfalso
   have:=of_decide_eq_false h2
   omega
 ·have hin:¬k<nn:=by have:=of_decide_eq_false h;omega
  have hR0:R.length=0:=by
   rcases Nat.eq_zero_or_pos R.length with e|e
   ·exact e
   exfalso
   obtain⟨y,hy⟩:=B2 (l:=rowsOf R) (k:=0) (by omega)
   obtain⟨m',hm',hn',-⟩:=hmin2 y (List.mem_of_getElem? hy)
   obtain⟨j,hj⟩:=List.mem_iff_getElem?.1 (hyp.mem_iff.2 hm')
   exact hno j m' (by have:=(List.getElem?_eq_some_iff.1 hj).1;omega) hj (by omega)
  have pA:=To (Γ:=Γ8)
  repeat first|refine E6 ?_|refine E7 ?_;intro w hw
  exact⟨_,rfl,Γ8,hle,F2 rfl (by simp;omega),hw.ds [0,0,0,0]⟩
end Go.Proofs.YtlmiakjbogojgaaGreatDoor
end
