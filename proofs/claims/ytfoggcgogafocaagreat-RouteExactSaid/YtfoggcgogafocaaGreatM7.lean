/- Texts of this proof, one behind another. -/
import Derived.Test.YtfoggcgogafocaaGreatM6
import Derived.Test.YtfoggcgogafocaaGreatM2
import Derived.Shelf.Lays
import Derived.Shelf.Lays2
import Derived.Test.YtfoggcgogafocaaGreatM3
import Derived.Test.YtfoggcgogafocaaGreatM5
set_option linter.unusedVariables false
set_option linter.unusedSimpArgs false
section
open Go Mk
namespace Go.Proofs.YtfoggcgogafocaaGreat
set_option maxHeartbeats 8000000
attribute [local irreducible] Calls
inductive AnyV where
 | i (n:Int)
 | u (n:Int)
 | w (s:ByteArray)
def AnyV.val:AnyV→Value
 | .i n=>.iface 3 (.int .i64 n)
 | .u n=>.iface 80 (.int .u64 n)
 | .w s=>.iface 9 (.string s)
def AnyV.fv:AnyV→Val
 | .i n=>iF n
 | .u n=>sF n
 | .w s=>wF s
def anyRows(xs:List AnyV):List (List Value):=xs.map fun x=>[x.val]
instance tco_i:TCo Tryz.prog 3:=⟨by kernel_rfl⟩
instance tco_u:TCo Tryz.prog 80:=⟨by kernel_rfl⟩
instance tco_w:TCo Tryz.prog 9:=⟨by kernel_rfl⟩
theorem fact_any{Γ:Gho}{S:List Res}{w:World}{va:Value}{rel:ByteArray}(xs:List AnyV)(hr:RdS Γ S va 1 (anyRows xs))(hl:xs.length≤1000)(hw:Wd Γ S w) :
  Calls Tryz.prog 93 #[.string rel,va] w fun e w'=>∃f:FactH,e=.returned (.agg (cF f).toArray)∧f.fact=(rel,xs.map AnyV.fv)∧Wd Γ (.own f.hdr 41 3 (f.Args.map enc)::S) w':=by
 obtain⟨a,n,c,rfl,hn,hnc,hc⟩:=hr.shape;simp only[anyRows,List.length_map]at hn
 refine calls_of_WC Tryz.func93 rfl rfl ?_
 repeat first|refine byW ?_|refine byV ?_;intro w hw
 refine lAlloc ?_;intro b4 w hw;repeat first|refine byW ?_|refine byV ?_;intro w hw
 refine lAlloc ?_;intro b5 w hw;refine lStore ?_;intro w hw;have hw:Wd Γ (.blk b5 (.cells #[.string rel,.slice none 0 0] 67)::.blk b4 (.cells #[.string ⟨#[]⟩,.slice none 0 0] 67)::S) w:=hw
 have hw:=Wd.addNil (a:=none) (E:=41) (sz:=3) hw
 repeat first|refine byW ?_|refine byV ?_;intro w hw
 refine W_loop (fun μ ρ w=>∃(k:Nat) (A:Option Addr) (N C:Nat),μ+k=n∧Has ρ [(4,.pointer (some ⟨b4,0,none⟩)),(5,.pointer (some ⟨b5,0,none⟩)),(13,.slice a n c),(14,.int .i64 n),(15,.int .i64 k)]∧Wd Γ (.own (.slice A N C) 41 3 (((xs.take k).map AnyV.fv).map enc)::.blk b5 (.cells #[.string rel,.slice A N C] 67)::.blk b4 (.cells #[.string ⟨#[]⟩,.slice none 0 0] 67)::S) w) n ⟨0,none,0,0,by omega,⟨rfl,rfl,rfl,rfl,rfl,trivial⟩,hw⟩ ?_
 clear hw;rintro μ ρ w ⟨k,A,N,C,hk,hρ,hw⟩
 rw[hρ.eq];clear hρ;repeat first|refine byW ?_|refine byV ?_;intro w hw
 refine W_cond rfl (fun h=>?_) (fun h=>?_)
 ·have hkn:k<n:=by have:=of_decide_eq_true h;omega
  clear h;obtain⟨x,hx⟩:=get_lt (l:=xs) (k:=k) (by omega)
  have hN:N=k:=by
   obtain⟨_,_,_,hE,hN,-,-⟩:=hw.own_shape (i:=0) rfl
   cases hE
   simp only[List.length_map,List.length_take]at hN
   omega
  have hd:RdS Γ (.own (.slice A N C) 41 3 (((xs.take k).map AnyV.fv).map enc)::.blk b5 (.cells #[.string rel,.slice A N C] 67)::.blk b4 (.cells #[.string ⟨#[]⟩,.slice none 0 0] 67)::S) (.slice a n c) 1 (xs.map fun x=>[x.val]):=hr.cons.cons.cons
  cases x with
  | i n=>
   have hdx:=rows_map (enc:=fun x:AnyV=>[x.val]) hx
   repeat first|refine byW ?_|refine byV ?_;intro w hw
   refine lY (v:=.tuple #[.int .i64 n,.bool true]) ?_ (hy:=y_isT (v:=.int .i64 n) rfl)
   repeat first|refine byW ?_|refine byV ?_;intro w hw
   refine W_cond rfl (fun _=>?_) (fun h=>by cases h)
   repeat first|refine byW ?_|refine byV ?_;intro w hw
   refine lBuildSlice [enc (iF n)] ?_
   intro q w hw;repeat first|refine byW ?_|refine byV ?_;intro w hw
   refine lApp (i:=1) (rows2:=[enc (iF n)]) ?_ (Wd.own_rd (i:=0) hw rfl)
   intro v' w hw;have hw:=hw.drop
   obtain⟨A2,N2,C2,rfl,-,-,-⟩:=hw.own_shape (i:=0) rfl
   repeat first|refine byW ?_|refine byV ?_;intro w hw
   refine lStore ?_;intro w hw;repeat first|refine byW ?_|refine byV ?_;intro w hw
   refine⟨μ-1,by omega,k+1,A2,N2,C2,by omega,⟨rfl,rfl,rfl,rfl,rfl,trivial⟩,?_⟩
   rw[take_succ_of hx,List.map_append,List.map_append];exact hw
  | u n=>
   have hdx:=rows_map (enc:=fun x:AnyV=>[x.val]) hx
   repeat first|refine byW ?_|refine byV ?_;intro w hw
   refine lY (v:=.tuple #[.int .i64 0,.bool false]) ?_ (hy:=y_isF (z:=.int .i64 0) (v:=.int .u64 n) (V:=80) rfl rfl)
   repeat first|refine byW ?_|refine byV ?_;intro w hw
   refine W_cond rfl (fun h=>by cases h) (fun _=>?_)
   repeat first|refine byW ?_|refine byV ?_;intro w hw
   refine lY (v:=.tuple #[.int .u64 n,.bool true]) ?_ (hy:=y_isT (v:=.int .u64 n) rfl)
   repeat first|refine byW ?_|refine byV ?_;intro w hw
   refine W_cond rfl (fun _=>?_) (fun h=>by cases h)
   repeat first|refine byW ?_|refine byV ?_;intro w hw
   refine lBuildSlice [enc (sF n)] ?_
   intro q w hw;repeat first|refine byW ?_|refine byV ?_;intro w hw
   refine lApp (i:=1) (rows2:=[enc (sF n)]) ?_ (Wd.own_rd (i:=0) hw rfl)
   intro v' w hw;have hw:=hw.drop
   obtain⟨A2,N2,C2,rfl,-,-,-⟩:=hw.own_shape (i:=0) rfl
   repeat first|refine byW ?_|refine byV ?_;intro w hw
   refine lStore ?_;intro w hw;repeat first|refine byW ?_|refine byV ?_;intro w hw
   refine⟨μ-1,by omega,k+1,A2,N2,C2,by omega,⟨rfl,rfl,rfl,rfl,rfl,trivial⟩,?_⟩
   rw[take_succ_of hx,List.map_append,List.map_append];exact hw
  | w n=>
   have hdx:=rows_map (enc:=fun x:AnyV=>[x.val]) hx
   repeat first|refine byW ?_|refine byV ?_;intro w hw
   refine lY (v:=.tuple #[.int .i64 0,.bool false]) ?_ (hy:=y_isF (z:=.int .i64 0) (v:=.string n) (V:=9) rfl rfl)
   repeat first|refine byW ?_|refine byV ?_;intro w hw
   refine W_cond rfl (fun h=>by cases h) (fun _=>?_)
   repeat first|refine byW ?_|refine byV ?_;intro w hw
   refine lY (v:=.tuple #[.int .u64 0,.bool false]) ?_ (hy:=y_isF (z:=.int .u64 0) (v:=.string n) (V:=9) rfl rfl)
   repeat first|refine byW ?_|refine byV ?_;intro w hw
   refine W_cond rfl (fun h=>by cases h) (fun _=>?_)
   repeat first|refine byW ?_|refine byV ?_;intro w hw
   refine lY (v:=.tuple #[.string n,.bool true]) ?_ (hy:=y_isT (v:=.string n) rfl)
   repeat first|refine byW ?_|refine byV ?_;intro w hw
   refine W_cond rfl (fun _=>?_) (fun h=>by cases h)
   repeat first|refine byW ?_|refine byV ?_;intro w hw
   refine lBuildSlice [enc (wF n)] ?_
   intro q w hw;repeat first|refine byW ?_|refine byV ?_;intro w hw
   refine lApp (i:=1) (rows2:=[enc (wF n)]) ?_ (Wd.own_rd (i:=0) hw rfl)
   intro v' w hw;have hw:=hw.drop
   obtain⟨A2,N2,C2,rfl,-,-,-⟩:=hw.own_shape (i:=0) rfl
   repeat first|refine byW ?_|refine byV ?_;intro w hw
   refine lStore ?_;intro w hw;repeat first|refine byW ?_|refine byV ?_;intro w hw
   refine⟨μ-1,by omega,k+1,A2,N2,C2,by omega,⟨rfl,rfl,rfl,rfl,rfl,trivial⟩,?_⟩
   rw[take_succ_of hx,List.map_append,List.map_append];exact hw
 ·have hkn:¬k<n:=by have:=of_decide_eq_false h;omega
  clear h;rw[List.take_of_length_le (by omega)]at hw
  repeat first|refine byW ?_|refine byV ?_;intro w hw
  refine lStore ?_;intro w hw;have hw:Wd Γ (.own (.slice A N C) 41 3 ((xs.map AnyV.fv).map enc)::.blk b5 (.cells #[.string rel,.slice A N C] 67)::.blk b4 (.cells (cF ⟨rel,A,N,C,xs.map AnyV.fv⟩).toArray 67)::S) w:=hw
  repeat first|refine byW ?_|refine byV ?_;intro w hw
  exact⟨[.agg (cF ⟨rel,A,N,C,xs.map AnyV.fv⟩).toArray],⟨resC (i:=2) hw rfl rfl rfl,trivial⟩,⟨rel,A,N,C,xs.map AnyV.fv⟩,rfl,rfl,(hw.dropAt 2).dropAt 1⟩
end Go.Proofs.YtfoggcgogafocaaGreat
end
section
open Go Mk
namespace Go.Proofs.YtfoggcgogafocaaGreat
set_option maxHeartbeats 16000000
attribute [local irreducible] Calls cFact validS
theorem PFromHw_any{Γ:Gho}{S:List Res}{w:World}{u:Value}{H:HwT}[hh:HwR Γ u H](hw:Wd Γ S w) :
  Calls Tryz.prog 47 #[u] w fun e w'=>∃Γ' v gs,Γ.le Γ'∧e=.returned (.tuple #[v,.int .i64 (validS H)])∧facts gs=(if validS H=0 then setS (hwFacts H) else [])∧FsOk Γ' gs∧Wd Γ' (.own v 67 2 (gs.map cF)::S) w':=by
 have pV:=pg_Validate (hh:=hh)
 obtain⟨a1,n1,c1,a2,n2,c2,a3,n3,c3,a4,n4,c4,a5,n5,c5,cs',rfl,hcs,hok',hsz,r1,r2,r3,r4,r5⟩:=hh.h;have q1:=rep_facts r1
 have q2:=rep_facts r2
 have q3:=rep_facts r3
 have q4:=rep_facts r4
 have q5:=rep_facts r5
 simp only[List.length_map]at q1 q2 q3 q4 q5
 have e5:(hwFacts H).length=(hwB4 H).length+H.Devs.length:=by unfold hwFacts;simp
 have e4:(hwB4 H).length=(hwB3 H).length+H.Mems.length:=by unfold hwB4;simp
 have e3:(hwB3 H).length=(hwB2 H).length+H.Links.length:=by unfold hwB3;simp
 have e2:(hwB2 H).length=(hwB1 H).length+(H.Caches.flatMap cacheFs).length:=by unfold hwB2;simp
 have e1:(hwB1 H).length=(hwB0 H).length+H.Cores.length:=by unfold hwB1;simp
 refine calls_of_W Tryz.func47 rfl rfl ?_
 repeat first|refine byW ?_|refine byV ?_;intro w hw
 refine lBox ?_;intro b1 w hw;have hw:Wd Γ (.blk b1 (.cells #[.string H.Name,.slice a1 n1 c1,.slice a2 n2 c2,.slice a3 n3 c3,.slice a4 n4 c4,.slice a5 n5 c5] 30)::S) w:=hw
 repeat first|refine byW ?_|refine byV ?_;intro w hw
 refine W_cond rfl (fun h=>?_) (fun h=>?_)
 ·have h:validS H≠0:=of_decide_eq_true h
  repeat first|refine byW ?_|refine byV ?_;intro w hw
  refine⟨_,rfl,Γ,.slice none 0 0,[],.refl _,rfl,by rw[if_neg h];rfl,fun f hf=>(by cases hf),Wd.addNil hw.drop⟩
 have h0:validS H=0:=by have:=of_decide_eq_false h;omega
 have hV:=valid_iff.1 h0
 have hB:=hw_few hV
 rw[h0];clear h pV;repeat first|refine byW ?_|refine byV ?_;intro w hw
 refine lY (v:=.iface 9 (.string (H.Name))) ?_ (hy:=y_mkI rfl)
 repeat first|refine byW ?_|refine byV ?_;intro w hw
 refine lBuildSlice (anyRows [AnyV.w (H.Name)]) ?_
 intro qa w hw;repeat first|refine byW ?_|refine byV ?_;intro w hw
 refine lCall (vs:=[.string machB,.slice (some qa) 1 1]) ?_
 refine(fact_any [AnyV.w (H.Name)] (RdS.own (i:=0) hw rfl) (by simp) hw).mono ?_
 clear hw;rintro e w ⟨f,rfl,hff,hw⟩
 have hff:f.fact=(machB,[wF H.Name]):=hff
 refine⟨_,rfl,?_⟩;obtain⟨Γ2,hle2,hokf,hw⟩:=hw.freeze;have hw:=hw.drop
 repeat first|refine byW ?_|refine byV ?_;intro w hw
 refine lBuildSlice [cF f] ?_
 intro qb w hw;repeat first|refine byW ?_|refine byV ?_;intro w hw
 have hw:Wd Γ2 (.own (.slice (some qb) 1 1) 67 2 (([f]:List FactH).map cF)::.blk b1 (.cells #[.string H.Name,.slice a1 n1 c1,.slice a2 n2 c2,.slice a3 n3 c3,.slice a4 n4 c4,.slice a5 n5 c5] 30)::S) w:=hw
 repeat first|refine byW ?_|refine byV ?_;intro w hw
 refine W_loop (fun μ ρ w=>∃(k:Nat) (g:Value) (Γ':Gho) (fs:List FactH),μ+k=n1∧Has ρ [(1,.pointer (some ⟨b1,0,none⟩)),(5,g),(30,.slice a1 n1 c1),(31,.int .i64 n1),(32,.int .i64 k)]∧Γ.le Γ'∧(∀f∈fs,FOk Γ' f)∧facts fs=hwB0 H++(H.Cores.take k).map coreF∧Wd Γ' (.own g 67 2 (fs.map cF)::.blk b1 (.cells #[.string H.Name,.slice a1 n1 c1,.slice a2 n2 c2,.slice a3 n3 c3,.slice a4 n4 c4,.slice a5 n5 c5] 30)::S) w) n1 ⟨0,_,Γ2,[f],by omega,⟨rfl,rfl,rfl,rfl,rfl,trivial⟩,hle2,fun x hx=>by rw[List.mem_singleton.1 hx];exact hokf,by rw[List.take_zero,List.map_nil,List.append_nil];show [f.fact]=_;rw[hff];rfl,hw⟩ ?_
 clear hw hff hokf hle2;rintro μ ρ w ⟨k,g,Γ',fs,hk,hρ,hle,hok,hfs,hw⟩
 rw[hρ.eq];clear hρ;obtain⟨ag,ng,cg,rfl,hng,hngc,hcg⟩:=hw.own_shape (i:=0) rfl
 simp only[List.length_map]at hng
 have hfl:fs.length≤50000:=by
  have:=congrArg List.length hfs
  unfold facts at this;simp only[List.length_append,List.length_map,List.length_take]at this
  omega
 have rr:=r1.mono hle
 repeat first|refine byW ?_|refine byV ?_;intro w hw
 refine W_cond rfl (fun h=>?_) (fun h=>?_)
 ·have hkn:k<n1:=by have:=of_decide_eq_true h;omega
  clear h;obtain⟨x,hx⟩:=get_lt (l:=H.Cores) (k:=k) (by omega)
  repeat first|refine byW ?_|refine byV ?_;intro w hw
  refine lAlloc ?_;intro b9 w hw;refine lStore ?_;intro w hw;have hw:Wd Γ' (.blk b9 (.cells (enc x).toArray 37)::.own (.slice ag ng cg) 67 2 (fs.map cF)::.blk b1 (.cells #[.string H.Name,.slice a1 n1 c1,.slice a2 n2 c2,.slice a3 n3 c3,.slice a4 n4 c4,.slice a5 n5 c5] 30)::S) w:=hw
  repeat first|refine byW ?_|refine byV ?_;intro w hw
  refine lY (v:=.iface 3 (.int .i64 (x.ID))) ?_ (hy:=y_mkI rfl)
  repeat first|refine byW ?_|refine byV ?_;intro w hw
  refine lY (v:=.iface 3 (.int .i64 (x.Width))) ?_ (hy:=y_mkI rfl)
  repeat first|refine byW ?_|refine byV ?_;intro w hw
  refine lY (v:=.iface 3 (.int .i64 (x.Node))) ?_ (hy:=y_mkI rfl)
  repeat first|refine byW ?_|refine byV ?_;intro w hw
  refine lY (v:=.iface 3 (.int .i64 (x.Speed))) ?_ (hy:=y_mkI rfl)
  repeat first|refine byW ?_|refine byV ?_;intro w hw
  refine lBuildSlice (anyRows [AnyV.i (x.ID),AnyV.i (x.Width),AnyV.i (x.Node),AnyV.i (x.Speed)]) ?_
  intro qa w hw;repeat first|refine byW ?_|refine byV ?_;intro w hw
  refine lCall (vs:=[.string coreB,.slice (some qa) 4 4]) ?_
  refine(fact_any [AnyV.i (x.ID),AnyV.i (x.Width),AnyV.i (x.Node),AnyV.i (x.Speed)] (RdS.own (i:=0) hw rfl) (by simp) hw).mono ?_
  clear hw;rintro e w ⟨f,rfl,hff,hw⟩
  have hff:f.fact=coreF x:=hff
  refine⟨_,rfl,?_⟩;obtain⟨Γ2,hle2,hokf,hw⟩:=hw.freeze;have hw:=hw.drop
  repeat first|refine byW ?_|refine byV ?_;intro w hw
  refine lBuildSlice [cF f] ?_
  intro qb w hw;repeat first|refine byW ?_|refine byV ?_;intro w hw
  refine lApp (i:=2) (rows2:=[cF f]) ?_ (Wd.own_rd (i:=0) hw rfl) (m2:=1) (c2:=1)
  intro t1 w hw;have hw:=hw.drop
  rw[show fs.map cF++[cF f]=(fs++[f]).map cF from by simp]at hw
  have hok2:∀x∈fs++[f],FOk Γ2 x:=fun x hx=>(List.mem_append.1 hx).elim (fun h=>(hok x h).mono hle2) fun h=>by rw[List.mem_singleton.1 h];exact hokf
  have hw:Wd Γ2 (.own t1 67 2 ((fs++[f]).map cF)::.blk b1 (.cells #[.string H.Name,.slice a1 n1 c1,.slice a2 n2 c2,.slice a3 n3 c3,.slice a4 n4 c4,.slice a5 n5 c5] 30)::S) w:=hw.drop
  repeat first|refine byW ?_|refine byV ?_;intro w hw
  refine⟨μ-1,by omega,k+1,t1,Γ2,fs++[f],by omega,⟨rfl,rfl,rfl,rfl,rfl,trivial⟩,hle.trans hle2,hok2,?_,hw⟩
  have h1:facts (fs++[f])=facts fs++[f.fact]:=by unfold facts;rw[List.map_append];rfl
  rw[h1,hfs,hff,List.take_add_one,hx,List.map_append,←List.append_assoc];rfl
 have hkn:n1≤k:=by have:=of_decide_eq_false h;omega
 clear h;rw[List.take_of_length_le (by omega)]at hfs
 have hfs:facts fs=hwB1 H:=hfs
 have hle0:=hle
 clear rr hkn hk hle;repeat first|refine byW ?_|refine byV ?_;intro w hw
 refine W_loop (fun μ ρ w=>∃(k:Nat) (g:Value) (Γ':Gho) (fs:List FactH),μ+k=n2∧Has ρ [(1,.pointer (some ⟨b1,0,none⟩)),(5,g),(55,.slice a2 n2 c2),(56,.int .i64 n2),(57,.int .i64 k)]∧Γ.le Γ'∧(∀f∈fs,FOk Γ' f)∧facts fs=hwB1 H++(cs'.take k).flatMap (fun c=>cacheFs c.T)∧Wd Γ' (.own g 67 2 (fs.map cF)::.blk b1 (.cells #[.string H.Name,.slice a1 n1 c1,.slice a2 n2 c2,.slice a3 n3 c3,.slice a4 n4 c4,.slice a5 n5 c5] 30)::S) w) n2 ⟨0,_,Γ',fs,by omega,⟨rfl,rfl,rfl,rfl,rfl,trivial⟩,hle0,hok,by rw[List.take_zero,List.flatMap_nil,List.append_nil];exact hfs,hw⟩ ?_
 clear hw;rintro μ ρ w ⟨k,g,Γ',fs,hk,hρ,hle,hok,hfs,hw⟩
 rw[hρ.eq];clear hρ;obtain⟨ag,ng,cg,rfl,hng,hngc,hcg⟩:=hw.own_shape (i:=0) rfl
 simp only[List.length_map]at hng
 have hfl:fs.length≤50000:=by
  have:=congrArg List.length hfs
  unfold facts at this;rw[List.length_append,List.length_map]at this;have h3:=fm_take_len (g:=fun c:CacheH=>cacheFs c.T) (l:=cs') k
  have h4:(H.Caches.flatMap cacheFs).length=(cs'.flatMap fun c=>cacheFs c.T).length:=by rw[←hcs,List.flatMap_map]
  omega
 have rr:=r2.mono hle
 repeat first|refine byW ?_|refine byV ?_;intro w hw
 refine W_cond rfl (fun h=>?_) (fun h=>?_)
 ·have hkn:k<n2:=by have:=of_decide_eq_true h;omega
  clear h;obtain⟨x,hx⟩:=get_lt (l:=cs') (k:=k) (by omega)
  repeat first|refine byW ?_|refine byV ?_;intro w hw
  refine lAlloc ?_;intro b9 w hw;refine lStore ?_;intro w hw;have hw:Wd Γ' (.blk b9 (.cells (cC x).toArray 89)::.own (.slice ag ng cg) 67 2 (fs.map cF)::.blk b1 (.cells #[.string H.Name,.slice a1 n1 c1,.slice a2 n2 c2,.slice a3 n3 c3,.slice a4 n4 c4,.slice a5 n5 c5] 30)::S) w:=hw
  repeat first|refine byW ?_|refine byV ?_;intro w hw
  refine lY (v:=.iface 9 (.string (x.Name))) ?_ (hy:=y_mkI rfl)
  repeat first|refine byW ?_|refine byV ?_;intro w hw
  refine lY (v:=.iface 3 (.int .i64 (x.Level))) ?_ (hy:=y_mkI rfl)
  repeat first|refine byW ?_|refine byV ?_;intro w hw
  refine lY (v:=.iface 80 (.int .u64 (x.Size))) ?_ (hy:=y_mkI rfl)
  repeat first|refine byW ?_|refine byV ?_;intro w hw
  refine lY (v:=.iface 3 (.int .i64 (x.Line))) ?_ (hy:=y_mkI rfl)
  repeat first|refine byW ?_|refine byV ?_;intro w hw
  refine lBuildSlice (anyRows [AnyV.w (x.Name),AnyV.i (x.Level),AnyV.u (x.Size),AnyV.i (x.Line)]) ?_
  intro qa w hw;repeat first|refine byW ?_|refine byV ?_;intro w hw
  refine lCall (vs:=[.string cacheB,.slice (some qa) 4 4]) ?_
  refine(fact_any [AnyV.w (x.Name),AnyV.i (x.Level),AnyV.u (x.Size),AnyV.i (x.Line)] (RdS.own (i:=0) hw rfl) (by simp) hw).mono ?_
  clear hw;rintro e w ⟨f,rfl,hff,hw⟩
  have hff:f.fact=cacheF x.T:=hff
  refine⟨_,rfl,?_⟩;obtain⟨Γ2,hle2,hokf,hw⟩:=hw.freeze;have hw:=hw.drop
  repeat first|refine byW ?_|refine byV ?_;intro w hw
  refine lBuildSlice [cF f] ?_
  intro qb w hw;repeat first|refine byW ?_|refine byV ?_;intro w hw
  refine lApp (i:=2) (rows2:=[cF f]) ?_ (Wd.own_rd (i:=0) hw rfl) (m2:=1) (c2:=1)
  intro t1 w hw;have hw:=hw.drop
  rw[show fs.map cF++[cF f]=(fs++[f]).map cF from by simp]at hw
  have hok2:∀x∈fs++[f],FOk Γ2 x:=fun x hx=>(List.mem_append.1 hx).elim (fun h=>(hok x h).mono hle2) fun h=>by rw[List.mem_singleton.1 h];exact hokf
  have hw:Wd Γ2 (.blk b9 (.cells (cC x).toArray 89)::.own t1 67 2 ((fs++[f]).map cF)::.blk b1 (.cells #[.string H.Name,.slice a1 n1 c1,.slice a2 n2 c2,.slice a3 n3 c3,.slice a4 n4 c4,.slice a5 n5 c5] 30)::S) w:=hw
  have hxo:COk Γ2 x:=COk.mono (hok' x (List.mem_of_getElem? hx)) (hle.trans hle2)
  have hbase:facts (fs++[f])=(hwB1 H++(cs'.take k).flatMap (fun c=>cacheFs c.T))++[cacheF x.T]:=by
   have h1:facts (fs++[f])=facts fs++[f.fact]:=by unfold facts;rw[List.map_append];rfl
   rw[h1,hfs,hff]
  have hle2':=hle.trans hle2
  have rx2:RepS Γ2 (.slice x.A x.N x.C) 1 (intRows x.Cores):=hxo
  repeat first|refine byW ?_|refine byV ?_;intro w hw
  refine W_loop (fun μ2 ρ w=>∃(j:Nat) (g:Value) (Γ':Gho) (fs:List FactH),μ2+j=x.N∧Has ρ [(1,.pointer (some ⟨b1,0,none⟩)),(5,g),(9,.pointer (some ⟨b9,0,none⟩)),(55,.slice a2 n2 c2),(56,.int .i64 n2),(57,.int .i64 k),(79,.slice x.A x.N x.C),(80,.int .i64 x.N),(81,.int .i64 j)]∧Γ2.le Γ'∧(∀f∈fs,FOk Γ' f)∧facts fs=((hwB1 H++(cs'.take k).flatMap (fun c=>cacheFs c.T))++[cacheF x.T])++(x.Cores.take j).map (shareF x.T)∧Wd Γ' (.blk b9 (.cells (cC x).toArray 89)::.own g 67 2 (fs.map cF)::.blk b1 (.cells #[.string H.Name,.slice a1 n1 c1,.slice a2 n2 c2,.slice a3 n3 c3,.slice a4 n4 c4,.slice a5 n5 c5] 30)::S) w) x.N ⟨0,t1,Γ2,fs++[f],by omega,⟨rfl,rfl,rfl,rfl,rfl,rfl,rfl,rfl,rfl,trivial⟩,Gho.le.refl _,hok2,by rw[List.take_zero,List.map_nil,List.append_nil];exact hbase,hw⟩ ?_
  clear hw hokf hok2 hff hbase;clear hfl hng;rename_i gOld
  clear hok hle;rintro μ2 ρ w ⟨j,g,Γ',fs,hj,hρ,hle,hok,hfs,hw⟩
  rw[hρ.eq];clear hρ;obtain⟨ag,ng,cg,rfl,hng,hngc,hcg⟩:=hw.own_shape (i:=1) rfl
  simp only[List.length_map]at hng
  have hfl:fs.length≤50000:=by
   have:=congrArg List.length hfs
   unfold facts at this;rw[List.length_map,List.length_append,List.length_append,List.length_append,List.length_map,List.length_take]at this;have h2:(cs'.take (k+1)).flatMap (fun c=>cacheFs c.T)=(cs'.take k).flatMap (fun c=>cacheFs c.T)++cacheFs x.T:=by rw[List.take_add_one,hx];simp
   have h3:=fm_take_len (g:=fun c:CacheH=>cacheFs c.T) (l:=cs') (k+1)
   have h4:(H.Caches.flatMap cacheFs).length=(cs'.flatMap fun c=>cacheFs c.T).length:=by rw[←hcs,List.flatMap_map]
   have h5:(cacheFs x.T).length=x.Cores.length+1:=by unfold cacheFs;simp[CacheH.T]
   rw[h2,List.length_append]at h3;simp only[List.length_cons,List.length_nil]at this
   omega
  have rr2:RepS Γ' (.slice x.A x.N x.C) 1 (intRows x.Cores):=rx2.mono hle
  have hxn:x.N=x.Cores.length:=by have:=(rep_facts rr2).1;unfold intRows at this;rwa [List.length_map]at this
  have hxc:=(rep_facts rr2).2
  repeat first|refine byW ?_|refine byV ?_;intro w hw
  refine W_cond rfl (fun h=>?_) (fun h=>?_)
  ·have hjn:j<x.N:=by have:=of_decide_eq_true h;omega
   clear h;obtain⟨y,hy⟩:=get_lt (l:=x.Cores) (k:=j) (by omega)
   repeat first|refine byW ?_|refine byV ?_;intro w hw
   refine lY (v:=.iface 9 (.string (x.Name))) ?_ (hy:=y_mkI rfl)
   repeat first|refine byW ?_|refine byV ?_;intro w hw
   refine lY (v:=.iface 3 (.int .i64 (y))) ?_ (hy:=y_mkI rfl)
   repeat first|refine byW ?_|refine byV ?_;intro w hw
   refine lBuildSlice (anyRows [AnyV.w (x.Name),AnyV.i (y)]) ?_
   intro qa w hw;repeat first|refine byW ?_|refine byV ?_;intro w hw
   refine lCall (vs:=[.string sharesB,.slice (some qa) 2 2]) ?_
   refine(fact_any [AnyV.w (x.Name),AnyV.i (y)] (RdS.own (i:=0) hw rfl) (by simp) hw).mono ?_
   clear hw;rintro e w ⟨f,rfl,hff,hw⟩
   have hff:f.fact=shareF x.T y:=hff
   refine⟨_,rfl,?_⟩;obtain⟨Γ2,hle2,hokf,hw⟩:=hw.freeze;have hw:=hw.drop
   repeat first|refine byW ?_|refine byV ?_;intro w hw
   refine lBuildSlice [cF f] ?_
   intro qb w hw;repeat first|refine byW ?_|refine byV ?_;intro w hw
   refine lApp (i:=2) (rows2:=[cF f]) ?_ (Wd.own_rd (i:=0) hw rfl) (m2:=1) (c2:=1)
   intro t1 w hw;have hw:=hw.drop
   rw[show fs.map cF++[cF f]=(fs++[f]).map cF from by simp]at hw
   have hok2:∀x∈fs++[f],FOk Γ2 x:=fun x hx=>(List.mem_append.1 hx).elim (fun h=>(hok x h).mono hle2) fun h=>by rw[List.mem_singleton.1 h];exact hokf
   repeat first|refine byW ?_|refine byV ?_;intro w hw
   refine⟨μ2-1,by omega,j+1,t1,Γ2,fs++[f],by omega,⟨rfl,rfl,rfl,rfl,rfl,rfl,rfl,rfl,rfl,trivial⟩,hle.trans hle2,hok2,?_,hw⟩
   have h1:facts (fs++[f])=facts fs++[f.fact]:=by unfold facts;rw[List.map_append];rfl
   rw[h1,hfs,hff,List.take_add_one,hy,List.map_append,←List.append_assoc];rfl
  have hjn:x.N≤j:=by have:=of_decide_eq_false h;omega
  clear h;rw[List.take_of_length_le (l:=x.Cores) (i:=j) (by omega)]at hfs
  repeat first|refine byW ?_|refine byV ?_;intro w hw
  refine⟨μ-1,by omega,k+1,_,Γ',fs,by omega,⟨rfl,rfl,rfl,rfl,rfl,trivial⟩,hle2'.trans hle,hok,?_,hw.drop⟩
  have h2:(cs'.take (k+1)).flatMap (fun c=>cacheFs c.T)=(cs'.take k).flatMap (fun c=>cacheFs c.T)++cacheFs x.T:=by rw[List.take_add_one,hx];simp
  rw[h2,hfs];unfold cacheFs;simp only[List.append_assoc,List.cons_append,List.nil_append];rfl
 have hkn:n2≤k:=by have:=of_decide_eq_false h;omega
 clear h;rw[List.take_of_length_le (by omega)]at hfs
 have hfs:facts fs=hwB2 H:=by
  rw[hfs];unfold hwB2;rw[←hcs,List.flatMap_map]
 have hle0:=hle
 clear rr hkn hk hle;repeat first|refine byW ?_|refine byV ?_;intro w hw
 refine W_loop (fun μ ρ w=>∃(k:Nat) (g:Value) (Γ':Gho) (fs:List FactH),μ+k=n3∧Has ρ [(1,.pointer (some ⟨b1,0,none⟩)),(5,g),(98,.slice a3 n3 c3),(99,.int .i64 n3),(100,.int .i64 k)]∧Γ.le Γ'∧(∀f∈fs,FOk Γ' f)∧facts fs=hwB2 H++(H.Links.take k).map linkF∧Wd Γ' (.own g 67 2 (fs.map cF)::.blk b1 (.cells #[.string H.Name,.slice a1 n1 c1,.slice a2 n2 c2,.slice a3 n3 c3,.slice a4 n4 c4,.slice a5 n5 c5] 30)::S) w) n3 ⟨0,_,Γ',fs,by omega,⟨rfl,rfl,rfl,rfl,rfl,trivial⟩,hle0,hok,by rw[List.take_zero,List.map_nil,List.append_nil];exact hfs,hw⟩ ?_
 clear hw;rintro μ ρ w ⟨k,g,Γ',fs,hk,hρ,hle,hok,hfs,hw⟩
 rw[hρ.eq];clear hρ;obtain⟨ag,ng,cg,rfl,hng,hngc,hcg⟩:=hw.own_shape (i:=0) rfl
 simp only[List.length_map]at hng
 have hfl:fs.length≤50000:=by
  have:=congrArg List.length hfs
  unfold facts at this;simp only[List.length_append,List.length_map,List.length_take]at this
  omega
 have rr:=r3.mono hle
 repeat first|refine byW ?_|refine byV ?_;intro w hw
 refine W_cond rfl (fun h=>?_) (fun h=>?_)
 ·have hkn:k<n3:=by have:=of_decide_eq_true h;omega
  clear h;obtain⟨x,hx⟩:=get_lt (l:=H.Links) (k:=k) (by omega)
  repeat first|refine byW ?_|refine byV ?_;intro w hw
  refine lAlloc ?_;intro b9 w hw;refine lStore ?_;intro w hw;have hw:Wd Γ' (.blk b9 (.cells (enc x).toArray 79)::.own (.slice ag ng cg) 67 2 (fs.map cF)::.blk b1 (.cells #[.string H.Name,.slice a1 n1 c1,.slice a2 n2 c2,.slice a3 n3 c3,.slice a4 n4 c4,.slice a5 n5 c5] 30)::S) w:=hw
  repeat first|refine byW ?_|refine byV ?_;intro w hw
  refine lY (v:=.iface 3 (.int .i64 (if x.B<x.A then x.B else x.A))) ?_ (hy:=y_mkI rfl)
  repeat first|refine byW ?_|refine byV ?_;intro w hw
  refine lY (v:=.iface 3 (.int .i64 (if x.A<x.B then x.B else x.A))) ?_ (hy:=y_mkI rfl)
  repeat first|refine byW ?_|refine byV ?_;intro w hw
  refine lY (v:=.iface 3 (.int .i64 (x.Latency))) ?_ (hy:=y_mkI rfl)
  repeat first|refine byW ?_|refine byV ?_;intro w hw
  refine lBuildSlice (anyRows [AnyV.i (if x.B<x.A then x.B else x.A),AnyV.i (if x.A<x.B then x.B else x.A),AnyV.i (x.Latency)]) ?_
  intro qa w hw;repeat first|refine byW ?_|refine byV ?_;intro w hw
  refine lCall (vs:=[.string linkB,.slice (some qa) 3 3]) ?_
  refine(fact_any [AnyV.i (if x.B<x.A then x.B else x.A),AnyV.i (if x.A<x.B then x.B else x.A),AnyV.i (x.Latency)] (RdS.own (i:=0) hw rfl) (by simp) hw).mono ?_
  clear hw;rintro e w ⟨f,rfl,hff,hw⟩
  have hff:f.fact=linkF x:=hff
  refine⟨_,rfl,?_⟩;obtain⟨Γ2,hle2,hokf,hw⟩:=hw.freeze;have hw:=hw.drop
  repeat first|refine byW ?_|refine byV ?_;intro w hw
  refine lBuildSlice [cF f] ?_
  intro qb w hw;repeat first|refine byW ?_|refine byV ?_;intro w hw
  refine lApp (i:=2) (rows2:=[cF f]) ?_ (Wd.own_rd (i:=0) hw rfl) (m2:=1) (c2:=1)
  intro t1 w hw;have hw:=hw.drop
  rw[show fs.map cF++[cF f]=(fs++[f]).map cF from by simp]at hw
  have hok2:∀x∈fs++[f],FOk Γ2 x:=fun x hx=>(List.mem_append.1 hx).elim (fun h=>(hok x h).mono hle2) fun h=>by rw[List.mem_singleton.1 h];exact hokf
  have hw:Wd Γ2 (.own t1 67 2 ((fs++[f]).map cF)::.blk b1 (.cells #[.string H.Name,.slice a1 n1 c1,.slice a2 n2 c2,.slice a3 n3 c3,.slice a4 n4 c4,.slice a5 n5 c5] 30)::S) w:=hw.drop
  repeat first|refine byW ?_|refine byV ?_;intro w hw
  refine⟨μ-1,by omega,k+1,t1,Γ2,fs++[f],by omega,⟨rfl,rfl,rfl,rfl,rfl,trivial⟩,hle.trans hle2,hok2,?_,hw⟩
  have h1:facts (fs++[f])=facts fs++[f.fact]:=by unfold facts;rw[List.map_append];rfl
  rw[h1,hfs,hff,List.take_add_one,hx,List.map_append,←List.append_assoc];rfl
 have hkn:n3≤k:=by have:=of_decide_eq_false h;omega
 clear h;rw[List.take_of_length_le (by omega)]at hfs
 have hfs:facts fs=hwB3 H:=hfs
 have hle0:=hle
 clear rr hkn hk hle;repeat first|refine byW ?_|refine byV ?_;intro w hw
 refine W_loop (fun μ ρ w=>∃(k:Nat) (g:Value) (Γ':Gho) (fs:List FactH),μ+k=n4∧Has ρ [(1,.pointer (some ⟨b1,0,none⟩)),(5,g),(126,.slice a4 n4 c4),(127,.int .i64 n4),(128,.int .i64 k)]∧Γ.le Γ'∧(∀f∈fs,FOk Γ' f)∧facts fs=hwB3 H++(H.Mems.take k).map memF∧Wd Γ' (.own g 67 2 (fs.map cF)::.blk b1 (.cells #[.string H.Name,.slice a1 n1 c1,.slice a2 n2 c2,.slice a3 n3 c3,.slice a4 n4 c4,.slice a5 n5 c5] 30)::S) w) n4 ⟨0,_,Γ',fs,by omega,⟨rfl,rfl,rfl,rfl,rfl,trivial⟩,hle0,hok,by rw[List.take_zero,List.map_nil,List.append_nil];exact hfs,hw⟩ ?_
 clear hw;rintro μ ρ w ⟨k,g,Γ',fs,hk,hρ,hle,hok,hfs,hw⟩
 rw[hρ.eq];clear hρ;obtain⟨ag,ng,cg,rfl,hng,hngc,hcg⟩:=hw.own_shape (i:=0) rfl
 simp only[List.length_map]at hng
 have hfl:fs.length≤50000:=by
  have:=congrArg List.length hfs
  unfold facts at this;simp only[List.length_append,List.length_map,List.length_take]at this
  omega
 have rr:=r4.mono hle
 repeat first|refine byW ?_|refine byV ?_;intro w hw
 refine W_cond rfl (fun h=>?_) (fun h=>?_)
 ·have hkn:k<n4:=by have:=of_decide_eq_true h;omega
  clear h;obtain⟨x,hx⟩:=get_lt (l:=H.Mems) (k:=k) (by omega)
  repeat first|refine byW ?_|refine byV ?_;intro w hw
  refine lAlloc ?_;intro b9 w hw;refine lStore ?_;intro w hw;have hw:Wd Γ' (.blk b9 (.cells (enc x).toArray 83)::.own (.slice ag ng cg) 67 2 (fs.map cF)::.blk b1 (.cells #[.string H.Name,.slice a1 n1 c1,.slice a2 n2 c2,.slice a3 n3 c3,.slice a4 n4 c4,.slice a5 n5 c5] 30)::S) w:=hw
  repeat first|refine byW ?_|refine byV ?_;intro w hw
  refine lY (v:=.iface 9 (.string (x.Name))) ?_ (hy:=y_mkI rfl)
  repeat first|refine byW ?_|refine byV ?_;intro w hw
  refine lY (v:=.iface 80 (.int .u64 (x.Base))) ?_ (hy:=y_mkI rfl)
  repeat first|refine byW ?_|refine byV ?_;intro w hw
  refine lY (v:=.iface 80 (.int .u64 (x.Size))) ?_ (hy:=y_mkI rfl)
  repeat first|refine byW ?_|refine byV ?_;intro w hw
  refine lY (v:=.iface 3 (.int .i64 (x.Node))) ?_ (hy:=y_mkI rfl)
  repeat first|refine byW ?_|refine byV ?_;intro w hw
  refine lY (v:=.iface 3 (.int .i64 (x.Latency))) ?_ (hy:=y_mkI rfl)
  repeat first|refine byW ?_|refine byV ?_;intro w hw
  refine lBuildSlice (anyRows [AnyV.w (x.Name),AnyV.u (x.Base),AnyV.u (x.Size),AnyV.i (x.Node),AnyV.i (x.Latency)]) ?_
  intro qa w hw;repeat first|refine byW ?_|refine byV ?_;intro w hw
  refine lCall (vs:=[.string memoryB,.slice (some qa) 5 5]) ?_
  refine(fact_any [AnyV.w (x.Name),AnyV.u (x.Base),AnyV.u (x.Size),AnyV.i (x.Node),AnyV.i (x.Latency)] (RdS.own (i:=0) hw rfl) (by simp) hw).mono ?_
  clear hw;rintro e w ⟨f,rfl,hff,hw⟩
  have hff:f.fact=memF x:=hff
  refine⟨_,rfl,?_⟩;obtain⟨Γ2,hle2,hokf,hw⟩:=hw.freeze;have hw:=hw.drop
  repeat first|refine byW ?_|refine byV ?_;intro w hw
  refine lBuildSlice [cF f] ?_
  intro qb w hw;repeat first|refine byW ?_|refine byV ?_;intro w hw
  refine lApp (i:=2) (rows2:=[cF f]) ?_ (Wd.own_rd (i:=0) hw rfl) (m2:=1) (c2:=1)
  intro t1 w hw;have hw:=hw.drop
  rw[show fs.map cF++[cF f]=(fs++[f]).map cF from by simp]at hw
  have hok2:∀x∈fs++[f],FOk Γ2 x:=fun x hx=>(List.mem_append.1 hx).elim (fun h=>(hok x h).mono hle2) fun h=>by rw[List.mem_singleton.1 h];exact hokf
  have hw:Wd Γ2 (.own t1 67 2 ((fs++[f]).map cF)::.blk b1 (.cells #[.string H.Name,.slice a1 n1 c1,.slice a2 n2 c2,.slice a3 n3 c3,.slice a4 n4 c4,.slice a5 n5 c5] 30)::S) w:=hw.drop
  repeat first|refine byW ?_|refine byV ?_;intro w hw
  refine⟨μ-1,by omega,k+1,t1,Γ2,fs++[f],by omega,⟨rfl,rfl,rfl,rfl,rfl,trivial⟩,hle.trans hle2,hok2,?_,hw⟩
  have h1:facts (fs++[f])=facts fs++[f.fact]:=by unfold facts;rw[List.map_append];rfl
  rw[h1,hfs,hff,List.take_add_one,hx,List.map_append,←List.append_assoc];rfl
 have hkn:n4≤k:=by have:=of_decide_eq_false h;omega
 clear h;rw[List.take_of_length_le (by omega)]at hfs
 have hfs:facts fs=hwB4 H:=hfs
 have hle0:=hle
 clear rr hkn hk hle;repeat first|refine byW ?_|refine byV ?_;intro w hw
 refine W_loop (fun μ ρ w=>∃(k:Nat) (g:Value) (Γ':Gho) (fs:List FactH),μ+k=n5∧Has ρ [(1,.pointer (some ⟨b1,0,none⟩)),(5,g),(154,.slice a5 n5 c5),(155,.int .i64 n5),(156,.int .i64 k)]∧Γ.le Γ'∧(∀f∈fs,FOk Γ' f)∧facts fs=hwB4 H++(H.Devs.take k).map devF∧Wd Γ' (.own g 67 2 (fs.map cF)::.blk b1 (.cells #[.string H.Name,.slice a1 n1 c1,.slice a2 n2 c2,.slice a3 n3 c3,.slice a4 n4 c4,.slice a5 n5 c5] 30)::S) w) n5 ⟨0,_,Γ',fs,by omega,⟨rfl,rfl,rfl,rfl,rfl,trivial⟩,hle0,hok,by rw[List.take_zero,List.map_nil,List.append_nil];exact hfs,hw⟩ ?_
 clear hw;rintro μ ρ w ⟨k,g,Γ',fs,hk,hρ,hle,hok,hfs,hw⟩
 rw[hρ.eq];clear hρ;obtain⟨ag,ng,cg,rfl,hng,hngc,hcg⟩:=hw.own_shape (i:=0) rfl
 simp only[List.length_map]at hng
 have hfl:fs.length≤50000:=by
  have:=congrArg List.length hfs
  unfold facts at this;simp only[List.length_append,List.length_map,List.length_take]at this
  omega
 have rr:=r5.mono hle
 repeat first|refine byW ?_|refine byV ?_;intro w hw
 refine W_cond rfl (fun h=>?_) (fun h=>?_)
 ·have hkn:k<n5:=by have:=of_decide_eq_true h;omega
  clear h;obtain⟨x,hx⟩:=get_lt (l:=H.Devs) (k:=k) (by omega)
  repeat first|refine byW ?_|refine byV ?_;intro w hw
  refine lAlloc ?_;intro b9 w hw;refine lStore ?_;intro w hw;have hw:Wd Γ' (.blk b9 (.cells (enc x).toArray 85)::.own (.slice ag ng cg) 67 2 (fs.map cF)::.blk b1 (.cells #[.string H.Name,.slice a1 n1 c1,.slice a2 n2 c2,.slice a3 n3 c3,.slice a4 n4 c4,.slice a5 n5 c5] 30)::S) w:=hw
  repeat first|refine byW ?_|refine byV ?_;intro w hw
  refine lY (v:=.iface 9 (.string (x.Name))) ?_ (hy:=y_mkI rfl)
  repeat first|refine byW ?_|refine byV ?_;intro w hw
  refine lY (v:=.iface 3 (.int .i64 (x.Node))) ?_ (hy:=y_mkI rfl)
  repeat first|refine byW ?_|refine byV ?_;intro w hw
  refine lY (v:=.iface 3 (.int .i64 (x.IRQ))) ?_ (hy:=y_mkI rfl)
  repeat first|refine byW ?_|refine byV ?_;intro w hw
  refine lY (v:=.iface 80 (.int .u64 (x.Base))) ?_ (hy:=y_mkI rfl)
  repeat first|refine byW ?_|refine byV ?_;intro w hw
  refine lY (v:=.iface 80 (.int .u64 (x.Size))) ?_ (hy:=y_mkI rfl)
  repeat first|refine byW ?_|refine byV ?_;intro w hw
  refine lBuildSlice (anyRows [AnyV.w (x.Name),AnyV.i (x.Node),AnyV.i (x.IRQ),AnyV.u (x.Base),AnyV.u (x.Size)]) ?_
  intro qa w hw;repeat first|refine byW ?_|refine byV ?_;intro w hw
  refine lCall (vs:=[.string deviceB,.slice (some qa) 5 5]) ?_
  refine(fact_any [AnyV.w (x.Name),AnyV.i (x.Node),AnyV.i (x.IRQ),AnyV.u (x.Base),AnyV.u (x.Size)] (RdS.own (i:=0) hw rfl) (by simp) hw).mono ?_
  clear hw;rintro e w ⟨f,rfl,hff,hw⟩
  have hff:f.fact=devF x:=hff
  refine⟨_,rfl,?_⟩;obtain⟨Γ2,hle2,hokf,hw⟩:=hw.freeze;have hw:=hw.drop
  repeat first|refine byW ?_|refine byV ?_;intro w hw
  refine lBuildSlice [cF f] ?_
  intro qb w hw;repeat first|refine byW ?_|refine byV ?_;intro w hw
  refine lApp (i:=2) (rows2:=[cF f]) ?_ (Wd.own_rd (i:=0) hw rfl) (m2:=1) (c2:=1)
  intro t1 w hw;have hw:=hw.drop
  rw[show fs.map cF++[cF f]=(fs++[f]).map cF from by simp]at hw
  have hok2:∀x∈fs++[f],FOk Γ2 x:=fun x hx=>(List.mem_append.1 hx).elim (fun h=>(hok x h).mono hle2) fun h=>by rw[List.mem_singleton.1 h];exact hokf
  have hw:Wd Γ2 (.own t1 67 2 ((fs++[f]).map cF)::.blk b1 (.cells #[.string H.Name,.slice a1 n1 c1,.slice a2 n2 c2,.slice a3 n3 c3,.slice a4 n4 c4,.slice a5 n5 c5] 30)::S) w:=hw.drop
  repeat first|refine byW ?_|refine byV ?_;intro w hw
  refine⟨μ-1,by omega,k+1,t1,Γ2,fs++[f],by omega,⟨rfl,rfl,rfl,rfl,rfl,trivial⟩,hle.trans hle2,hok2,?_,hw⟩
  have h1:facts (fs++[f])=facts fs++[f.fact]:=by unfold facts;rw[List.map_append];rfl
  rw[h1,hfs,hff,List.take_add_one,hx,List.map_append,←List.append_assoc];rfl
 have hkn:n5≤k:=by have:=of_decide_eq_false h;omega
 clear h;rw[List.take_of_length_le (by omega)]at hfs
 have hfs:facts fs=hwFacts H:=hfs
 have hle0:=hle
 clear rr hkn hk hle;repeat first|refine byW ?_|refine byV ?_;intro w hw
 have hFs:FsOk Γ' fs:=fun f hf=>⟨hok f hf,hw_ok hV _ (by rw[←hfs];exact List.mem_map.2 ⟨f,hf,rfl⟩)⟩
 refine lCall (vs:=[.slice ag ng cg]) ?_
 refine(set_any fs hFs (by omega) (RdS.own (i:=0) hw rfl) hw).mono ?_
 clear hw;rintro e w ⟨Γ2,v',gs,hle2,rfl,hgs,hgo,hw⟩
 refine⟨_,rfl,?_⟩;repeat first|refine byW ?_|refine byV ?_;intro w hw
 exact⟨_,rfl,Γ2,v',gs,hle0.trans hle2,rfl,by rw[if_pos rfl,hgs,hfs],hgo,hw.ds [1,1]⟩
end Go.Proofs.YtfoggcgogafocaaGreat
end
section
open Go
namespace Mk
section
variable {P:Program}{Γ:Gho}{S:List Res}{w:World}{E i:Nat}
theorem Compact_int2{ρ:Go.Shelf.Ren}(L:Go.Proofs.Lays2.n20 P ρ)(xs:List Int){a:Option Addr}{n c:Nat}(hw:Wd Γ S w)(hi:S[i]? = some (.own (.slice a n c) E 1 (iRows xs)))(hlen:xs.length<4611686018427387904) :
  Calls P (ρ.f 20) #[.slice a n c] w fun e w'=>e=.returned (.slice a (Go.Lib.compact xs).length c)∧∃zs,Wd Γ (S.set i (.own (.slice a n c) E 1 (iRows (Go.Lib.compact xs++zs)))) w':=by
 obtain⟨a',n',c',hE,e2,e3,e4,e5⟩:=own_block hw hi
 cases hE
 have hn:n=xs.length:=by simpa[iRows] using e2
 by_cases h0:n=0
 ·have hx:xs=[]:=List.eq_nil_of_length_eq_zero (by omega)
  subst h0;refine(Go.Proofs.Any.slices_Compact_int_empty L a c w).mono ?_
  rintro e w' ⟨he,rfl⟩
  refine⟨by rw[he,hx];rfl,[],?_⟩
  have hset:S.set i (.own (.slice a 0 c) E 1 (iRows xs))=S:=by
   obtain⟨hil,hie⟩:=List.getElem?_eq_some_iff.1 hi
   rw[←hie];exact List.set_getElem_self hil
  have:Go.Lib.compact xs++[]=xs:=by rw[hx];rfl
  rw[this,hset];exact hw
 ·have hc:0<c:=by omega
  rcases e5 with e5|⟨g,cur,rfl,hg,hcur,hcs,htk⟩
  ·omega
  obtain⟨hH,hgl⟩:=own_holdsK (enc:=fun x:Int=>[Value.int .i64 x]) (k:=1) (fun _=>rfl) hw hi hc
  have hH1:Go.Sort.Holds (Value.int .i64) w g 0 xs.toArray:=fun j hj=>by
   have:=hH j (by simpa using hj)
   rw[flatK_one]at this;have hj:j<xs.length:=by simpa using hj
   simpa[hj] using this
  have:=Go.Proofs.Any.slices_Compact_int L g 0 c xs w hH1 (by omega) (by omega)
  rw[←hn]at this;refine this.mono ?_
  rintro e w' ⟨he,q,rfl⟩
  have hle:(Go.Lib.compact xs).length≤xs.length:=by
   unfold Go.Lib.compact Go.Lib.compactUpTo;have:=List.length_filter_le (Go.Lib.keeps xs.toArray) (List.range xs.length)
   simpa using this
  refine⟨he,List.replicate (n-(Go.Lib.compact xs).length) 0,?_⟩
  have h1:Go.Sort.putRow (Value.int .i64) (Go.Sort.ahead w q) g 0 (Go.Lib.compact xs++List.replicate (n-(Go.Lib.compact xs).length) 0).toArray=Go.Proofs.sortWorldK (fun x:Int=>[Value.int .i64 x]) 1 w g 0 q (Go.Lib.compact xs++List.replicate (n-(Go.Lib.compact xs).length) 0).toArray #[]:=by
   rw[←sortWorld_K1];unfold Go.Proofs.sortWorld;rw[grow_none]
  rw[h1];exact own_sortWorld (enc:=fun x:Int=>[Value.int .i64 x]) (k:=1) (fun _=>rfl) hw hi hc _ (by simp;omega) q #[]
end
theorem compact_eq(xs:List Int):Go.Lib.compact xs=((List.range xs.length).filter (Go.Lib.keeps xs.toArray)).map (xs.toArray[·]!):=by
 unfold Go.Lib.compact Go.Lib.compactUpTo;simp
theorem keeps_iff(xs:List Int)(j:Nat):Go.Lib.keeps xs.toArray j=true↔j=0∨xs.toArray[j]!≠xs.toArray[j-1]!:=by
 unfold Go.Lib.keeps;simp
theorem compact_mem{xs:List Int}{x:Int}:x∈Go.Lib.compact xs↔x∈xs:=by
 rw[compact_eq,List.mem_map];constructor
 ·rintro⟨j,hj,rfl⟩;have hj:=(List.mem_filter.1 hj).1
  rw[List.mem_range]at hj;have:xs.toArray[j]! = xs[j]:=by simp[hj]
  rw[this];exact List.getElem_mem hj
 ·intro h;obtain⟨j,hj,he⟩:=List.getElem_of_mem h
  have key:∀j,(h:j<xs.length)→xs[j]=x→∃i,i∈(List.range xs.length).filter (Go.Lib.keeps xs.toArray)∧xs.toArray[i]! = x:=by
   intro j;induction j with
   | zero=>intro h e;exact⟨0,List.mem_filter.2 ⟨List.mem_range.2 h,(keeps_iff xs 0).2 (.inl rfl)⟩,by simp[h,e]⟩
   | succ j ih=>
    intro h e;by_cases hk:Go.Lib.keeps xs.toArray (j+1)=true
    ·exact⟨j+1,List.mem_filter.2 ⟨List.mem_range.2 h,hk⟩,by simp[h,e]⟩
    ·refine ih (by omega) ?_
     have h2:¬(j+1=0∨xs.toArray[j+1]!≠xs.toArray[j+1-1]!):=fun hh=>hk ((keeps_iff xs (j+1)).2 hh)
     have h3:xs.toArray[j+1]! = xs.toArray[j]!:=by
      by_cases he2:xs.toArray[j+1]! = xs.toArray[j]!
      ·exact he2
      ·exact absurd (Or.inr he2) h2
     have a1:xs.toArray[j+1]! = xs[j+1]:=by simp[h]
     have a2:xs.toArray[j]! = xs[j]:=by simp[show j<xs.length by omega]
     rw[a1,a2]at h3;rw[←h3];exact e
  exact key j hj he
theorem compact_asc{xs:List Int}(hs:xs.Pairwise (·≤·)):(Go.Lib.compact xs).Pairwise (· < ·):=by
 rw[compact_eq,List.pairwise_map];have hr:((List.range xs.length).filter (Go.Lib.keeps xs.toArray)).Pairwise (· < ·):=List.Pairwise.filter _ List.pairwise_lt_range
 refine hr.imp_of_mem fun {i j} hi hj hij=>?_
 obtain⟨hj1,hj2⟩:=List.mem_filter.1 hj
 rw[List.mem_range]at hj1;have a1:xs.toArray[j]! = xs[j]:=by simp[hj1]
 have a2:xs.toArray[i]! = xs[i]:=by simp[show i<xs.length by omega]
 have a3:xs.toArray[j-1]! = xs[j-1]:=by simp[show j-1<xs.length by omega]
 have hk:=(keeps_iff xs j).1 hj2
 rw[a1,a3]at hk;rw[a1,a2];have hne:xs[j]≠xs[j-1]:=by
  rcases hk with h|h
  ·omega
  ·exact h
 rw[List.pairwise_iff_getElem]at hs;have h1:=hs (j-1) j (by omega) hj1 (by omega)
 have h2:xs[i]≤xs[j-1]:=by
  rcases Nat.lt_or_eq_of_le (show i≤j-1 by omega) with h|h
  ·exact hs i (j-1) (by omega) (by omega) h
  ·subst h;exact Int.le_refl _
 omega
end Mk
end
section
open Go Mk
namespace Go.Proofs.YtfoggcgogafocaaGreat
def lay_sorti_ren:Go.Shelf.Ren:=⟨fun|189=>48|125=>81|257=>94|128=>140|129=>141|294=>160|295=>161|296=>162|297=>163|298=>164|299=>165|216=>166|300=>167|301=>168|328=>218|329=>201|330=>202|331=>219|332=>220|215=>155|343=>244|n=>n,fun|28=>22|3=>3|46=>81|0=>0|51=>213|53=>80|4=>4|183=>206|182=>205|131=>210|5=>5|9=>9|218=>246|222=>250|228=>268|229=>171|n=>n,fun|n=>n⟩
theorem lay_sorti:Go.Proofs.Lays.n189 Tryz.prog lay_sorti_ren:={
 mixed:=by kernel_rfl
 f125:=Tryz.func81.trans (congrArg some (by kernel_rfl))
 f128:=Tryz.func140.trans (congrArg some (by kernel_rfl))
 f129:=Tryz.func141.trans (congrArg some (by kernel_rfl))
 f189:=Tryz.func48.trans (congrArg some (by kernel_rfl))
 f215:=Tryz.func155.trans (congrArg some (by kernel_rfl))
 f216:=Tryz.func166.trans (congrArg some (by kernel_rfl))
 f257:=Tryz.func94.trans (congrArg some (by kernel_rfl))
 f294:=Tryz.func160.trans (congrArg some (by kernel_rfl))
 f295:=Tryz.func161.trans (congrArg some (by kernel_rfl))
 f296:=Tryz.func162.trans (congrArg some (by kernel_rfl))
 f297:=Tryz.func163.trans (congrArg some (by kernel_rfl))
 f298:=Tryz.func164.trans (congrArg some (by kernel_rfl))
 f299:=Tryz.func165.trans (congrArg some (by kernel_rfl))
 f300:=Tryz.func167.trans (congrArg some (by kernel_rfl))
 f301:=Tryz.func168.trans (congrArg some (by kernel_rfl))
 f328:=Tryz.func218.trans (congrArg some (by kernel_rfl))
 f329:=Tryz.func201.trans (congrArg some (by kernel_rfl))
 f330:=Tryz.func202.trans (congrArg some (by kernel_rfl))
 f331:=Tryz.func219.trans (congrArg some (by kernel_rfl))
 f332:=Tryz.func220.trans (congrArg some (by kernel_rfl))
 f343:=Tryz.func244.trans (congrArg some (by kernel_rfl))
 t0:=Tryz.underlying0
 a0:=Tryz.isAgg0
 z0:=Tryz.sizeOf0
 v0:=Tryz.zeroValue0
 t3:=Tryz.underlying3
 a3:=Tryz.isAgg3
 z3:=Tryz.sizeOf3
 v3:=Tryz.zeroValue3
 t4:=Tryz.underlying4
 a4:=Tryz.isAgg4
 z4:=Tryz.sizeOf4
 v4:=Tryz.zeroValue4
 t5:=Tryz.underlying5
 a5:=Tryz.isAgg5
 z5:=Tryz.sizeOf5
 v5:=Tryz.zeroValue5
 t9:=Tryz.underlying9
 a9:=Tryz.isAgg9
 z9:=Tryz.sizeOf9
 v9:=Tryz.zeroValue9
 t28:=Tryz.underlying22
 a28:=Tryz.isAgg22
 z28:=Tryz.sizeOf22
 v28:=Tryz.zeroValue22
 t46:=Tryz.underlying81
 a46:=Tryz.isAgg81
 z46:=Tryz.sizeOf81
 v46:=Tryz.zeroValue81
 t51:=Tryz.underlying213
 a51:=Tryz.isAgg213
 z51:=Tryz.sizeOf213
 v51:=Tryz.zeroValue213
 t53:=Tryz.underlying80
 a53:=Tryz.isAgg80
 z53:=Tryz.sizeOf80
 v53:=Tryz.zeroValue80
 t131:=Tryz.underlying210
 a131:=Tryz.isAgg210
 z131:=Tryz.sizeOf210
 v131:=Tryz.zeroValue210
 t182:=Tryz.underlying205
 a182:=Tryz.isAgg205
 z182:=Tryz.sizeOf205
 v182:=Tryz.zeroValue205
 t183:=Tryz.underlying206
 a183:=Tryz.isAgg206
 z183:=Tryz.sizeOf206
 v183:=Tryz.zeroValue206
 t218:=Tryz.underlying246
 a218:=Tryz.isAgg246
 z218:=Tryz.sizeOf246
 v218:=Tryz.zeroValue246
 t222:=Tryz.underlying250
 a222:=Tryz.isAgg250
 z222:=Tryz.sizeOf250
 v222:=Tryz.zeroValue250
 t228:=Tryz.underlying268
 a228:=Tryz.isAgg268
 z228:=Tryz.sizeOf268
 v228:=Tryz.zeroValue268
 t229:=Tryz.underlying171
 a229:=Tryz.isAgg171
 z229:=Tryz.sizeOf171
 v229:=Tryz.zeroValue171 }
def lay_cpi_ren:Go.Shelf.Ren:=⟨fun|20=>49|n=>n,fun|22=>22|3=>3|4=>4|0=>0|n=>n,fun|n=>n⟩
theorem lay_cpi:Go.Proofs.Lays2.n20 Tryz.prog lay_cpi_ren:={
 mixed:=by kernel_rfl
 f20:=Tryz.func49.trans (congrArg some (by kernel_rfl))
 t0:=Tryz.underlying0
 a0:=Tryz.isAgg0
 z0:=Tryz.sizeOf0
 v0:=Tryz.zeroValue0
 t3:=Tryz.underlying3
 a3:=Tryz.isAgg3
 z3:=Tryz.sizeOf3
 v3:=Tryz.zeroValue3
 t4:=Tryz.underlying4
 a4:=Tryz.isAgg4
 z4:=Tryz.sizeOf4
 v4:=Tryz.zeroValue4
 t22:=Tryz.underlying22
 a22:=Tryz.isAgg22
 z22:=Tryz.sizeOf22
 v22:=Tryz.zeroValue22
 i3:=by kernel_rfl }
end Go.Proofs.YtfoggcgogafocaaGreat
end
section
open Go Mk
namespace Go.Proofs.YtfoggcgogafocaaGreat
set_option maxHeartbeats 16000000
theorem sort_set{fs gs:List FactH}(hp:gs.Perm fs)(hs:gs.Pairwise fun a b=>Go.Proofs.ltOf (fun a b:FactH=>cFact a.fact b.fact) b a=false)(hn:(facts fs).Nodup):facts gs=setS (facts fs):=by
 have hm:∀x,x∈facts gs↔x∈facts fs:=fun x=>(hp.map FactH.fact).mem_iff
 have hn2:(facts gs).Nodup:=(hp.map FactH.fact).nodup_iff.2 hn
 refine SetOf.eq cFact_ord ⟨?_,hm⟩
 unfold facts at hn2 ⊢
 rw[List.Nodup,List.pairwise_map]at hn2;rw[List.pairwise_map];refine(hs.and hn2).imp fun {a b} ⟨h1,h2⟩=>?_
 have h1:¬cFact b.fact a.fact<0:=by simpa[Go.Proofs.ltOf] using h1
 have h3:=cFact_ord.anti a.fact b.fact
 rcases cFact_ord.rng a.fact b.fact with h|h|h
 ·exact h
 ·exact absurd (cFact_ord.eq0 h) h2
 ·omega
theorem distF_inj{H:HwT}{a b c d:Int}(h:distF H a b=distF H c d):a=c∧b=d:=
 ⟨iF_inj (Option.some.inj (congrArg (fun f:Fact=>f.2[0]?) h)),iF_inj (Option.some.inj (congrArg (fun f:Fact=>f.2[1]?) h))⟩
theorem dist_nodup{H:HwT}{X:List Int}(h:X.Nodup):(distG H X).Nodup:=by
 unfold distG;rw[List.Nodup,List.pairwise_flatMap];refine⟨fun a _=>?_,?_⟩
 ·rw[List.pairwise_map];exact(h:X.Pairwise (·≠·)).imp fun {x y} hne he=>hne (distF_inj he).2
 ·refine(h:X.Pairwise (·≠·)).imp fun {x y} hne p hp q hq he=>?_
  obtain⟨b,_,rfl⟩:=List.mem_map.1 hp
  obtain⟨c,_,rfl⟩:=List.mem_map.1 hq
  exact hne (distF_inj he).1
theorem rt_nodup{H:HwT}(v:ValidP H){X:List Int}(h:X.Nodup):(setS (hwFacts H)++distG H X).Nodup:=by
 refine List.nodup_append.2 ⟨(setS_perm (hw_nodup v)).nodup_iff.2 (hw_nodup v),dist_nodup h,fun a ha b hb he=>?_⟩
 obtain⟨x,_,y,_,rfl⟩:=distG_mem.1 hb
 have h1:a∈hwFacts H:=by
  unfold setS at ha;exact(setA_mem cFact_ord).1 ha
 have e:a.1=distB:=congrArg Prod.fst he
 have k1:machB≠distB:=by decide +kernel
 have k2:coreB≠distB:=by decide +kernel
 have k3:cacheB≠distB:=by decide +kernel
 have k4:sharesB≠distB:=by decide +kernel
 have k5:linkB≠distB:=by decide +kernel
 have k6:memoryB≠distB:=by decide +kernel
 have k7:deviceB≠distB:=by decide +kernel
 unfold hwFacts at h1;rcases List.mem_append.1 h1 with h1|h1
 ·rcases rel4 h1 with h|h|h|h|h|h <;> rw[h]at e <;> first|exact k1 e|exact k2 e|exact k3 e|exact k4 e|exact k5 e|exact k6 e
 ·obtain⟨d,_,rfl⟩:=List.mem_map.1 h1
  exact k7 e
instance pg_num{Γ:Gho}(n:Int):PG Tryz.prog Γ 50 [.int .i64 n] (.agg (enc (iF n)).toArray):=⟨fun S w hw=>by
 refine calls_of_WC Tryz.func50 rfl rfl ?_
 repeat first|refine byW ?_|refine byV ?_;intro w hw
 refine lAlloc ?_;intro b w hw;repeat first|refine byW ?_|refine byV ?_;intro w hw
 refine lStore ?_;intro w hw;have hw:Wd Γ (.blk b (.cells (enc (iF n)).toArray 41)::S) w:=hw
 repeat first|refine byW ?_|refine byV ?_;intro w hw
 exact⟨[.agg (enc (iF n)).toArray],⟨resC (i:=0) hw rfl rfl rfl,trivial⟩,rfl,hw.drop⟩⟩
attribute [local irreducible] Calls cFact validS hwFacts dstI setS
theorem PFacts_any{Γ:Gho}{S:List Res}{w:World}{u:Value}{H:HwT}[hh:HwR Γ u H](hw:Wd Γ S w) :
  Calls Tryz.prog 18 #[u] w fun e w'=>∃Γ' v gs,Γ.le Γ'∧e=.returned (.tuple #[v,.int .i64 (validS H)])∧facts gs=(if validS H=0 then rtF H else [])∧FsOk Γ' gs∧Wd Γ' (.own v 67 2 (gs.map cF)::S) w':=by
 have hh':=hh
 obtain⟨a1,n1,c1,a2,n2,c2,a3,n3,c3,a4,n4,c4,a5,n5,c5,cs',rfl,hcs,hok',hsz,r1,r2,r3,r4,r5⟩:=hh.h;refine calls_of_W Tryz.func18 rfl rfl ?_
 repeat first|refine byW ?_|refine byV ?_;intro w hw
 refine lBox ?_;intro b1 w hw;have hw:Wd Γ (.blk b1 (hwC H a1 n1 c1 a2 n2 c2 a3 n3 c3 a4 n4 c4 a5 n5 c5)::S) w:=hw
 repeat first|refine byW ?_|refine byV ?_;intro w hw
 refine lCall ((PFromHw_any (hh:=hh') hw).mono fun e w hq=>?_)
 clear hw;obtain⟨Γ1,v0,fs0,hle1,rfl,hfs0,hfo0,hw⟩:=hq;refine⟨_,rfl,?_⟩;repeat first|refine byW ?_|refine byV ?_;intro w hw
 refine W_cond rfl (fun h=>?_) (fun h=>?_)
 ·have h:validS H≠0:=of_decide_eq_true h
  repeat first|refine byW ?_|refine byV ?_;intro w hw
  rw[if_neg h]at hfs0 ⊢
  refine⟨_,rfl,Γ1,.slice none 0 0,[],hle1,rfl,rfl,fun f hf=>(by cases hf),Wd.addNil (hw.ds [0,0])⟩
 have h0:validS H=0:=by have:=of_decide_eq_false h;omega
 rw[h0];rw[if_pos h0]at hfs0;clear h;have hV:=valid_iff.1 h0
 have hfew:=hw_few hV
 have hN:=vp_used hV
 have hcnt:=counts_le hV.c
 have hLk:=valid_links h0
 have hfew0:(setS (hwFacts H)).length≤2497:=Nat.le_trans (by unfold setS;exact setA_len) hfew
 replace r1:=r1.mono hle1
 replace r4:=r4.mono hle1
 replace r5:=r5.mono hle1
 obtain⟨q1,q1b,q1c⟩:=rep_facts r1
 obtain⟨q4,q4b,q4c⟩:=rep_facts r4
 obtain⟨q5,q5b,q5c⟩:=rep_facts r5
 simp only[List.length_map]at q1 q4 q5
 obtain⟨g0,hg0⟩:∃g,g=Res.own v0 67 2 (fs0.map cF):=⟨_,rfl⟩
 rw[←hg0]at hw;have hw:=Wd.addNil (a:=none) (E:=3) (sz:=1) hw
 have hw:Wd Γ1 (.own (.slice none 0 0) 3 1 (intRows (([]:List Int)++(H.Cores.take 0).map (fun c=>c.Node)))::g0::.blk b1 (hwC H a1 n1 c1 a2 n2 c2 a3 n3 c3 a4 n4 c4 a5 n5 c5)::S) w:=hw
 repeat first|refine byW ?_|refine byV ?_;intro w hw
 refine W_loop (fun μ ρ w=>∃(k:Nat) (q:Option Addr) (m d:Nat),μ+k=n1∧Has ρ [(1,.pointer (some ⟨b1,0,none⟩)),(4,v0),(6,.slice q m d),(28,.slice a1 n1 c1),(29,.int .i64 n1),(30,.int .i64 k)]∧Wd Γ1 (.own (.slice q m d) 3 1 (intRows (([]:List Int)++(H.Cores.take k).map (fun c=>c.Node)))::g0::.blk b1 (hwC H a1 n1 c1 a2 n2 c2 a3 n3 c3 a4 n4 c4 a5 n5 c5)::S) w) n1 ⟨0,_,_,_,by omega,⟨rfl,rfl,rfl,rfl,rfl,rfl,trivial⟩,hw⟩ ?_
 clear hw;rintro μ ρ w ⟨k,q,m,d,hk,hρ,hw⟩
 have hm:=own_len (i:=0) hw rfl
 simp only[intRows,List.length_map,List.length_append,List.length_nil,List.length_take]at hm
 rw[hρ.eq];repeat first|refine byW ?_|refine byV ?_;intro w hw
 refine W_cond rfl (fun h=>?_) (fun h=>?_)
 ·have hkn:k<n1:=by simpa using h
  obtain⟨x,hx⟩:=get_lt (l:=H.Cores) (k:=k) (by omega)
  repeat first|refine byW ?_|refine byV ?_;intro w hw
  refine lAlloc ?_;intro b9 w hw;refine lStore ?_;intro w hw;have hw:Wd Γ1 (.blk b9 (.cells (enc x).toArray 37)::.own (.slice q m d) 3 1 (intRows (([]:List Int)++(H.Cores.take k).map (fun c=>c.Node)))::g0::.blk b1 (hwC H a1 n1 c1 a2 n2 c2 a3 n3 c3 a4 n4 c4 a5 n5 c5)::S) w:=hw
  repeat first|refine byW ?_|refine byV ?_;intro w hw
  refine lBuildSlice [[.int .i64 x.Node]] ?_
  intro ab w hw;refine lApp (i:=2) (rows2:=[[.int .i64 x.Node]]) ?_ (Wd.own_rd (i:=0) hw rfl)
  intro v' w hw;obtain⟨q',m',d',rfl,-,-,-⟩:=hw.own_shape (i:=2) rfl
  have hw:Wd Γ1 (.own (.slice q' m' d') 3 1 (intRows (([]:List Int)++(H.Cores.take (k+1)).map (fun c=>c.Node)))::g0::.blk b1 (hwC H a1 n1 c1 a2 n2 c2 a3 n3 c3 a4 n4 c4 a5 n5 c5)::S) w:=by
   rw[←rows_snocN (f:=fun c:CoreT=>c.Node) hx];exact hw.drop.drop
  repeat first|refine byW ?_|refine byV ?_;intro w hw
  exact⟨μ-1,by omega,k+1,_,_,_,by omega,⟨rfl,rfl,rfl,rfl,rfl,rfl,trivial⟩,hw⟩
 have hkn:¬k<n1:=by simpa using h
 rw[List.take_of_length_le (l:=H.Cores) (by omega)]at hw
 clear h hkn hρ hk hm;rw[List.nil_append]at hw;rw[show H.Cores.map (fun c=>c.Node)=(H.Cores.map (fun c=>c.Node)++(H.Mems.take 0).map (fun c=>c.Node)) from by simp]at hw
 repeat first|refine byW ?_|refine byV ?_;intro w hw
 refine W_loop (fun μ ρ w=>∃(k:Nat) (q:Option Addr) (m d:Nat),μ+k=n4∧Has ρ [(1,.pointer (some ⟨b1,0,none⟩)),(4,v0),(6,.slice q m d),(41,.slice a4 n4 c4),(42,.int .i64 n4),(43,.int .i64 k)]∧Wd Γ1 (.own (.slice q m d) 3 1 (intRows (H.Cores.map (fun c=>c.Node)++(H.Mems.take k).map (fun c=>c.Node)))::g0::.blk b1 (hwC H a1 n1 c1 a2 n2 c2 a3 n3 c3 a4 n4 c4 a5 n5 c5)::S) w) n4 ⟨0,_,_,_,by omega,⟨rfl,rfl,rfl,rfl,rfl,rfl,trivial⟩,hw⟩ ?_
 clear hw;rintro μ ρ w ⟨k,q,m,d,hk,hρ,hw⟩
 have hm:=own_len (i:=0) hw rfl
 simp only[intRows,List.length_map,List.length_append,List.length_nil,List.length_take]at hm
 rw[hρ.eq];repeat first|refine byW ?_|refine byV ?_;intro w hw
 refine W_cond rfl (fun h=>?_) (fun h=>?_)
 ·have hkn:k<n4:=by simpa using h
  obtain⟨x,hx⟩:=get_lt (l:=H.Mems) (k:=k) (by omega)
  repeat first|refine byW ?_|refine byV ?_;intro w hw
  refine lAlloc ?_;intro b9 w hw;refine lStore ?_;intro w hw;have hw:Wd Γ1 (.blk b9 (.cells (enc x).toArray 83)::.own (.slice q m d) 3 1 (intRows (H.Cores.map (fun c=>c.Node)++(H.Mems.take k).map (fun c=>c.Node)))::g0::.blk b1 (hwC H a1 n1 c1 a2 n2 c2 a3 n3 c3 a4 n4 c4 a5 n5 c5)::S) w:=hw
  repeat first|refine byW ?_|refine byV ?_;intro w hw
  refine lBuildSlice [[.int .i64 x.Node]] ?_
  intro ab w hw;refine lApp (i:=2) (rows2:=[[.int .i64 x.Node]]) ?_ (Wd.own_rd (i:=0) hw rfl)
  intro v' w hw;obtain⟨q',m',d',rfl,-,-,-⟩:=hw.own_shape (i:=2) rfl
  have hw:Wd Γ1 (.own (.slice q' m' d') 3 1 (intRows (H.Cores.map (fun c=>c.Node)++(H.Mems.take (k+1)).map (fun c=>c.Node)))::g0::.blk b1 (hwC H a1 n1 c1 a2 n2 c2 a3 n3 c3 a4 n4 c4 a5 n5 c5)::S) w:=by
   rw[←rows_snocN (f:=fun c:MemT=>c.Node) hx];exact hw.drop.drop
  repeat first|refine byW ?_|refine byV ?_;intro w hw
  exact⟨μ-1,by omega,k+1,_,_,_,by omega,⟨rfl,rfl,rfl,rfl,rfl,rfl,trivial⟩,hw⟩
 have hkn:¬k<n4:=by simpa using h
 rw[List.take_of_length_le (l:=H.Mems) (by omega)]at hw
 clear h hkn hρ hk hm;rw[show (H.Cores.map (fun c=>c.Node)++H.Mems.map (fun c=>c.Node))=((H.Cores.map (fun c=>c.Node)++H.Mems.map (fun c=>c.Node))++(H.Devs.take 0).map (fun c=>c.Node)) from by simp]at hw
 repeat first|refine byW ?_|refine byV ?_;intro w hw
 refine W_loop (fun μ ρ w=>∃(k:Nat) (q:Option Addr) (m d:Nat),μ+k=n5∧Has ρ [(1,.pointer (some ⟨b1,0,none⟩)),(4,v0),(6,.slice q m d),(54,.slice a5 n5 c5),(55,.int .i64 n5),(56,.int .i64 k)]∧Wd Γ1 (.own (.slice q m d) 3 1 (intRows ((H.Cores.map (fun c=>c.Node)++H.Mems.map (fun c=>c.Node))++(H.Devs.take k).map (fun c=>c.Node)))::g0::.blk b1 (hwC H a1 n1 c1 a2 n2 c2 a3 n3 c3 a4 n4 c4 a5 n5 c5)::S) w) n5 ⟨0,_,_,_,by omega,⟨rfl,rfl,rfl,rfl,rfl,rfl,trivial⟩,hw⟩ ?_
 clear hw;rintro μ ρ w ⟨k,q,m,d,hk,hρ,hw⟩
 have hm:=own_len (i:=0) hw rfl
 simp only[intRows,List.length_map,List.length_append,List.length_nil,List.length_take]at hm
 rw[hρ.eq];repeat first|refine byW ?_|refine byV ?_;intro w hw
 refine W_cond rfl (fun h=>?_) (fun h=>?_)
 ·have hkn:k<n5:=by simpa using h
  obtain⟨x,hx⟩:=get_lt (l:=H.Devs) (k:=k) (by omega)
  repeat first|refine byW ?_|refine byV ?_;intro w hw
  refine lAlloc ?_;intro b9 w hw;refine lStore ?_;intro w hw;have hw:Wd Γ1 (.blk b9 (.cells (enc x).toArray 85)::.own (.slice q m d) 3 1 (intRows ((H.Cores.map (fun c=>c.Node)++H.Mems.map (fun c=>c.Node))++(H.Devs.take k).map (fun c=>c.Node)))::g0::.blk b1 (hwC H a1 n1 c1 a2 n2 c2 a3 n3 c3 a4 n4 c4 a5 n5 c5)::S) w:=hw
  repeat first|refine byW ?_|refine byV ?_;intro w hw
  refine lBuildSlice [[.int .i64 x.Node]] ?_
  intro ab w hw;refine lApp (i:=2) (rows2:=[[.int .i64 x.Node]]) ?_ (Wd.own_rd (i:=0) hw rfl)
  intro v' w hw;obtain⟨q',m',d',rfl,-,-,-⟩:=hw.own_shape (i:=2) rfl
  have hw:Wd Γ1 (.own (.slice q' m' d') 3 1 (intRows ((H.Cores.map (fun c=>c.Node)++H.Mems.map (fun c=>c.Node))++(H.Devs.take (k+1)).map (fun c=>c.Node)))::g0::.blk b1 (hwC H a1 n1 c1 a2 n2 c2 a3 n3 c3 a4 n4 c4 a5 n5 c5)::S) w:=by
   rw[←rows_snocN (f:=fun c:DevT=>c.Node) hx];exact hw.drop.drop
  repeat first|refine byW ?_|refine byV ?_;intro w hw
  exact⟨μ-1,by omega,k+1,_,_,_,by omega,⟨rfl,rfl,rfl,rfl,rfl,rfl,trivial⟩,hw⟩
 have hkn:¬k<n5:=by simpa using h
 rw[List.take_of_length_le (l:=H.Devs) (by omega)]at hw
 clear h hkn hρ hk hm;have hw:Wd Γ1 (.own (.slice q m d) 3 1 (iRows (usedN H))::g0::.blk b1 (hwC H a1 n1 c1 a2 n2 c2 a3 n3 c3 a4 n4 c4 a5 n5 c5)::S) w:=hw
 have hul:(usedN H).length≤128:=by unfold usedN;simp;omega
 repeat first|refine byW ?_|refine byV ?_;intro w hw
 refine lCall ((Sort_int lay_sorti (usedN H) (.slice q m d) (i:=0) hw rfl (by omega)).mono fun e w hq=>?_)
 clear hw;obtain⟨rfl,hw⟩:=hq;refine⟨_,rfl,?_⟩;obtain⟨Y,hY⟩:∃Y,Y=(usedN H).mergeSort fun x y=>decide (x≤y):=⟨_,rfl⟩
 rw[←hY]at hw;have hYp:Y.Perm (usedN H):=by rw[hY];exact List.mergeSort_perm _ _
 have hYs:Y.Pairwise (·≤·):=by
  rw[hY];have:=List.pairwise_mergeSort (le:=fun x y:Int=>decide (x≤y)) (fun a b c h1 h2=>by simp at *;omega) (fun a b=>by simp;omega) (usedN H)
  exact this.imp fun h=>by simpa using h
 clear hY;have hYl:Y.length≤128:=by rw[hYp.length_eq];exact hul
 have hw:Wd Γ1 (.own (.slice q m d) 3 1 (iRows Y)::g0::.blk b1 (hwC H a1 n1 c1 a2 n2 c2 a3 n3 c3 a4 n4 c4 a5 n5 c5)::S) w:=hw
 repeat first|refine byW ?_|refine byV ?_;intro w hw
 refine lCall ((Compact_int2 lay_cpi Y (i:=0) hw rfl (by omega)).mono fun e w hq=>?_)
 clear hw;obtain⟨rfl,zs,hw⟩:=hq;refine⟨_,rfl,?_⟩;obtain⟨X,hX⟩:∃X,X=Go.Lib.compact Y:=⟨_,rfl⟩
 rw[←hX]at hw ⊢
 have hXm:∀x,x∈X↔x∈usedN H:=fun x=>by rw[hX,compact_mem];exact hYp.mem_iff
 have hXs:X.Pairwise (· < ·):=by rw[hX];exact compact_asc hYs
 have hXn:X.Nodup:=hXs.imp fun h=>by omega
 have hXr:∀x∈X,0≤x∧x<64:=fun x hx=>hN x ((hXm x).1 hx)
 have hXl:X.length≤64:=by
  have h1:(X.map Int.toNat).Nodup:=by
   rw[List.Nodup,List.pairwise_map];refine List.Pairwise.imp_of_mem (fun {x y} hx hy hlt he=>?_) hXs
   have:=hXr x hx
   have:=hXr y hy
   omega
  have:=Mk.nodup_le 64 _ h1 fun x hx=>by
   obtain⟨y,hy,rfl⟩:=List.mem_map.1 hx
   have:=hXr y hy
   omega
  rwa [List.length_map]at this
 clear hX hYp hYs;have hw:Wd Γ1 (.own (.slice q m d) 3 1 (iRows (X++zs))::g0::.blk b1 (hwC H a1 n1 c1 a2 n2 c2 a3 n3 c3 a4 n4 c4 a5 n5 c5)::S) w:=hw
 obtain⟨Γ2,hle2,hrz,hw⟩:=hw.freeze;have hxlen:m=(X++zs).length:=by have:=(rep_facts hrz).1;simpa[iRows] using this
 have hrX:RepS Γ2 (.slice q X.length d) 1 (intRows X):=by
  have:=hrz.cut (l:=0) (h:=X.length) (by omega) (by rw[hxlen,List.length_append];omega)
  rw[cutA_zero,List.drop_zero,Nat.sub_zero,Nat.sub_zero]at this;have e:(iRows (X++zs)).take X.length=intRows X:=by simp[iRows,intRows]
  rwa [e]at this
 have hXc:=(rep_facts hrX).2
 rw[hg0]at hw;clear hg0;have hfo:∀f∈fs0,FOk Γ2 f:=fun f hf=>((hfo0 f hf).1).mono hle2
 have hle02:=hle1.trans hle2
 have hfs:facts fs0=setS (hwFacts H)++(X.take 0).flatMap (fun a=>X.map (distF H a)):=by rw[hfs0,List.take_zero];simp
 clear hfs0 hfo0 hrz;have hD:∀k,((X.take k).flatMap fun a=>X.map (distF H a)).length≤4096:=fun k=>by
  have h1:=fm_len (m:=X.length) (f:=fun a=>X.map (distF H a)) (l:=X.take k) fun a _=>by rw[List.length_map];exact Nat.le_refl _
  have h2:(X.take k).length≤64:=by rw[List.length_take];omega
  exact Nat.le_trans h1 (Nat.le_trans (Nat.mul_le_mul h2 hXl) (by decide))
 repeat first|refine byW ?_|refine byV ?_;intro w hw
 refine W_loop (fun μ ρ w=>∃(i:Nat) (gv:Value) (Γ':Gho) (fs:List FactH),μ+i=X.length∧Has ρ [(1,.pointer (some ⟨b1,0,none⟩)),(4,gv),(6,.slice q X.length d),(13,.func (.func 50) #[] #[]),(70,.slice q X.length d),(71,.int .i64 X.length),(72,.int .i64 i)]∧Γ2.le Γ'∧(∀f∈fs,FOk Γ' f)∧facts fs=setS (hwFacts H)++(X.take i).flatMap (fun a=>X.map (distF H a))∧Wd Γ' (.own gv 67 2 (fs.map cF)::.blk b1 (hwC H a1 n1 c1 a2 n2 c2 a3 n3 c3 a4 n4 c4 a5 n5 c5)::S) w) X.length ⟨0,_,Γ2,fs0,by omega,⟨rfl,rfl,rfl,rfl,rfl,rfl,rfl,trivial⟩,Gho.le.refl _,hfo,hfs,hw⟩ ?_
 clear hw hfo hfs;rintro μ ρ w ⟨i,gv,Γ',fs,hi,hρ,hle,hfo,hfs,hw⟩
 rw[hρ.eq];clear hρ;have hrX1:=hrX.mono hle
 repeat first|refine byW ?_|refine byV ?_;intro w hw
 refine W_cond rfl (fun h=>?_) (fun h=>?_)
 ·have hin:i<X.length:=by have:=of_decide_eq_true h;omega
  clear h;obtain⟨a,hxa⟩:=get_lt (l:=X) (k:=i) hin
  have har:=hXr a (List.mem_of_getElem? hxa)
  repeat first|refine byW ?_|refine byV ?_;intro w hw
  have hRR:=(hh'.mono hle1).mono (hle2.trans hle)
  refine lCall ((distances_any (hh:=hRR) hLk har hw).mono fun e w hq=>?_)
  clear hw;obtain⟨vo,O,rfl,hOl,hOd,hw⟩:=hq;refine⟨_,rfl,?_⟩;obtain⟨ao,no,co,rfl,hno,hnoc,hco⟩:=hw.own_shape (i:=0) rfl
  obtain⟨Γ3,hle3,hrO,hw⟩:=hw.freeze;simp only[intRows,List.length_map]at hno
  have hle':=hle.trans hle3
  have hfo3:∀f∈fs,FOk Γ3 f:=fun f hf=>(hfo f hf).mono hle3
  have hfs3:facts fs=(setS (hwFacts H)++(X.take i).flatMap (fun a=>X.map (distF H a)))++(X.take 0).map (distF H a):=by rw[hfs,List.take_zero,List.map_nil,List.append_nil]
  have hDi:=hD i
  repeat first|refine byW ?_|refine byV ?_;intro w hw
  refine W_loop (fun μ2 ρ w=>∃(j:Nat) (gv:Value) (Γ':Gho) (fs:List FactH),μ2+j=X.length∧Has ρ [(1,.pointer (some ⟨b1,0,none⟩)),(4,gv),(6,.slice q X.length d),(13,.func (.func 50) #[] #[]),(15,.int .i64 a),(16,.slice ao no co),(70,.slice q X.length d),(71,.int .i64 X.length),(72,.int .i64 i),(79,.slice q X.length d),(80,.int .i64 X.length),(81,.int .i64 j)]∧Γ3.le Γ'∧(∀f∈fs,FOk Γ' f)∧facts fs=(setS (hwFacts H)++(X.take i).flatMap (fun a=>X.map (distF H a)))++(X.take j).map (distF H a)∧Wd Γ' (.own gv 67 2 (fs.map cF)::.blk b1 (hwC H a1 n1 c1 a2 n2 c2 a3 n3 c3 a4 n4 c4 a5 n5 c5)::S) w) X.length ⟨0,gv,Γ3,fs,by omega,⟨rfl,rfl,rfl,rfl,rfl,rfl,rfl,rfl,rfl,rfl,rfl,rfl,trivial⟩,Gho.le.refl _,hfo3,hfs3,hw⟩ ?_
  clear hw hfo hfs hfo3 hfs3;rintro μ2 ρ w ⟨j,gv,Γ',fs,hj,hρ,hle4,hfo,hfs,hw⟩
  rw[hρ.eq];clear hρ;obtain⟨ag,ng,cg,rfl,hng,-,-⟩:=hw.own_shape (i:=0) rfl
  rw[List.length_map]at hng;have hfl:fs.length≤10000:=by
   have h1:(facts fs).length=fs.length:=List.length_map ..
   rw[hfs,List.length_append,List.length_append,List.length_map,List.length_take]at h1;omega
  have hrX2:=hrX.mono (hle'.trans hle4)
  have hrO2:=hrO.mono hle4
  repeat first|refine byW ?_|refine byV ?_;intro w hw
  refine W_cond rfl (fun h=>?_) (fun h=>?_)
  ·have hjn:j<X.length:=by have:=of_decide_eq_true h;omega
   clear h;obtain⟨b,hxb⟩:=get_lt (l:=X) (k:=j) hjn
   have hbr:=hXr b (List.mem_of_getElem? hxb)
   obtain⟨y,hy⟩:=get_lt (l:=O) (k:=b.toNat) (by omega)
   have hyb:oat O b=y:=by unfold oat;rw[List.getD_eq_getElem?_getD,hy];rfl
   have hyd:=(hOd b hbr.1 hbr.2).1.eq
   rw[hyb]at hyd;rw[←hyd]at hy;repeat first|refine byW ?_|refine byV ?_;intro w hw
   refine W_mixQ [] (.own (.slice ag ng cg) 67 2 (fs.map cF)::.blk b1 (hwC H a1 n1 c1 a2 n2 c2 a3 n3 c3 a4 n4 c4 a5 n5 c5)::S) [98,99,100,101] 4 (.slice ag ng cg) [[],[],[],[],[],[],[],[],[],[],[],[],[],[0],[0],[0],[0],[0,1]] [[1],[],[],[],[],[],[],[],[],[],[],[],[],[0],[0],[0],[0],[0,1]] hw ?_
   refine mMoveR (dd:=4) ?_
   repeat(first|refine mPgv ?_|refine mY ?_|refine mP ?_|refine mPg ?_|refine mY (v:=.pointer (some ⟨aB ao,aO ao+b.toNat*1,none⟩)) ?_ (hy:=fun Y w g hw=>y_idxD (hrO2.rd hw) rfl rfl (by omega) (by omega))|refine mY (v:=.int .i64 (dstI (nbrL H.Links) a b)) ?_ (hy:=fun Y w g hw=>y_loadE1 (k:=b.toNat) rfl (hrO2.rd hw) (rows_map hy)))
   refine mStepY (v:=undef) (T':=Value) (fun t g=>g 98=t) (fun t=>.own t 41 3 (([iF a,iF b,iF (dstI (nbrL H.Links) a b)]:List Val).map enc)::(.own (.slice ag ng cg) 67 2 (fs.map cF)::.blk b1 (hwC H a1 n1 c1 a2 n2 c2 a3 n3 c3 a4 n4 c4 a5 n5 c5)::S)) (fun t g w Y _ hw=>s_buildSlice (rws:=([iF a,iF b,iF (dstI (nbrL H.Links) a b)]:List Val).map enc) hw rfl rfl rfl (fun r hr=>by obtain⟨v,_,rfl⟩:=List.mem_map.1 hr;rfl) (by decide) fun q w' hw'=>⟨_,rfl,(fun h=>by cases h),hw'⟩) ?_
   refine mStepY (φ:=fun (t:Value) g=>g 98=t) (R:=fun t=>.own t 41 3 (([iF a,iF b,iF (dstI (nbrL H.Links) a b)]:List Val).map enc)::(.own (.slice ag ng cg) 67 2 (fs.map cF)::.blk b1 (hwC H a1 n1 c1 a2 n2 c2 a3 n3 c3 a4 n4 c4 a5 n5 c5)::S)) (v:=undef) (T':=FactH) (fun t g=>g 99=.agg (cF t).toArray∧t.fact=distF H a b) (fun t=>.own t.hdr 41 3 (t.Args.map enc)::(.own (.slice ag ng cg) 67 2 (fs.map cF)::.blk b1 (hwC H a1 n1 c1 a2 n2 c2 a3 n3 c3 a4 n4 c4 a5 n5 c5)::S)) (fun t g w Y ht hw=>?_) ?_
   ·obtain⟨a9,n9,c9,rfl,-,-,-⟩:=hw.own_shape (i:=0) rfl
    have ht:g 98=.slice a9 n9 c9:=ht
    refine Mk.Yields.step (v:=.agg (cF ⟨distB,a9,n9,c9,[iF a,iF b,iF (dstI (nbrL H.Links) a b)]⟩).toArray) (y_build ?_) ⟨⟨distB,a9,n9,c9,[iF a,iF b,iF (dstI (nbrL H.Links) a b)]⟩,⟨rfl,rfl⟩,(fun h=>by cases h),hw⟩
    show fillL _ _ [(0,_),(1,g 98)]=_
    rw[ht];rfl
   refine mStepY (φ:=fun (t:FactH) g=>g 99=.agg (cF t).toArray∧t.fact=distF H a b) (R:=fun t=>.own t.hdr 41 3 (t.Args.map enc)::(.own (.slice ag ng cg) 67 2 (fs.map cF)::.blk b1 (hwC H a1 n1 c1 a2 n2 c2 a3 n3 c3 a4 n4 c4 a5 n5 c5)::S)) (v:=undef) (T':=Value×FactH) (fun t g=>g 100=t.1∧t.2.fact=distF H a b) (fun t=>.own t.1 67 2 [cF t.2]::.own t.2.hdr 41 3 (t.2.Args.map enc)::(.own (.slice ag ng cg) 67 2 (fs.map cF)::.blk b1 (hwC H a1 n1 c1 a2 n2 c2 a3 n3 c3 a4 n4 c4 a5 n5 c5)::S)) (fun t g w Y ht hw=>s_buildSlice (rws:=[cF t]) (cells:=cF t) hw ?_ (by simp) rfl (by simp[cF]) (by decide) fun q w' hw'=>⟨(_,t),⟨rfl,ht.2⟩,(fun h=>by cases h),hw'⟩) ?_
   ·have h1:g 99=.agg (cF t).toArray:=ht.1
    show fillL _ _ [(0,g 99)]=_
    rw[h1];rfl
   refine mStepY (φ:=fun (t:Value×FactH) g=>g 100=t.1∧t.2.fact=distF H a b) (R:=fun t=>.own t.1 67 2 [cF t.2]::.own t.2.hdr 41 3 (t.2.Args.map enc)::(.own (.slice ag ng cg) 67 2 (fs.map cF)::.blk b1 (hwC H a1 n1 c1 a2 n2 c2 a3 n3 c3 a4 n4 c4 a5 n5 c5)::S)) (v:=undef) (T':=Value×FactH) (fun t g=>g 101=t.1∧t.2.fact=distF H a b) (fun t=>.own t.1 67 2 (fs.map cF++[cF t.2])::.own t.2.hdr 41 3 (t.2.Args.map enc)::.blk b1 (hwC H a1 n1 c1 a2 n2 c2 a3 n3 c3 a4 n4 c4 a5 n5 c5)::S) (fun t g w Y ht hw=>?_) ?_
   ·obtain⟨t1,f⟩:=t;obtain⟨a9,n9,c9,rfl,hn9,-,-⟩:=hw.own_shape (i:=0) rfl
    simp at hn9
    exact s_append (i:=2) (rows2:=[cF f]) hw rfl ht.1 rfl (Wd.own_rd (i:=0) hw rfl) (by simp;omega) (cFs_one [f]) (by omega) (by omega) fun v' w' hw'=>⟨(v',f),⟨rfl,ht.2⟩,(fun h=>by cases h),hw'.drop.ps [1]⟩
   refine mAssY (φ:=fun (t:Value×FactH) g=>g 101=t.1∧t.2.fact=distF H a b) (dx:=101) (dd:=4) (fun t g=>g 4=t.1∧t.2.fact=distF H a b) (fun t g ht=>ht) ?_
   refine mEndQ (φ:=fun (t:Value×FactH) g=>g 4=t.1∧t.2.fact=distF H a b) fun t w g ht hw=>?_
   obtain⟨t1,f⟩:=t;obtain⟨Γ2,hle2,hokf,hw⟩:=(hw.ps [1]).freeze
   refine W_has (l:=[(1,.pointer (some ⟨b1,0,none⟩)),(6,.slice q X.length d),(13,.func (.func 50) #[] #[]),(15,.int .i64 a),(16,.slice ao no co),(70,.slice q X.length d),(71,.int .i64 X.length),(72,.int .i64 i),(79,.slice q X.length d),(80,.int .i64 X.length),(81,.int .i64 j),(4,t1)]) ⟨rfl,rfl,rfl,rfl,rfl,rfl,rfl,rfl,rfl,rfl,rfl,ht.1,trivial⟩ fun ρ hρ=>?_
   have hff:f.fact=distF H a b:=ht.2
   rw[hρ.eq];clear hρ ht;rw[show fs.map cF++[cF f]=(fs++[f]).map cF from by simp]at hw
   have hok2:∀x∈fs++[f],FOk Γ2 x:=fun x hx=>(List.mem_append.1 hx).elim (fun h=>(hfo x h).mono hle2) fun h=>by rw[List.mem_singleton.1 h];exact hokf
   have hw:Wd Γ2 (.own t1 67 2 ((fs++[f]).map cF)::.blk b1 (hwC H a1 n1 c1 a2 n2 c2 a3 n3 c3 a4 n4 c4 a5 n5 c5)::S) w:=Wd.left (S:=.own t1 67 2 ((fs++[f]).map cF)::.blk b1 (hwC H a1 n1 c1 a2 n2 c2 a3 n3 c3 a4 n4 c4 a5 n5 c5)::S) hw
   repeat first|refine byW ?_|refine byV ?_;intro w hw
   refine⟨μ2-1,by omega,j+1,t1,Γ2,fs++[f],by omega,⟨rfl,rfl,rfl,rfl,rfl,rfl,rfl,rfl,rfl,rfl,rfl,rfl,trivial⟩,hle4.trans hle2,hok2,?_,hw⟩
   have h1:facts (fs++[f])=facts fs++[f.fact]:=by unfold facts;rw[List.map_append];rfl
   rw[h1,hfs,hff,take_succ_of hxb,List.map_append,←List.append_assoc];rfl
  ·have hjn:X.length≤j:=by have:=of_decide_eq_false h;omega
   clear h;rw[List.take_of_length_le (l:=X) (i:=j) (by omega)]at hfs
   repeat first|refine byW ?_|refine byV ?_;intro w hw
   refine⟨μ-1,by omega,i+1,_,Γ',fs,by omega,⟨rfl,rfl,rfl,rfl,rfl,rfl,rfl,trivial⟩,hle'.trans hle4,hfo,?_,hw⟩
   rw[hfs,take_succ_of hxa,List.flatMap_append,List.append_assoc];simp
 ·have hin:X.length≤i:=by have:=of_decide_eq_false h;omega
  clear h;rw[List.take_of_length_le (l:=X) (i:=i) (by omega)]at hfs
  have hfs:facts fs=setS (hwFacts H)++distG H X:=hfs
  have hDl:=hD X.length
  rw[List.take_length]at hDl;have hfl:fs.length≤6593:=by
   have h1:(facts fs).length=fs.length:=List.length_map ..
   have h2:(distG H X).length≤4096:=hDl
   rw[hfs,List.length_append]at h1;omega
  repeat first|refine byW ?_|refine byV ?_;intro w hw
  refine lCall (vs:=[gv,.func (.func 52) #[] #[]]) ?_
  refine(sort_facts fs gv hfo (by omega) hw).mono ?_
  clear hw;rintro e w ⟨rfl,gs,hp,hs,hw⟩
  refine⟨_,rfl,?_⟩;have hgs:=sort_set hp hs (by rw[hfs];exact rt_nodup hV hXn)
  have hgl:gs.length=fs.length:=hp.length_eq
  obtain⟨ag,ng,cg,rfl,hng,-,-⟩:=hw.own_shape (i:=0) rfl
  rw[List.length_map]at hng;repeat first|refine byW ?_|refine byV ?_;intro w hw
  refine W_cond rfl (fun h=>?_) (fun _=>?_)
  ·exfalso
   have:=of_decide_eq_true h
   omega
  repeat first|refine byW ?_|refine byV ?_;intro w hw
  refine⟨_,rfl,Γ',_,gs,hle02.trans hle,rfl,?_,fun f hf=>⟨hfo f (hp.mem_iff.1 hf),?_⟩,hw.dropAt 1⟩
  ·rw[if_pos rfl,hgs,hfs];refine rtF_of fun f=>?_
   rw[List.mem_append,distG_mem];have e1:f∈setS (hwFacts H)↔f∈hwFacts H:=by unfold setS;exact setA_mem cFact_ord
   rw[e1];refine or_congr Iff.rfl ⟨fun⟨a,ha,b,hb,h⟩=>⟨a,(hXm a).1 ha,b,(hXm b).1 hb,h⟩,fun⟨a,ha,b,hb,h⟩=>⟨a,(hXm a).2 ha,b,(hXm b).2 hb,h⟩⟩
  ·have hm:f.fact∈facts fs:=List.mem_map.2 ⟨f,hp.mem_iff.1 hf,rfl⟩
   rw[hfs,List.mem_append]at hm;rcases hm with hm|hm
   ·refine hw_ok hV _ ?_
    have e1:f.fact∈setS (hwFacts H)↔f.fact∈hwFacts H:=by unfold setS;exact setA_mem cFact_ord
    exact e1.1 hm
   ·obtain⟨a,ha,b,hb,he⟩:=distG_mem.1 hm
    rw[he];have h1:=hXr a ha
    have h2:=hXr b hb
    have h3:=dst_le (x:=b) hLk h1
    refine⟨by show 3≤100000;decide,by show distB.size≤100000;decide,fun x hx=>?_⟩
    have hx:x∈[iF a,iF b,iF (dstI (nbrL H.Links) a b)]:=hx
    simp only[List.mem_cons,List.not_mem_nil,or_false]at hx
    rcases hx with rfl|rfl|rfl
    ·exact ok_iF (by omega)
    ·exact ok_iF (by omega)
    ·exact ok_iF (by omega)
end Go.Proofs.YtfoggcgogafocaaGreat
end
section
open Go Mk
namespace Go.Proofs.YtfoggcgogafocaaGreat
set_option maxHeartbeats 16000000
attribute [local irreducible] Calls
structure HwSm(H:HwT):Prop where
 n:H.Name.size≤60
 c:H.Cores.length≤40
 h:H.Caches.length≤70
 l:H.Links.length≤260
 m:H.Mems.length≤70
 d:H.Devs.length≤40
 hs:∀x∈H.Caches,x.Name.size≤60∧x.Cores.length≤40
 ms:∀x∈H.Mems,x.Name.size≤60
 ds:∀x∈H.Devs,x.Name.size≤60
theorem drop_getH{α:Type}{l:List α}{k:Nat}{x:α}(h:l[k]? = some x):l.drop k=x::l.drop (k+1):=by
 obtain⟨hk,rfl⟩:=List.getElem?_eq_some_iff.1 h
 exact List.drop_eq_getElem_cons hk
theorem all_drop{α:Type}{p:α→Bool}{l:List α}{k:Nat}{x:α}(h:l[k]? = some x):(l.drop k).all p=(p x&&(l.drop (k+1)).all p):=by rw[drop_getH h,List.all_cons]
theorem all_fin{α:Type}{p:α→Bool}{l:List α}{k:Nat}(h:l.length≤k):(l.drop k).all p=true:=by rw[List.drop_eq_nil_of_le h];rfl
def hsB(c:CacheT):Bool:=decide (c.Name.size≤60)&&decide (c.Cores.length≤40)
def smallHB(H:HwT):Bool:=((((((decide (H.Name.size≤60)&&decide (H.Cores.length≤40))&&decide (H.Caches.length≤70))&&decide (H.Links.length≤260))&&decide (H.Mems.length≤70))&&decide (H.Devs.length≤40)))&&(H.Caches.all hsB&&(H.Mems.all (fun x=>decide (x.Name.size≤60))&&H.Devs.all (fun x=>decide (x.Name.size≤60))))
theorem smallHB_iff{H:HwT}:smallHB H=true↔HwSm H:=by
 unfold smallHB hsB;simp only[Bool.and_eq_true,List.all_eq_true,decide_eq_true_eq]
 exact⟨fun⟨⟨⟨⟨⟨⟨h1,h2⟩,h3⟩,h4⟩,h5⟩,h6⟩,h7,h8,h9⟩=>⟨h1,h2,h3,h4,h5,h6,h7,h8,h9⟩,fun h=>⟨⟨⟨⟨⟨⟨h.n,h.c⟩,h.h⟩,h.l⟩,h.m⟩,h.d⟩,h.hs,h.ms,h.ds⟩⟩
instance pg_Small{Γ:Gho}{u:Value}{H:HwT}[hh:HwQ Γ u H]:PG Tryz.prog Γ 11 [u] (.bool (smallHB H)):=⟨fun S w hw=>by
 obtain⟨a1,n1,c1,a2,n2,c2,a3,n3,c3,a4,n4,c4,a5,n5,c5,cs,rfl,hcs,hok,r1,r2,r3,r4,r5⟩:=hh.h;obtain⟨f1,-,-⟩:=rep_facts r1
 obtain⟨f2,-,-⟩:=rep_facts r2
 obtain⟨f3,-,-⟩:=rep_facts r3
 obtain⟨f4,-,-⟩:=rep_facts r4
 obtain⟨f5,-,-⟩:=rep_facts r5
 simp only[List.length_map]at f1 f2 f3 f4 f5
 have hcl:cs.length=H.Caches.length:=by rw[←hcs,List.length_map]
 refine calls_of_W Tryz.func11 rfl rfl ?_
 repeat first|refine byW ?_|refine byV ?_;intro w hw
 refine lBox ?_;intro b1 w hw;have hw:Wd Γ (.blk b1 (hwC H a1 n1 c1 a2 n2 c2 a3 n3 c3 a4 n4 c4 a5 n5 c5)::S) w:=hw
 repeat first|refine byW ?_|refine byV ?_;intro w hw
 refine W_cond rfl (fun h=>?_) (fun h=>?_)
 ·have h:(((((decide ((60:Int)<(H.Name.size:Nat))||decide ((40:Int)<(n1:Nat)))||decide ((70:Int)<(n2:Nat)))||decide ((260:Int)<(n3:Nat)))||decide ((70:Int)<(n4:Nat)))||decide ((40:Int)<(n5:Nat)))=true:=h
  repeat first|refine byW ?_|refine byV ?_;intro w hw
  refine⟨_,rfl,ret_b rfl ?_,hw.drop⟩
  symm
  rw[Bool.eq_false_iff];intro q;have q:=smallHB_iff.1 q
  have q1:=q.n
  have q2:=q.c
  have q3:=q.h
  have q4:=q.l
  have q5:=q.m
  have q6:=q.d
  simp only[Bool.or_eq_true,decide_eq_true_eq]at h
  omega
 have h:(((((decide ((60:Int)<(H.Name.size:Nat))||decide ((40:Int)<(n1:Nat)))||decide ((70:Int)<(n2:Nat)))||decide ((260:Int)<(n3:Nat)))||decide ((70:Int)<(n4:Nat)))||decide ((40:Int)<(n5:Nat)))=false:=h
 simp only[Bool.or_eq_false_iff,decide_eq_false_iff_not]at h
 have hB:smallHB H=(H.Caches.all hsB&&(H.Mems.all (fun x=>decide (x.Name.size≤60))&&H.Devs.all (fun x=>decide (x.Name.size≤60)))):=by
  unfold smallHB;rw[decide_eq_true (show H.Name.size≤60 by omega),decide_eq_true (show H.Cores.length≤40 by omega),decide_eq_true (show H.Caches.length≤70 by omega),decide_eq_true (show H.Links.length≤260 by omega),decide_eq_true (show H.Mems.length≤70 by omega),decide_eq_true (show H.Devs.length≤40 by omega)];rfl
 rw[hB];clear hB;repeat first|refine byW ?_|refine byV ?_;intro w hw
 refine W_loop (fun μ ρ w=>∃(k:Nat),μ+k=n2∧Has ρ [(1,.pointer (some ⟨b1,0,none⟩)),(3,.int .i64 k)]∧H.Caches.all hsB=(H.Caches.drop k).all hsB∧Wd Γ (.blk b1 (hwC H a1 n1 c1 a2 n2 c2 a3 n3 c3 a4 n4 c4 a5 n5 c5)::S) w) n2 ⟨0,by omega,⟨rfl,rfl,trivial⟩,rfl,hw⟩ ?_
 clear hw;rintro μ ρ w ⟨k,hk,hρ,hal,hw⟩
 rw[hρ.eq];repeat first|refine byW ?_|refine byV ?_;intro w hw
 refine W_cond rfl (fun h=>?_) (fun h=>?_)
 ·have hkn:k<n2:=by have:=of_decide_eq_true h;omega
  obtain⟨x,hx⟩:=get_lt (l:=cs) (k:=k) (by omega)
  obtain⟨g1,g2,g3⟩:=(hok x (List.mem_of_getElem? hx)).facts
  have hxT:H.Caches[k]? = some x.T:=by rw[←hcs,List.getElem?_map,hx];rfl
  rw[all_drop hxT]at hal;have hS:hsB x.T=(decide (x.Name.size≤60)&&decide (x.Cores.length≤40)):=rfl
  cases hb1:decide ((x.Name.size:Int) > 60) with
  | true=>
   have h:¬x.Name.size≤60:=by have:=of_decide_eq_true hb1;omega
   repeat(first|(first|refine W_seq ?_|refine W_block ?_|refine W_region ?_|refine W_skip ?_|refine W_ret ?_|refine W_exit ?_)|((first|apply L_bin|apply L_notop);first|(refine lT ?_ ?_;(first|exact hb1|exact hb2|exact hb3|exact hb4))|(refine lF ?_ ?_;(first|exact hb1|exact hb2|exact hb3|exact hb4)))|(first|refine L_nil ?_|(apply L_plain;first|(apply L_go;first|refine lP ?_|(refine lPg ?_;intro w hw))|(apply L_mf;refine lMakeFunc ?_)|refine lY ?_)|(apply L_guarded;first|refine lGT ?_ (hct:=rfl)|refine lGF ?_ (hct:=rfl)|(apply L_go;first|refine lPG ?_|(refine lPgG ?_;intro w hw))|refine lG ?_))|(refine lAlloc ?_;intro _ w hw)|(refine lBox ?_;intro _ w hw)|(refine lStore ?_;intro w hw))
   refine W_cond_true rfl ?_
   repeat first|refine byW ?_|refine byV ?_;intro w hw
   refine⟨_,rfl,ret_b rfl ?_,hw.drop⟩
   rw[hal,hS,decide_eq_false h];rfl
  | false=>
   have h:x.Name.size≤60:=by have:=of_decide_eq_false hb1;omega
   cases hb2:decide ((x.N:Int) > 40) with
   | true=>
    have h2:¬x.Cores.length≤40:=by have:=of_decide_eq_true hb2;omega
    repeat(first|(first|refine W_seq ?_|refine W_block ?_|refine W_region ?_|refine W_skip ?_|refine W_ret ?_|refine W_exit ?_)|((first|apply L_bin|apply L_notop);first|(refine lT ?_ ?_;(first|exact hb1|exact hb2|exact hb3|exact hb4))|(refine lF ?_ ?_;(first|exact hb1|exact hb2|exact hb3|exact hb4)))|(first|refine L_nil ?_|(apply L_plain;first|(apply L_go;first|refine lP ?_|(refine lPg ?_;intro w hw))|(apply L_mf;refine lMakeFunc ?_)|refine lY ?_)|(apply L_guarded;first|refine lGT ?_ (hct:=rfl)|refine lGF ?_ (hct:=rfl)|(apply L_go;first|refine lPG ?_|(refine lPgG ?_;intro w hw))|refine lG ?_))|(refine lAlloc ?_;intro _ w hw)|(refine lBox ?_;intro _ w hw)|(refine lStore ?_;intro w hw))
    refine W_cond_true rfl ?_
    repeat first|refine byW ?_|refine byV ?_;intro w hw
    refine⟨_,rfl,ret_b rfl ?_,hw.drop⟩
    rw[hal,hS,decide_eq_true h,decide_eq_false h2];rfl
   | false=>
    have h2:x.Cores.length≤40:=by have:=of_decide_eq_false hb2;omega
    rw[hS,decide_eq_true h,decide_eq_true h2]at hal;repeat(first|(first|refine W_seq ?_|refine W_block ?_|refine W_region ?_|refine W_skip ?_|refine W_ret ?_|refine W_exit ?_)|((first|apply L_bin|apply L_notop);first|(refine lT ?_ ?_;(first|exact hb1|exact hb2|exact hb3|exact hb4))|(refine lF ?_ ?_;(first|exact hb1|exact hb2|exact hb3|exact hb4)))|(first|refine L_nil ?_|(apply L_plain;first|(apply L_go;first|refine lP ?_|(refine lPg ?_;intro w hw))|(apply L_mf;refine lMakeFunc ?_)|refine lY ?_)|(apply L_guarded;first|refine lGT ?_ (hct:=rfl)|refine lGF ?_ (hct:=rfl)|(apply L_go;first|refine lPG ?_|(refine lPgG ?_;intro w hw))|refine lG ?_))|(refine lAlloc ?_;intro _ w hw)|(refine lBox ?_;intro _ w hw)|(refine lStore ?_;intro w hw))
    refine W_cond_false rfl ?_
    repeat first|refine byW ?_|refine byV ?_;intro w hw
    exact⟨μ-1,by omega,k+1,by omega,⟨rfl,rfl,trivial⟩,hal,hw⟩
 have hkn:n2≤k:=by have:=of_decide_eq_false h;omega
 rw[all_fin (by omega)]at hal
 rw[hal,Bool.true_and];clear hk hρ;repeat first|refine byW ?_|refine byV ?_;intro w hw
 refine W_loop (fun μ ρ w=>∃(k:Nat),μ+k=n4∧Has ρ [(1,.pointer (some ⟨b1,0,none⟩)),(4,.int .i64 k)]∧H.Mems.all (fun x=>decide (x.Name.size≤60))=(H.Mems.drop k).all (fun x=>decide (x.Name.size≤60))∧Wd Γ (.blk b1 (hwC H a1 n1 c1 a2 n2 c2 a3 n3 c3 a4 n4 c4 a5 n5 c5)::S) w) n4 ⟨0,by omega,⟨rfl,rfl,trivial⟩,rfl,hw⟩ ?_
 clear hw hal;rintro μ ρ w ⟨k,hk,hρ,hal,hw⟩
 rw[hρ.eq];repeat first|refine byW ?_|refine byV ?_;intro w hw
 refine W_cond rfl (fun h=>?_) (fun h=>?_)
 ·have hkn:k<n4:=by have:=of_decide_eq_true h;omega
  obtain⟨x,hx⟩:=get_lt (l:=H.Mems) (k:=k) (by omega)
  rw[all_drop hx]at hal;repeat first|refine byW ?_|refine byV ?_;intro w hw
  refine W_cond rfl (fun h=>?_) (fun h=>?_)
  ·have h:¬x.Name.size≤60:=by have:=of_decide_eq_true h;omega
   repeat first|refine byW ?_|refine byV ?_;intro w hw
   refine⟨_,rfl,ret_b rfl ?_,hw.drop⟩
   rw[hal,decide_eq_false h];rfl
  ·have h:x.Name.size≤60:=by have:=of_decide_eq_false h;omega
   rw[decide_eq_true h,Bool.true_and]at hal;repeat first|refine byW ?_|refine byV ?_;intro w hw
   exact⟨μ-1,by omega,k+1,by omega,⟨rfl,rfl,trivial⟩,hal,hw⟩
 have hkn:n4≤k:=by have:=of_decide_eq_false h;omega
 rw[all_fin (by omega)]at hal
 rw[hal,Bool.true_and];clear hk hρ;repeat first|refine byW ?_|refine byV ?_;intro w hw
 refine W_loop (fun μ ρ w=>∃(k:Nat),μ+k=n5∧Has ρ [(1,.pointer (some ⟨b1,0,none⟩)),(5,.int .i64 k)]∧H.Devs.all (fun x=>decide (x.Name.size≤60))=(H.Devs.drop k).all (fun x=>decide (x.Name.size≤60))∧Wd Γ (.blk b1 (hwC H a1 n1 c1 a2 n2 c2 a3 n3 c3 a4 n4 c4 a5 n5 c5)::S) w) n5 ⟨0,by omega,⟨rfl,rfl,trivial⟩,rfl,hw⟩ ?_
 clear hw hal;rintro μ ρ w ⟨k,hk,hρ,hal,hw⟩
 rw[hρ.eq];repeat first|refine byW ?_|refine byV ?_;intro w hw
 refine W_cond rfl (fun h=>?_) (fun h=>?_)
 ·have hkn:k<n5:=by have:=of_decide_eq_true h;omega
  obtain⟨x,hx⟩:=get_lt (l:=H.Devs) (k:=k) (by omega)
  rw[all_drop hx]at hal;repeat first|refine byW ?_|refine byV ?_;intro w hw
  refine W_cond rfl (fun h=>?_) (fun h=>?_)
  ·have h:¬x.Name.size≤60:=by have:=of_decide_eq_true h;omega
   repeat first|refine byW ?_|refine byV ?_;intro w hw
   refine⟨_,rfl,ret_b rfl ?_,hw.drop⟩
   rw[hal,decide_eq_false h];rfl
  ·have h:x.Name.size≤60:=by have:=of_decide_eq_false h;omega
   rw[decide_eq_true h,Bool.true_and]at hal;repeat first|refine byW ?_|refine byV ?_;intro w hw
   exact⟨μ-1,by omega,k+1,by omega,⟨rfl,rfl,trivial⟩,hal,hw⟩
 have hkn:n5≤k:=by have:=of_decide_eq_false h;omega
 rw[all_fin (by omega)]at hal
 rw[hal];clear hk hρ;repeat first|refine byW ?_|refine byV ?_;intro w hw
 exact⟨_,rfl,rfl,hw.drop⟩⟩
section
variable {P:Program}{n:Nat}{ops:List Oper}{Γ:Gho}{S:List Res}{Q:Fr→World→Prop}{ρ:Fr}{rest:List Oper}{j dj:Nat}{want:Bool}{d:Option Tmp}{op:Op}{ty:TypeId}{pos:String}{es:Array Edge}{v:Value}
end
theorem hw_freeze{Γ:Gho}{S:List Res}{w:World}{H:HwT}{u:Value}(hsz:HwSz H)(hw:Wd Γ (Res.hw u H::S) w):∃Γ',Γ.le Γ'∧HwR Γ' u H∧Wd Γ' S w:=by
 unfold Res.hw at hw;obtain⟨⟨p,hu',hcs'⟩,hw⟩:=hw.openEx;obtain⟨v1,v2,v3,v4,v5,cs'⟩:=p;have hu':u=.agg #[.string H.Name,v1,v2,v3,v4,v5]:=hu'
 have hcs':cs'.map CacheH.T=H.Caches:=hcs'
 have hw:Wd Γ (cs'.map ownC++(.own v1 37 4 (H.Cores.map enc)::.own v2 89 5 (cs'.map cC)::.own v3 79 3 (H.Links.map enc)::.own v4 83 5 (H.Mems.map enc)::.own v5 85 5 (H.Devs.map enc)::S)) w:=hw.perm (by
  show ((.own v1 37 4 (H.Cores.map enc)::.own v2 89 5 (cs'.map cC)::.own v3 79 3 (H.Links.map enc)::.own v4 83 5 (H.Mems.map enc)::.own v5 85 5 (H.Devs.map enc)::cs'.map ownC)++S).Perm _
  exact byPM)
 obtain⟨Γ3,hle3,hok',hw⟩:=freezeC hw
 have ho:HwOut Γ3 H S u w:=⟨v1,v2,v3,v4,v5,cs',hcs',hok',hu',hw⟩
 obtain⟨Γ4,hle4,hR,hw⟩:=ho.freeze hsz
 exact⟨Γ4,hle3.trans hle4,hR,hw⟩
theorem hwSm_sz{H:HwT}(h:HwSm H):HwSz H:=by
 refine⟨?_,fun c hc=>?_,fun c hc=>?_,fun c hc=>?_⟩
 ·have:=h.n;unfold maxS;omega
 ·have:=(h.hs c hc).1;unfold maxS;omega
 ·have:=h.ms c hc;unfold maxS;omega
 ·have:=h.ds c hc;unfold maxS;omega
theorem hwSm_len{H:HwT}(h:HwSm H):HwLen H:=by
 refine⟨?_,?_,?_,?_,?_,fun c hc=>?_⟩
 ·have:=h.c;omega
 ·have:=h.h;omega
 ·have:=h.l;omega
 ·have:=h.m;omega
 ·have:=h.d;omega
 ·have:=(h.hs c hc).2;omega
end Go.Proofs.YtfoggcgogafocaaGreat
end
section
open Go Mk
namespace Go.Proofs.YtfoggcgogafocaaGreat
set_option maxHeartbeats 32000000
attribute [local irreducible] Calls cFact validS hwFacts dstI setS distS
theorem RouteExact_any{Γ:Gho}{S:List Res}{w:World}{u:Value}{H:HwT}[hq:HwQ Γ u H](hmw:MemWide H)(a b:Int)(hw:Wd Γ S w) :
  Calls Tryz.prog 4 #[u,.int .i64 a,.int .i64 b] w fun e w'=>∃Γ',Γ.le Γ'∧e=.returned (.bool true)∧Wd Γ' S w':=by
 have hq':=hq
 obtain⟨a1,n1,c1,a2,n2,c2,a3,n3,c3,a4,n4,c4,a5,n5,c5,cs,rfl,hcs,hok,rr⟩:=hq.h;refine calls_of_W Tryz.func4 rfl rfl ?_
 repeat first|refine byW ?_|refine byV ?_;intro w hw
 refine lBox ?_;intro b3 w hw;have hw:Wd Γ (.blk b3 (hwC H a1 n1 c1 a2 n2 c2 a3 n3 c3 a4 n4 c4 a5 n5 c5)::S) w:=hw
 repeat first|refine byW ?_|refine byV ?_;intro w hw
 refine W_cond rfl (fun h=>?_) (fun h=>?_)
 ·repeat first|refine byW ?_|refine byV ?_;intro w hw
  exact⟨_,rfl,Γ,.refl _,rfl,hw.drop⟩
 have h:(!smallHB H)=false:=h
 have hsm:HwSm H:=by
  rw[←smallHB_iff];simpa using h
 clear h;haveI hR:HwR Γ (.agg #[.string H.Name,.slice a1 n1 c1,.slice a2 n2 c2,.slice a3 n3 c3,.slice a4 n4 c4,.slice a5 n5 c5]) H:=⟨a1,n1,c1,a2,n2,c2,a3,n3,c3,a4,n4,c4,a5,n5,c5,cs,rfl,hcs,hok,hwSm_sz hsm,rr⟩
 haveI hwd:WideH H:=⟨hmw⟩
 repeat first|refine byW ?_|refine byV ?_;intro w hw
 refine lCall ((Copy_any (hwSm_len hsm) hw).mono fun e w hq=>?_)
 clear hw;obtain⟨u',rfl,hw⟩:=hq;refine⟨_,rfl,?_⟩;have hBW:=hw
 clear hw;obtain⟨Γ1,hle1,hR1,hw⟩:=hw_freeze (hwSm_sz hsm) hBW
 clear hBW;have hR1':=hR1
 obtain⟨A1,N1,C1,A2,N2,C2,A3,N3,C3,A4,N4,C4,A5,N5,C5,cs',rfl,-⟩:=hR1.h;have hRr:=hR.mono hle1
 repeat first|refine byW ?_|refine byV ?_;intro w hw
 refine lAlloc ?_;intro b7 w hw;refine lStore ?_;intro w hw;have hw:Wd Γ1 (.blk b7 (hwC H A1 N1 C1 A2 N2 C2 A3 N3 C3 A4 N4 C4 A5 N5 C5)::.blk b3 (hwC H a1 n1 c1 a2 n2 c2 a3 n3 c3 a4 n4 c4 a5 n5 c5)::S) w:=hw
 have p1:=pg_Distance (hh:=hR1') a b
 have p2:=pg_RDistance (hh:=hRr) (hwd:=hwd) a b
 generalize hd1:(distS H a b).1=d1 at p1 p2
 generalize hd2:(distS H a b).2=d2 at p1 p2
 repeat first|refine byW ?_|refine byV ?_;intro w hw
 refine lCall ((Path_any (hh:=hR1') a b hw).mono fun e w hq=>?_)
 clear hw;obtain⟨v1,p,err,rfl,hP1,hw⟩:=hq;refine⟨_,rfl,?_⟩;obtain⟨aa,na,ca,rfl,-,-,-⟩:=hw.own_shape (i:=0) rfl
 obtain⟨Γ2,hle2,s1,hw⟩:=hw.freeze;have hRr2:=hRr.mono hle2
 repeat first|refine byW ?_|refine byV ?_;intro w hw
 refine lCall ((RPath_any (hh:=hRr2) (hwd:=hwd) a b hw).mono fun e w hq=>?_)
 clear hw;obtain⟨v2,p',err',rfl,hP2,hw⟩:=hq;obtain⟨ep,ee⟩:=pathOut_uniq hP1 hP2
 rw[←ep]at hw;rw[←ee];refine⟨_,rfl,?_⟩;obtain⟨ab,nb,cb,hv2,-,-,-⟩:=hw.own_shape (i:=0) rfl
 rw[hv2]at hw ⊢
 obtain⟨Γ3,hle3,s2,hw⟩:=hw.freeze;have hR13:=(hR1'.mono hle2).mono hle3
 repeat first|refine byW ?_|refine byV ?_;intro w hw
 refine lCall ((PFacts_any (hh:=hR13) hw).mono fun e w hq=>?_)
 clear hw;obtain⟨Γ4,v3,gs,hle4,rfl,hgs,hgo,hw⟩:=hq;refine⟨_,rfl,?_⟩;obtain⟨ac,nc,cc,hv3,-,-,-⟩:=hw.own_shape (i:=0) rfl
 rw[hv3]at hw ⊢
 obtain⟨Γ5,hle5,s3,hw⟩:=hw.freeze;have hRr5:=((hRr2.mono hle3).mono hle4).mono hle5
 repeat first|refine byW ?_|refine byV ?_;intro w hw
 refine lCall ((RFacts_any (hh:=hRr5) (hwd:=hwd) hw).mono fun e w hq=>?_)
 clear hw;obtain⟨Γ6,v4,fs,hle6,rfl,hfs,hfo,hw⟩:=hq;refine⟨_,rfl,?_⟩;obtain⟨ad,nd,cd,hv4,-,-,-⟩:=hw.own_shape (i:=0) rfl
 rw[hv4]at hw ⊢
 obtain⟨Γ7,hle7,s4,hw⟩:=hw.freeze;have hle67:=hle6.trans hle7
 have hle37:=hle4.trans (hle5.trans hle67)
 haveI i1:SlC Γ7 (.slice aa na ca) 1 (intRows p):=⟨s1.mono (hle3.trans hle37)⟩
 haveI i2:SlC Γ7 (.slice ab nb cb) 1 (intRows p):=⟨s2.mono hle37⟩
 have hff:facts gs=facts fs:=by rw[hgs,hfs]
 have hL1:RL Γ7 (.slice ac nc cc) gs:=⟨s3.mono hle67,(hgo.mono hle5).mono hle67⟩
 have hL2:RL Γ7 (.slice ad nd cd) fs:=⟨s4,fun f hf=>⟨(hfo f hf).mono hle7,by
  have hm:f.fact∈facts gs:=by rw[hff];exact List.mem_map.2 ⟨f,hf,rfl⟩
  obtain⟨g,hg,he⟩:=List.mem_map.1 hm
  rw[←he];exact(hgo g hg).2⟩⟩
 have q1:PG Tryz.prog Γ7 20 [.slice aa na ca,.slice ab nb cb] (.bool true):=by
  have:=pg_SameInts (hr:=i1) (hr2:=i2)
  simpa using this
 have q2:=pg_sameF hL1 hL2
 rw[decide_eq_true hff]at q2;have hQ1:HwQ Γ7 (.agg #[.string H.Name,.slice A1 N1 C1,.slice A2 N2 C2,.slice A3 N3 C3,.slice A4 N4 C4,.slice A5 N5 C5]) H:=by
  haveI:=hR13.mono hle37
  infer_instance
 have hQ2:HwQ Γ7 (.agg #[.string H.Name,.slice a1 n1 c1,.slice a2 n2 c2,.slice a3 n3 c3,.slice a4 n4 c4,.slice a5 n5 c5]) H:=by
  haveI:=hRr5.mono hle67
  infer_instance
 have q3:PG Tryz.prog Γ7 22 [.agg #[.string H.Name,.slice A1 N1 C1,.slice A2 N2 C2,.slice A3 N3 C3,.slice A4 N4 C4,.slice A5 N5 C5],.agg #[.string H.Name,.slice a1 n1 c1,.slice a2 n2 c2,.slice a3 n3 c3,.slice a4 n4 c4,.slice a5 n5 c5]] (.bool true):=by
  have:=pg_REqual (hh:=hQ1) (hg:=hQ2)
  rwa [decide_eq_true rfl]at this
 clear p1 p2 hd1 hd2 hP1 hP2;have q4:PG Tryz.prog Γ7 12 [] (.bool true):=pg_awake
 clear i1 i2;generalize validS H=er
 repeat first|refine byW ?_|refine byV ?_;intro w hw
 exact⟨_,rfl,Γ7,hle1.trans (hle2.trans (hle3.trans hle37)),ret_b rfl (by simp),hw.ds [0,0]⟩
end Go.Proofs.YtfoggcgogafocaaGreat
end
