/- Texts of this proof, one behind another. -/
import Derived.Test.YtfoggcgogafocaaGreatM2
import Derived.Test.YtfoggcgogafocaaGreatRows
import Derived.ProofKit
import Derived.OpenShut
import Derived.Deep.Slices
import Derived.ReadAgain
import Derived.Laws.MakeOwn
import Derived.Lib.UnsafeStr
import Derived.Lib.Builder
import Derived.Below
set_option linter.unusedVariables false
set_option linter.unusedSimpArgs false
section
open Go Mk
namespace Go.Proofs.YtfoggcgogafocaaGreat
set_option maxHeartbeats 8000000
attribute [local irreducible] Calls
theorem own_len{Γ:Gho}{S:List Res}{w:World}{i e sz n c:Nat}{a:Option Addr}{rows:List (List Value)}(hw:Wd Γ S w)(hi:S[i]? = some (.own (.slice a n c) e sz rows)):n=rows.length:=by
 obtain⟨_,_,_,h1,h2,-,-⟩:=hw.own_shape hi;cases h1;exact h2
def linkKey(l:LinkT):Int×Int:=(if l.B<l.A then l.B else l.A,if l.A<l.B then l.B else l.A)
def uniqueB(H:HwT):Bool:=(H.Caches.all fun c=>decide c.Cores.Nodup)&&(decide (H.Cores.map (·.ID)).Nodup&&decide (H.Caches.map (·.Name)).Nodup&&decide (H.Mems.map (·.Name)).Nodup&&decide (H.Devs.map (·.Name)).Nodup&&decide (H.Devs.map (·.IRQ)).Nodup&&decide (H.Links.map linkKey).Nodup)
theorem all_cuniq(cs:List CacheH):((cs.map CacheH.T).all fun c=>decide c.Cores.Nodup)=cs.all fun c=>decide c.Cores.Nodup:=by rw[List.all_map];rfl
theorem counts_le{H:HwT}(h:countsB H=true):1≤H.Cores.length∧H.Cores.length≤32∧H.Caches.length≤64∧H.Links.length≤256∧H.Mems.length≤64∧H.Devs.length≤32:=by
 unfold countsB at h;simp only[Bool.and_eq_true,decide_eq_true_eq]at h
 omega
instance:TBA Tryz.prog 254 1 [.int .i64 0,.int .i64 0]:=⟨by kernel_rfl,by kernel_rfl⟩
section
attribute [local semireducible] gv
theorem lCallGd{P:Program}{n:Nat}{opa:Array Oper}{QQ:Exit→Fr→World→Prop}{rest:List Oper}{ρ:Fr}{w:World}{Γ:Gho}{S:List Res}{d:Option Tmp}{ty:TypeId}{pos:String}{es:Array Edge}{f j dj:Nat}{want c:Bool}{args:List Operand}{tys:Array TypeId}{vs:List Value}{v:Value}[FnOk P f]
  (hcall:c=true→Calls P f vs.toArray w fun e w'=>e=.returned v∧Wd Γ S w') (h:∀w',Wd Γ S w'→L P n opa QQ rest (putO ρ d (gv c v)) w') (hw:Wd Γ S w:=by exact hw) (hj:(opa[j]?).bind (·.dst)=some dj:=by exact rfl) (hjn:okDst n (some dj)=true:=by exact rfl) (hc:GuardIs (ρ dj) want c:=by exact byGC) (hd:okDst n d=true:=by exact rfl) (ha:c=true→EvL ρ args vs:=by intro hc;exact byEVG) :
  L P n opa QQ (⟨d,.call { callee:=.value (.func f),args:=args.toArray,argTypes:=tys },ty,pos,es,some (j,want)⟩::rest) ρ w:=
 lGC hj hjn hd hc (fun hct=>lCall ((hcall hct).mono fun e w' ⟨h1,h2⟩=>⟨v,h1,by have:=h w' h2;rw[hct]at this;exact this⟩) (ha hct) hd) (fun hcf=>by have:=h w hw;rw[hcf]at this;exact this)
end
theorem rows_snocI{α:Type}{f:α→Int}{l:List α}{k:Nat}{x:α}(hx:l[k]? = some x):intRows ((l.take k).map f)++[[.int .i64 (f x)]]=intRows ((l.take (k+1)).map f):=by rw[take_succ_of hx];simp[intRows]
theorem rows_snocS{α:Type}{f:α→ByteArray}{l:List α}{k:Nat}{x:α}(hx:l[k]? = some x):strRows ((l.take k).map f)++[[.string (f x)]]=strRows ((l.take (k+1)).map f):=by rw[take_succ_of hx];simp[strRows]
theorem rows_snocP{α:Type}{f:α→Int×Int}{l:List α}{k:Nat}{x:α}(hx:l[k]? = some x):pairRows ((l.take k).map f)++[[.int .i64 (f x).1,.int .i64 (f x).2]]=pairRows ((l.take (k+1)).map f):=by rw[take_succ_of hx];simp[pairRows]
theorem unique_any{Γ:Gho}{S:List Res}{w:World}{u:Value}{H:HwT}[hh:HwR Γ u H](hcnt:countsB H=true)(hw:Wd Γ S w):Calls Tryz.prog 148 #[u] w fun e w'=>e=.returned (.bool (uniqueB H))∧Wd Γ S w':=by
 obtain⟨-,l1,l2,l3,l4,l5⟩:=counts_le hcnt
 obtain⟨a1,n1,c1,a2,n2,c2,a3,n3,c3,a4,n4,c4,a5,n5,c5,cs,rfl,hcs,hok,hsz,r1,r2,r3,r4,r5⟩:=hh.h;obtain⟨hn1,hm1,hx1⟩:=rep_facts r1
 obtain⟨hn2,hm2,hx2⟩:=rep_facts r2
 obtain⟨hn3,hm3,hx3⟩:=rep_facts r3
 obtain⟨hn4,hm4,hx4⟩:=rep_facts r4
 obtain⟨hn5,hm5,hx5⟩:=rep_facts r5
 simp only[List.length_map]at hn1 hn2 hn3 hn4 hn5
 have hcl:cs.length=H.Caches.length:=by rw[←hcs];simp
 refine calls_of_W Tryz.func148 rfl rfl ?_
 refine byG ?_;refine lBox ?_;intro b1 w hw;have hw:Wd Γ (.blk b1 (.cells #[.string H.Name,.slice a1 n1 c1,.slice a2 n2 c2,.slice a3 n3 c3,.slice a4 n4 c4,.slice a5 n5 c5] 30)::S) w:=hw
 have hw:Wd Γ (.own (.slice none 0 0) 3 1 (intRows [])::.own (.slice none 0 0) 3 1 (intRows [])::.own (.slice none 0 0) 9 1 (strRows [])::.own (.slice none 0 0) 9 1 (strRows [])::.own (.slice none 0 0) 9 1 (strRows [])::.own (.slice none 0 0) 254 2 (pairRows [])::.blk b1 (.cells #[.string H.Name,.slice a1 n1 c1,.slice a2 n2 c2,.slice a3 n3 c3,.slice a4 n4 c4,.slice a5 n5 c5] 30)::S) w:=Wd.addNil (Wd.addNil (Wd.addNil (Wd.addNil (Wd.addNil (Wd.addNil (hw))))))
 refine byG ?_;refine W_loop (fun μ ρ w=>∃(k:Nat) (q3:Option Addr) (m3 d3:Nat),μ+k=n1∧Has ρ [(1,.pointer (some ⟨b1,0,none⟩)),(3,.slice q3 m3 d3),(4,.slice none 0 0),(5,.slice none 0 0),(6,.slice none 0 0),(7,.slice none 0 0),(8,.slice none 0 0),(20,.slice a1 n1 c1),(21,.int .i64 n1),(22,.int .i64 k)]∧Wd Γ (.own (.slice q3 m3 d3) 3 1 (intRows ((H.Cores.take k).map (fun c=>c.ID)))::.own (.slice none 0 0) 3 1 (intRows [])::.own (.slice none 0 0) 9 1 (strRows [])::.own (.slice none 0 0) 9 1 (strRows [])::.own (.slice none 0 0) 9 1 (strRows [])::.own (.slice none 0 0) 254 2 (pairRows [])::.blk b1 (.cells #[.string H.Name,.slice a1 n1 c1,.slice a2 n2 c2,.slice a3 n3 c3,.slice a4 n4 c4,.slice a5 n5 c5] 30)::S) w) n1 ⟨0,none,0,0,by omega,⟨rfl,rfl,rfl,rfl,rfl,rfl,rfl,rfl,rfl,rfl,trivial⟩,hw⟩ ?_
 clear hw;rintro μ ρ w ⟨k,q3,m3,d3,hk,hρ,hw⟩
 have hm3:=own_len (i:=0) hw rfl
 simp only[intRows,strRows,pairRows,List.length_map,List.length_take]at hm3
 rw[hρ.eq];refine byG ?_;refine W_cond rfl (fun h=>?_) (fun h=>?_)
 ·have hkn:k<n1:=by simpa using h
  obtain⟨x,hx⟩:=get_lt (l:=H.Cores) (k:=k) (by omega)
  refine byG ?_;refine lAlloc ?_;intro b9 w hw;refine lStore ?_;intro w hw;have hw:Wd Γ (.blk b9 (.cells (enc x).toArray 37)::.own (.slice q3 m3 d3) 3 1 (intRows ((H.Cores.take k).map (fun c=>c.ID)))::.own (.slice none 0 0) 3 1 (intRows [])::.own (.slice none 0 0) 9 1 (strRows [])::.own (.slice none 0 0) 9 1 (strRows [])::.own (.slice none 0 0) 9 1 (strRows [])::.own (.slice none 0 0) 254 2 (pairRows [])::.blk b1 (.cells #[.string H.Name,.slice a1 n1 c1,.slice a2 n2 c2,.slice a3 n3 c3,.slice a4 n4 c4,.slice a5 n5 c5] 30)::S) w:=hw
  refine byG ?_;refine lBuildSlice [[.int .i64 x.ID]] ?_
  intro ab w hw;refine lApp (i:=2) (rows2:=[[.int .i64 x.ID]]) ?_ (Wd.own_rd (i:=0) hw rfl)
  intro v' w hw;obtain⟨q3',m3',d3',rfl,-,-,-⟩:=hw.own_shape (i:=2) rfl
  have hw:=hw.drop
  have hw:Wd Γ (.blk b9 (.cells (enc x).toArray 37)::.own (.slice q3' m3' d3') 3 1 (intRows ((H.Cores.take (k+1)).map (fun c=>c.ID)))::.own (.slice none 0 0) 3 1 (intRows [])::.own (.slice none 0 0) 9 1 (strRows [])::.own (.slice none 0 0) 9 1 (strRows [])::.own (.slice none 0 0) 9 1 (strRows [])::.own (.slice none 0 0) 254 2 (pairRows [])::.blk b1 (.cells #[.string H.Name,.slice a1 n1 c1,.slice a2 n2 c2,.slice a3 n3 c3,.slice a4 n4 c4,.slice a5 n5 c5] 30)::S) w:=by
   rw[←rows_snocI hx];exact hw
  refine byG ?_;exact⟨μ-1,by omega,k+1,_,_,_,by omega,⟨rfl,rfl,rfl,rfl,rfl,rfl,rfl,rfl,rfl,rfl,trivial⟩,hw.drop⟩
 have hkn:¬k<n1:=by simpa using h
 rw[List.take_of_length_le (l:=H.Cores) (by omega)]at hw
 clear h hkn hρ hk hm3;refine byG ?_;refine W_loop (fun μ ρ w=>∃(k:Nat) (q5:Option Addr) (m5 d5:Nat),μ+k=n2∧Has ρ [(1,.pointer (some ⟨b1,0,none⟩)),(3,.slice q3 m3 d3),(4,.slice none 0 0),(5,.slice q5 m5 d5),(6,.slice none 0 0),(7,.slice none 0 0),(8,.slice none 0 0),(33,.slice a2 n2 c2),(34,.int .i64 n2),(35,.int .i64 k)]∧(∀i x,i<k→cs[i]? = some x→(fun c:CacheH=>decide c.Cores.Nodup) x=true)∧Wd Γ (.own (.slice q3 m3 d3) 3 1 (intRows (H.Cores.map (fun c=>c.ID)))::.own (.slice none 0 0) 3 1 (intRows [])::.own (.slice q5 m5 d5) 9 1 (strRows ((cs.take k).map (fun c=>c.Name)))::.own (.slice none 0 0) 9 1 (strRows [])::.own (.slice none 0 0) 9 1 (strRows [])::.own (.slice none 0 0) 254 2 (pairRows [])::.blk b1 (.cells #[.string H.Name,.slice a1 n1 c1,.slice a2 n2 c2,.slice a3 n3 c3,.slice a4 n4 c4,.slice a5 n5 c5] 30)::S) w) n2 ⟨0,none,0,0,by omega,⟨rfl,rfl,rfl,rfl,rfl,rfl,rfl,rfl,rfl,rfl,trivial⟩,fun i x h=>by omega,hw⟩ ?_
 clear hw;rintro μ ρ w ⟨k,q5,m5,d5,hk,hρ,hall,hw⟩
 have hm5:=own_len (i:=2) hw rfl
 simp only[intRows,strRows,pairRows,List.length_map,List.length_take]at hm5
 rw[hρ.eq];refine byG ?_;refine W_cond rfl (fun h=>?_) (fun h=>?_)
 ·have hkn:k<n2:=by simpa using h
  obtain⟨x,hx⟩:=get_lt (l:=cs) (k:=k) (by omega)
  refine byG ?_;refine lAlloc ?_;intro b9 w hw;refine lStore ?_;intro w hw;have hw:Wd Γ (.blk b9 (.cells (cC x).toArray 89)::.own (.slice q3 m3 d3) 3 1 (intRows (H.Cores.map (fun c=>c.ID)))::.own (.slice none 0 0) 3 1 (intRows [])::.own (.slice q5 m5 d5) 9 1 (strRows ((cs.take k).map (fun c=>c.Name)))::.own (.slice none 0 0) 9 1 (strRows [])::.own (.slice none 0 0) 9 1 (strRows [])::.own (.slice none 0 0) 254 2 (pairRows [])::.blk b1 (.cells #[.string H.Name,.slice a1 n1 c1,.slice a2 n2 c2,.slice a3 n3 c3,.slice a4 n4 c4,.slice a5 n5 c5] 30)::S) w:=hw
  refine byG ?_;refine lBuildSlice [[.string x.Name]] ?_
  intro ab w hw;refine lApp (i:=4) (rows2:=[[.string x.Name]]) ?_ (Wd.own_rd (i:=0) hw rfl)
  intro v' w hw;obtain⟨q5',m5',d5',rfl,-,-,-⟩:=hw.own_shape (i:=4) rfl
  have hw:=hw.drop
  have hw:Wd Γ (.blk b9 (.cells (cC x).toArray 89)::.own (.slice q3 m3 d3) 3 1 (intRows (H.Cores.map (fun c=>c.ID)))::.own (.slice none 0 0) 3 1 (intRows [])::.own (.slice q5' m5' d5') 9 1 (strRows ((cs.take (k+1)).map (fun c=>c.Name)))::.own (.slice none 0 0) 9 1 (strRows [])::.own (.slice none 0 0) 9 1 (strRows [])::.own (.slice none 0 0) 254 2 (pairRows [])::.blk b1 (.cells #[.string H.Name,.slice a1 n1 c1,.slice a2 n2 c2,.slice a3 n3 c3,.slice a4 n4 c4,.slice a5 n5 c5] 30)::S) w:=by
   rw[←rows_snocS hx];exact hw
  refine byG ?_;refine lCall ?_;refine(distinct_int_any (RepS.rdS (hok x (List.mem_of_getElem? hx))) hw).mono ?_
  rintro r w ⟨rfl,hw⟩
  refine⟨_,rfl,?_⟩;refine byG ?_;refine W_cond rfl (fun h2=>?_) (fun h2=>?_)
  ·have hf:(fun c:CacheH=>decide c.Cores.Nodup) x=false:=by simpa using h2
   refine byG ?_;exact⟨_,rfl,ret_b rfl (by rw[uniqueB,←hcs,all_cuniq];exact(and_no1 (all_no hx hf)).symm),hw.ds [0,0,0,0,0,0,0,0]⟩
  ·have ht:(fun c:CacheH=>decide c.Cores.Nodup) x=true:=by simpa using h2
   refine byG ?_;exact⟨μ-1,by omega,k+1,_,_,_,by omega,⟨rfl,rfl,rfl,rfl,rfl,rfl,rfl,rfl,rfl,rfl,trivial⟩,all_step hall hx ht,hw.drop⟩
 have hkn:¬k<n2:=by simpa using h
 rw[List.take_of_length_le (l:=cs) (by omega)]at hw
 have hA:=all_end hall (by omega)
 clear h hkn hρ hk hall hm5;refine byG ?_;refine W_loop (fun μ ρ w=>∃(k:Nat) (q6:Option Addr) (m6 d6:Nat),μ+k=n4∧Has ρ [(1,.pointer (some ⟨b1,0,none⟩)),(3,.slice q3 m3 d3),(4,.slice none 0 0),(5,.slice q5 m5 d5),(6,.slice q6 m6 d6),(7,.slice none 0 0),(8,.slice none 0 0),(50,.slice a4 n4 c4),(51,.int .i64 n4),(52,.int .i64 k)]∧Wd Γ (.own (.slice q3 m3 d3) 3 1 (intRows (H.Cores.map (fun c=>c.ID)))::.own (.slice none 0 0) 3 1 (intRows [])::.own (.slice q5 m5 d5) 9 1 (strRows (cs.map (fun c=>c.Name)))::.own (.slice q6 m6 d6) 9 1 (strRows ((H.Mems.take k).map (fun c=>c.Name)))::.own (.slice none 0 0) 9 1 (strRows [])::.own (.slice none 0 0) 254 2 (pairRows [])::.blk b1 (.cells #[.string H.Name,.slice a1 n1 c1,.slice a2 n2 c2,.slice a3 n3 c3,.slice a4 n4 c4,.slice a5 n5 c5] 30)::S) w) n4 ⟨0,none,0,0,by omega,⟨rfl,rfl,rfl,rfl,rfl,rfl,rfl,rfl,rfl,rfl,trivial⟩,hw⟩ ?_
 clear hw;rintro μ ρ w ⟨k,q6,m6,d6,hk,hρ,hw⟩
 have hm6:=own_len (i:=3) hw rfl
 simp only[intRows,strRows,pairRows,List.length_map,List.length_take]at hm6
 rw[hρ.eq];refine byG ?_;refine W_cond rfl (fun h=>?_) (fun h=>?_)
 ·have hkn:k<n4:=by simpa using h
  obtain⟨x,hx⟩:=get_lt (l:=H.Mems) (k:=k) (by omega)
  refine byG ?_;refine lAlloc ?_;intro b9 w hw;refine lStore ?_;intro w hw;have hw:Wd Γ (.blk b9 (.cells (enc x).toArray 83)::.own (.slice q3 m3 d3) 3 1 (intRows (H.Cores.map (fun c=>c.ID)))::.own (.slice none 0 0) 3 1 (intRows [])::.own (.slice q5 m5 d5) 9 1 (strRows (cs.map (fun c=>c.Name)))::.own (.slice q6 m6 d6) 9 1 (strRows ((H.Mems.take k).map (fun c=>c.Name)))::.own (.slice none 0 0) 9 1 (strRows [])::.own (.slice none 0 0) 254 2 (pairRows [])::.blk b1 (.cells #[.string H.Name,.slice a1 n1 c1,.slice a2 n2 c2,.slice a3 n3 c3,.slice a4 n4 c4,.slice a5 n5 c5] 30)::S) w:=hw
  refine byG ?_;refine lBuildSlice [[.string x.Name]] ?_
  intro ab w hw;refine lApp (i:=5) (rows2:=[[.string x.Name]]) ?_ (Wd.own_rd (i:=0) hw rfl)
  intro v' w hw;obtain⟨q6',m6',d6',rfl,-,-,-⟩:=hw.own_shape (i:=5) rfl
  have hw:=hw.drop
  have hw:Wd Γ (.blk b9 (.cells (enc x).toArray 83)::.own (.slice q3 m3 d3) 3 1 (intRows (H.Cores.map (fun c=>c.ID)))::.own (.slice none 0 0) 3 1 (intRows [])::.own (.slice q5 m5 d5) 9 1 (strRows (cs.map (fun c=>c.Name)))::.own (.slice q6' m6' d6') 9 1 (strRows ((H.Mems.take (k+1)).map (fun c=>c.Name)))::.own (.slice none 0 0) 9 1 (strRows [])::.own (.slice none 0 0) 254 2 (pairRows [])::.blk b1 (.cells #[.string H.Name,.slice a1 n1 c1,.slice a2 n2 c2,.slice a3 n3 c3,.slice a4 n4 c4,.slice a5 n5 c5] 30)::S) w:=by
   rw[←rows_snocS hx];exact hw
  refine byG ?_;exact⟨μ-1,by omega,k+1,_,_,_,by omega,⟨rfl,rfl,rfl,rfl,rfl,rfl,rfl,rfl,rfl,rfl,trivial⟩,hw.drop⟩
 have hkn:¬k<n4:=by simpa using h
 rw[List.take_of_length_le (l:=H.Mems) (by omega)]at hw
 clear h hkn hρ hk hm6;refine byG ?_;refine W_loop (fun μ ρ w=>∃(k:Nat) (q7:Option Addr) (m7 d7:Nat) (q4:Option Addr) (m4 d4:Nat),μ+k=n5∧Has ρ [(1,.pointer (some ⟨b1,0,none⟩)),(3,.slice q3 m3 d3),(4,.slice q4 m4 d4),(5,.slice q5 m5 d5),(6,.slice q6 m6 d6),(7,.slice q7 m7 d7),(8,.slice none 0 0),(63,.slice a5 n5 c5),(64,.int .i64 n5),(65,.int .i64 k)]∧Wd Γ (.own (.slice q3 m3 d3) 3 1 (intRows (H.Cores.map (fun c=>c.ID)))::.own (.slice q4 m4 d4) 3 1 (intRows ((H.Devs.take k).map (fun c=>c.IRQ)))::.own (.slice q5 m5 d5) 9 1 (strRows (cs.map (fun c=>c.Name)))::.own (.slice q6 m6 d6) 9 1 (strRows (H.Mems.map (fun c=>c.Name)))::.own (.slice q7 m7 d7) 9 1 (strRows ((H.Devs.take k).map (fun c=>c.Name)))::.own (.slice none 0 0) 254 2 (pairRows [])::.blk b1 (.cells #[.string H.Name,.slice a1 n1 c1,.slice a2 n2 c2,.slice a3 n3 c3,.slice a4 n4 c4,.slice a5 n5 c5] 30)::S) w) n5 ⟨0,none,0,0,none,0,0,by omega,⟨rfl,rfl,rfl,rfl,rfl,rfl,rfl,rfl,rfl,rfl,trivial⟩,hw⟩ ?_
 clear hw;rintro μ ρ w ⟨k,q7,m7,d7,q4,m4,d4,hk,hρ,hw⟩
 have hm7:=own_len (i:=4) hw rfl
 simp only[intRows,strRows,pairRows,List.length_map,List.length_take]at hm7
 have hm4:=own_len (i:=1) hw rfl
 simp only[intRows,strRows,pairRows,List.length_map,List.length_take]at hm4
 rw[hρ.eq];refine byG ?_;refine W_cond rfl (fun h=>?_) (fun h=>?_)
 ·have hkn:k<n5:=by simpa using h
  obtain⟨x,hx⟩:=get_lt (l:=H.Devs) (k:=k) (by omega)
  refine byG ?_;refine lAlloc ?_;intro b9 w hw;refine lStore ?_;intro w hw;have hw:Wd Γ (.blk b9 (.cells (enc x).toArray 85)::.own (.slice q3 m3 d3) 3 1 (intRows (H.Cores.map (fun c=>c.ID)))::.own (.slice q4 m4 d4) 3 1 (intRows ((H.Devs.take k).map (fun c=>c.IRQ)))::.own (.slice q5 m5 d5) 9 1 (strRows (cs.map (fun c=>c.Name)))::.own (.slice q6 m6 d6) 9 1 (strRows (H.Mems.map (fun c=>c.Name)))::.own (.slice q7 m7 d7) 9 1 (strRows ((H.Devs.take k).map (fun c=>c.Name)))::.own (.slice none 0 0) 254 2 (pairRows [])::.blk b1 (.cells #[.string H.Name,.slice a1 n1 c1,.slice a2 n2 c2,.slice a3 n3 c3,.slice a4 n4 c4,.slice a5 n5 c5] 30)::S) w:=hw
  refine byG ?_;refine lBuildSlice [[.string x.Name]] ?_
  intro ab w hw;refine lApp (i:=6) (rows2:=[[.string x.Name]]) ?_ (Wd.own_rd (i:=0) hw rfl)
  intro v' w hw;obtain⟨q7',m7',d7',rfl,-,-,-⟩:=hw.own_shape (i:=6) rfl
  have hw:=hw.drop
  have hw:Wd Γ (.blk b9 (.cells (enc x).toArray 85)::.own (.slice q3 m3 d3) 3 1 (intRows (H.Cores.map (fun c=>c.ID)))::.own (.slice q4 m4 d4) 3 1 (intRows ((H.Devs.take k).map (fun c=>c.IRQ)))::.own (.slice q5 m5 d5) 9 1 (strRows (cs.map (fun c=>c.Name)))::.own (.slice q6 m6 d6) 9 1 (strRows (H.Mems.map (fun c=>c.Name)))::.own (.slice q7' m7' d7') 9 1 (strRows ((H.Devs.take (k+1)).map (fun c=>c.Name)))::.own (.slice none 0 0) 254 2 (pairRows [])::.blk b1 (.cells #[.string H.Name,.slice a1 n1 c1,.slice a2 n2 c2,.slice a3 n3 c3,.slice a4 n4 c4,.slice a5 n5 c5] 30)::S) w:=by
   rw[←rows_snocS hx];exact hw
  refine byG ?_;refine lBuildSlice [[.int .i64 x.IRQ]] ?_
  intro ab w hw;refine lApp (i:=3) (rows2:=[[.int .i64 x.IRQ]]) ?_ (Wd.own_rd (i:=0) hw rfl)
  intro v' w hw;obtain⟨q4',m4',d4',rfl,-,-,-⟩:=hw.own_shape (i:=3) rfl
  have hw:=hw.drop
  have hw:Wd Γ (.blk b9 (.cells (enc x).toArray 85)::.own (.slice q3 m3 d3) 3 1 (intRows (H.Cores.map (fun c=>c.ID)))::.own (.slice q4' m4' d4') 3 1 (intRows ((H.Devs.take (k+1)).map (fun c=>c.IRQ)))::.own (.slice q5 m5 d5) 9 1 (strRows (cs.map (fun c=>c.Name)))::.own (.slice q6 m6 d6) 9 1 (strRows (H.Mems.map (fun c=>c.Name)))::.own (.slice q7' m7' d7') 9 1 (strRows ((H.Devs.take (k+1)).map (fun c=>c.Name)))::.own (.slice none 0 0) 254 2 (pairRows [])::.blk b1 (.cells #[.string H.Name,.slice a1 n1 c1,.slice a2 n2 c2,.slice a3 n3 c3,.slice a4 n4 c4,.slice a5 n5 c5] 30)::S) w:=by
   rw[←rows_snocI hx];exact hw
  refine byG ?_;exact⟨μ-1,by omega,k+1,_,_,_,_,_,_,by omega,⟨rfl,rfl,rfl,rfl,rfl,rfl,rfl,rfl,rfl,rfl,trivial⟩,hw.drop⟩
 have hkn:¬k<n5:=by simpa using h
 rw[List.take_of_length_le (l:=H.Devs) (by omega)]at hw
 clear h hkn hρ hk hm7 hm4;refine byG ?_;refine W_loop (fun μ ρ w=>∃(k:Nat) (q8:Option Addr) (m8 d8:Nat),μ+k=n3∧Has ρ [(1,.pointer (some ⟨b1,0,none⟩)),(3,.slice q3 m3 d3),(4,.slice q4 m4 d4),(5,.slice q5 m5 d5),(6,.slice q6 m6 d6),(7,.slice q7 m7 d7),(8,.slice q8 m8 d8),(81,.slice a3 n3 c3),(82,.int .i64 n3),(83,.int .i64 k)]∧Wd Γ (.own (.slice q3 m3 d3) 3 1 (intRows (H.Cores.map (fun c=>c.ID)))::.own (.slice q4 m4 d4) 3 1 (intRows (H.Devs.map (fun c=>c.IRQ)))::.own (.slice q5 m5 d5) 9 1 (strRows (cs.map (fun c=>c.Name)))::.own (.slice q6 m6 d6) 9 1 (strRows (H.Mems.map (fun c=>c.Name)))::.own (.slice q7 m7 d7) 9 1 (strRows (H.Devs.map (fun c=>c.Name)))::.own (.slice q8 m8 d8) 254 2 (pairRows ((H.Links.take k).map linkKey))::.blk b1 (.cells #[.string H.Name,.slice a1 n1 c1,.slice a2 n2 c2,.slice a3 n3 c3,.slice a4 n4 c4,.slice a5 n5 c5] 30)::S) w) n3 ⟨0,none,0,0,by omega,⟨rfl,rfl,rfl,rfl,rfl,rfl,rfl,rfl,rfl,rfl,trivial⟩,hw⟩ ?_
 clear hw;rintro μ ρ w ⟨k,q8,m8,d8,hk,hρ,hw⟩
 have hm8:=own_len (i:=5) hw rfl
 simp only[intRows,strRows,pairRows,List.length_map,List.length_take]at hm8
 rw[hρ.eq];refine byG ?_;refine W_cond rfl (fun h=>?_) (fun h=>?_)
 ·have hkn:k<n3:=by simpa using h
  obtain⟨x,hx⟩:=get_lt (l:=H.Links) (k:=k) (by omega)
  refine byG ?_;refine lAlloc ?_;intro b9 w hw;refine lStore ?_;intro w hw;have hw:Wd Γ (.blk b9 (.cells (enc x).toArray 79)::.own (.slice q3 m3 d3) 3 1 (intRows (H.Cores.map (fun c=>c.ID)))::.own (.slice q4 m4 d4) 3 1 (intRows (H.Devs.map (fun c=>c.IRQ)))::.own (.slice q5 m5 d5) 9 1 (strRows (cs.map (fun c=>c.Name)))::.own (.slice q6 m6 d6) 9 1 (strRows (H.Mems.map (fun c=>c.Name)))::.own (.slice q7 m7 d7) 9 1 (strRows (H.Devs.map (fun c=>c.Name)))::.own (.slice q8 m8 d8) 254 2 (pairRows ((H.Links.take k).map linkKey))::.blk b1 (.cells #[.string H.Name,.slice a1 n1 c1,.slice a2 n2 c2,.slice a3 n3 c3,.slice a4 n4 c4,.slice a5 n5 c5] 30)::S) w:=hw
  refine byG ?_;refine lBuildSlice [[.int .i64 (linkKey x).1,.int .i64 (linkKey x).2]] ?_
  intro ab w hw;refine lApp (i:=7) (rows2:=[[.int .i64 (linkKey x).1,.int .i64 (linkKey x).2]]) ?_ (Wd.own_rd (i:=0) hw rfl)
  intro v' w hw;obtain⟨q8',m8',d8',rfl,-,-,-⟩:=hw.own_shape (i:=7) rfl
  have hw:=hw.drop
  have hw:Wd Γ (.blk b9 (.cells (enc x).toArray 79)::.own (.slice q3 m3 d3) 3 1 (intRows (H.Cores.map (fun c=>c.ID)))::.own (.slice q4 m4 d4) 3 1 (intRows (H.Devs.map (fun c=>c.IRQ)))::.own (.slice q5 m5 d5) 9 1 (strRows (cs.map (fun c=>c.Name)))::.own (.slice q6 m6 d6) 9 1 (strRows (H.Mems.map (fun c=>c.Name)))::.own (.slice q7 m7 d7) 9 1 (strRows (H.Devs.map (fun c=>c.Name)))::.own (.slice q8' m8' d8') 254 2 (pairRows ((H.Links.take (k+1)).map linkKey))::.blk b1 (.cells #[.string H.Name,.slice a1 n1 c1,.slice a2 n2 c2,.slice a3 n3 c3,.slice a4 n4 c4,.slice a5 n5 c5] 30)::S) w:=by
   rw[←rows_snocP hx];exact hw
  refine byG ?_;exact⟨μ-1,by omega,k+1,_,_,_,by omega,⟨rfl,rfl,rfl,rfl,rfl,rfl,rfl,rfl,rfl,rfl,trivial⟩,hw.drop⟩
 have hkn:¬k<n3:=by simpa using h
 rw[List.take_of_length_le (l:=H.Links) (by omega)]at hw
 clear h hkn hρ hk hm8;refine byG ?_;refine lCall ?_;refine(distinct_int_any (RdS.own (i:=0) hw rfl) hw).mono ?_
 rintro r w ⟨rfl,hw⟩
 refine⟨_,rfl,?_⟩;refine byG ?_;refine lCallGd (fun _=>distinct_string_any (RdS.own (i:=2) hw rfl) hw) ?_
 clear hw;intro w hw;refine byG ?_;refine lCallGd (fun _=>distinct_string_any (RdS.own (i:=3) hw rfl) hw) ?_
 clear hw;intro w hw;refine byG ?_;refine lCallGd (fun _=>distinct_string_any (RdS.own (i:=4) hw rfl) hw) ?_
 clear hw;intro w hw;refine byG ?_;refine lCallGd (fun _=>distinct_int_any (RdS.own (i:=1) hw rfl) hw) ?_
 clear hw;intro w hw;refine byG ?_;refine lCallGd (fun _=>distinct_pairint_any (RdS.own (i:=5) hw rfl) hw) ?_
 clear hw;intro w hw;refine byG ?_;refine⟨_,rfl,ret_b rfl ?_,hw.ds [0,0,0,0,0,0,0]⟩
 have e1:(cs.map fun c=>c.Name)=H.Caches.map fun c=>c.Name:=by rw[←hcs,List.map_map];rfl
 unfold uniqueB;rw[show (H.Caches.all fun c=>decide c.Cores.Nodup)=true from by rw[←hcs,all_cuniq];exact hA,←e1]
 rfl
section
variable {Γ:Gho}{S:List Res}{w:World}{a:Option Addr}{n c:Nat}{xs:List CoreT}
theorem IndexFunc_any(p:CoreT→Bool)(f:Nat)(fst cap:List Value)[FnOk Tryz.prog f](hr:RdS Γ S (.slice a n c) 4 (xs.map enc))
  (hf:∀x w,Wd Γ S w→Calls Tryz.prog f (fst++[Value.agg (enc x).toArray]++cap).toArray w fun e w'=>e=.returned (.bool (p x))∧Wd Γ S w') (hw:Wd Γ S w) :
  Calls Tryz.prog 153 #[.slice a n c,.func (.func f) fst.toArray cap.toArray] w fun e w'=>∃i:Int,e=.returned (.int .i64 i)∧decide (0≤i)=xs.any p∧Wd Γ S w':=by
 obtain⟨_,_,_,he,hn,hnc,hc⟩:=hr.shape;cases he
 have hnr:=hn
 simp only[List.length_map]at hn
 refine calls_of_W Tryz.func153 rfl rfl ?_
 refine byG ?_;refine W_loop (fun μ ρ w=>∃(k:Nat),μ+k=n∧Has ρ [(0,.slice a n c),(1,.func (.func f) fst.toArray cap.toArray),(7,.int .i64 n),(8,.int .i64 k)]∧(∀i x,i<k→xs[i]? = some x→(!p x)=true)∧Wd Γ S w) n ⟨0,by omega,⟨rfl,rfl,rfl,rfl,trivial⟩,fun i x h=>by omega,hw⟩ ?_
 clear hw;rintro μ ρ w ⟨k,hk,hρ,hall,hw⟩
 rw[hρ.eq];refine byG ?_;refine W_cond rfl (fun h=>?_) (fun h=>?_)
 ·have hkn:k<n:=by simpa using h
  obtain⟨x,hx⟩:=get_lt (l:=xs) (k:=k) (by omega)
  refine byG ?_;refine lCallv (fst:=fst) (cap:=cap) (vs:=[.agg (enc x).toArray]) ?_
  refine(hf x w hw).mono ?_
  rintro r w ⟨rfl,hw⟩
  refine⟨_,rfl,?_⟩;refine byG ?_;refine W_cond rfl (fun h2=>?_) (fun h2=>?_)
  ·refine byG ?_;exact⟨_,rfl,k,rfl,by rw[decide_eq_true (show (0:Int)≤k by omega)];exact(List.any_eq_true.2 ⟨x,List.mem_of_getElem? hx,h2⟩).symm,hw⟩
  ·refine byG ?_;exact⟨μ-1,by omega,k+1,by omega,⟨rfl,rfl,rfl,rfl,trivial⟩,all_step hall hx (by rw[h2];rfl),hw⟩
 ·have hkn:¬k<n:=by simpa using h
  refine byG ?_;refine⟨_,rfl,-1,rfl,?_,hw⟩
  have:=all_end hall (by omega)
  rw[decide_eq_false (show ¬(0:Int)≤-1 by decide)]
  rw[List.all_eq_true]at this;exact(List.any_eq_false.2 fun x hx=>by simpa using this x hx).symm
theorem ContainsFunc_any(p:CoreT→Bool)(f:Nat)(fst cap:List Value)[FnOk Tryz.prog f](hr:RdS Γ S (.slice a n c) 4 (xs.map enc))
  (hf:∀x w,Wd Γ S w→Calls Tryz.prog f (fst++[Value.agg (enc x).toArray]++cap).toArray w fun e w'=>e=.returned (.bool (p x))∧Wd Γ S w') (hw:Wd Γ S w) :
  Calls Tryz.prog 213 #[.slice a n c,.func (.func f) fst.toArray cap.toArray] w fun e w'=>e=.returned (.bool (xs.any p))∧Wd Γ S w':=by
 refine calls_of_W Tryz.func213 rfl rfl ?_
 refine byG ?_;refine lCall ?_;refine(IndexFunc_any p f fst cap hr hf hw).mono ?_
 rintro r w ⟨i,rfl,hi,hw⟩
 refine⟨_,rfl,?_⟩;refine byG ?_;exact⟨_,rfl,ret_b rfl hi,hw⟩
theorem known1_any{b6 i:Nat}{id:Int}(x:CoreT)(hi:S[i]? = some (.blk b6 (.cells #[.int .i64 id] 3)))(hw:Wd Γ S w) :
  Calls Tryz.prog 214 #[.agg (enc x).toArray,.pointer (some ⟨b6,0,none⟩)] w fun e w'=>e=.returned (.bool (decide (x.ID=id)))∧Wd Γ S w':=by
 refine calls_of_W Tryz.func214 rfl rfl ?_
 refine byG ?_;refine lBox ?_;intro b2 w hw;have hw:Wd Γ (.blk b2 (.cells (enc x).toArray 37)::S) w:=hw
 refine byG ?_;have hi2:(Res.blk b2 (.cells (enc x).toArray 37)::S)[i+1]? = some (.blk b6 (.cells #[.int .i64 id] 3)):=by simpa using hi
 refine lY (v:=.int .i64 id) ?_ (hy:=y_l1b (i:=i+1) hw rfl hi2 rfl)
 refine byG ?_;exact⟨_,rfl,rfl,hw.drop⟩
end
def knownB(H:HwT):Bool:=H.Caches.all fun c=>c.Cores.all fun id=>H.Cores.any fun x=>decide (x.ID=id)
def knownH(H:HwT)(c:CacheH):Bool:=c.Cores.all fun id=>H.Cores.any fun x=>decide (x.ID=id)
theorem all_known(H:HwT)(cs:List CacheH):((cs.map CacheH.T).all fun c=>c.Cores.all fun id=>H.Cores.any fun x=>decide (x.ID=id))=cs.all (knownH H):=by rw[List.all_map];rfl
abbrev hwC(H:HwT)(a1:Option Addr)(n1 c1:Nat)(a2:Option Addr)(n2 c2:Nat)(a3:Option Addr)(n3 c3:Nat)(a4:Option Addr)(n4 c4:Nat)(a5:Option Addr)(n5 c5:Nat):Obj:=.cells #[.string H.Name,.slice a1 n1 c1,.slice a2 n2 c2,.slice a3 n3 c3,.slice a4 n4 c4,.slice a5 n5 c5] 30
instance pg_knownOK{Γ:Gho}{u:Value}{H:HwT}[hh:HwR Γ u H]:PG Tryz.prog Γ 149 [u] (.bool (knownB H)):=⟨fun S w hw=>by
 obtain⟨a1,n1,c1,a2,n2,c2,a3,n3,c3,a4,n4,c4,a5,n5,c5,cs,rfl,hcs,hok,hsz,r1,r2,r3,r4,r5⟩:=hh.h;obtain⟨hn1,hm1,hx1⟩:=rep_facts r1
 obtain⟨hn2,hm2,hx2⟩:=rep_facts r2
 simp only[List.length_map]at hn1 hn2
 refine calls_of_W Tryz.func149 rfl rfl ?_
 refine byG ?_;refine lBox ?_;intro b1 w hw;have hw:Wd Γ (.blk b1 (hwC H a1 n1 c1 a2 n2 c2 a3 n3 c3 a4 n4 c4 a5 n5 c5)::S) w:=hw
 refine byG ?_;refine W_loop (fun μ ρ w=>∃(k:Nat),μ+k=n2∧Has ρ [(1,.pointer (some ⟨b1,0,none⟩)),(8,.slice a2 n2 c2),(9,.int .i64 n2),(10,.int .i64 k)]∧(∀i x,i<k→cs[i]? = some x→knownH H x=true)∧Wd Γ (.blk b1 (hwC H a1 n1 c1 a2 n2 c2 a3 n3 c3 a4 n4 c4 a5 n5 c5)::S) w) n2 ⟨0,by omega,⟨rfl,rfl,rfl,rfl,trivial⟩,fun i x h=>by omega,hw⟩ ?_
 clear hw;rintro μ ρ w ⟨k,hk,hρ,hall,hw⟩
 rw[hρ.eq];refine byG ?_;refine W_cond rfl (fun h=>?_) (fun h=>?_)
 ·have hkn:k<n2:=by simpa using h
  obtain⟨x,hx⟩:=get_lt (l:=cs) (k:=k) (by omega)
  have hcok:=hok x (List.mem_of_getElem? hx)
  obtain⟨hxn,hxm,hxc⟩:=hcok.facts;unfold COk at hcok;refine byG ?_;refine lAlloc ?_;intro b9 w hw;refine lStore ?_;intro w hw;have hw:Wd Γ (.blk b9 (.cells (cC x).toArray 89)::.blk b1 (hwC H a1 n1 c1 a2 n2 c2 a3 n3 c3 a4 n4 c4 a5 n5 c5)::S) w:=hw
  refine byG ?_;refine W_loop (fun μ2 ρ w=>∃(j:Nat),μ2+j=x.N∧Has ρ [(1,.pointer (some ⟨b1,0,none⟩)),(8,.slice a2 n2 c2),(9,.int .i64 n2),(10,.int .i64 k),(15,.slice x.A x.N x.C),(16,.int .i64 x.N),(17,.int .i64 j)]∧(∀i id,i<j→x.Cores[i]? = some id→(H.Cores.any fun y=>decide (y.ID=id))=true)∧Wd Γ (.blk b9 (.cells (cC x).toArray 89)::.blk b1 (hwC H a1 n1 c1 a2 n2 c2 a3 n3 c3 a4 n4 c4 a5 n5 c5)::S) w) x.N ⟨0,by omega,⟨rfl,rfl,rfl,rfl,rfl,rfl,rfl,trivial⟩,fun i x h=>by omega,hw⟩ ?_
  clear hw;rintro μ2 ρ w ⟨j,hj,hρ,hall2,hw⟩
  rw[hρ.eq];refine byG ?_;refine W_cond rfl (fun h2=>?_) (fun h2=>?_)
  ·have hjn:j<x.N:=by simpa using h2
   obtain⟨id,hid⟩:=get_lt (l:=x.Cores) (k:=j) (by omega)
   refine byG ?_;refine lAlloc ?_;intro b6 w hw;refine lStore ?_;intro w hw;have hw:Wd Γ (.blk b6 (.cells #[.int .i64 id] 3)::.blk b9 (.cells (cC x).toArray 89)::.blk b1 (hwC H a1 n1 c1 a2 n2 c2 a3 n3 c3 a4 n4 c4 a5 n5 c5)::S) w:=hw
   refine byG ?_;refine lCall ?_;refine(ContainsFunc_any (fun y=>decide (y.ID=id)) 214 [] [.pointer (some ⟨b6,0,none⟩)] r1.rdS (fun y w hw=>known1_any y (i:=0) rfl hw) hw).mono ?_
   rintro r w ⟨rfl,hw⟩
   refine⟨_,rfl,?_⟩;refine byG ?_;refine W_cond rfl (fun h3=>?_) (fun h3=>?_)
   ·have hf:(H.Cores.any fun y=>decide (y.ID=id))=false:=by simpa using h3
    refine byG ?_;refine⟨_,rfl,ret_b rfl ?_,hw.drop.drop.drop⟩
    have hf2:knownH H x=false:=all_no hid hf
    unfold knownB;rw[←hcs,all_known];exact(all_no hx hf2).symm
   ·have ht:(H.Cores.any fun y=>decide (y.ID=id))=true:=by simpa using h3
    refine byG ?_;exact⟨μ2-1,by omega,j+1,by omega,⟨rfl,rfl,rfl,rfl,rfl,rfl,rfl,trivial⟩,all_step hall2 hid ht,hw.drop⟩
  ·have hjn:¬j<x.N:=by simpa using h2
   have ht:knownH H x=true:=all_end hall2 (by omega)
   refine byG ?_;exact⟨μ-1,by omega,k+1,by omega,⟨rfl,rfl,rfl,rfl,trivial⟩,all_step hall hx ht,hw.drop⟩
 ·have hkn:¬k<n2:=by simpa using h
  refine byG ?_;refine⟨_,rfl,ret_b rfl ?_,hw.drop⟩
  unfold knownB;rw[←hcs,all_known];exact(all_end hall (by omega)).symm⟩
def sortedP(l:List Int):Prop:=∀i a b,l[i]? = some a→l[i+1]? = some b→a≤b
noncomputable def decP(p:Prop):Bool:=@decide p (Classical.propDecidable p)
theorem decP_t{p:Prop}(h:p):decP p=true:=@decide_eq_true p (Classical.propDecidable p) h
theorem decP_f{p:Prop}(h:¬p):decP p=false:=@decide_eq_false p (Classical.propDecidable p) h
theorem decP_iff{p:Prop}:decP p=true↔p:=@decide_eq_true_iff p (Classical.propDecidable p)
noncomputable def sortedB(l:List Int):Bool:=decP (sortedP l)
instance pc_isNaN(x:Int):PC Tryz.prog 155 [.int .i64 x] (.bool false):=⟨fun w=>by
 refine calls_of_W Tryz.func155 rfl rfl ?_
 refine byG ?_;exact⟨_,rfl,ret_b rfl (by simp),rfl⟩⟩
instance pc_Less(x y:Int):PC Tryz.prog 166 [.int .i64 x,.int .i64 y] (.bool (decide (x<y))):=⟨fun w=>by
 refine calls_of_W Tryz.func166 rfl rfl ?_
 repeat(first|(first|refine W_seq ?_|refine W_block ?_|refine W_region ?_|refine W_skip ?_|refine W_ret ?_|refine W_exit ?_)|((first|apply L_bin|apply L_notop);first|(refine lT ?_ ?_;(first|exact rfl|exact decide_eq_true rfl|(simp;done)))|(refine lF ?_ ?_;(first|exact rfl|exact decide_eq_true rfl|(simp;done))))|(first|refine L_nil ?_|(apply L_plain;first|(apply L_go;first|refine lP ?_|(refine lPg ?_;intro w hw))|(apply L_mf;refine lMakeFunc ?_)|refine lY ?_)|(apply L_guarded;first|refine lGT ?_ (hct:=rfl)|refine lGF ?_ (hct:=rfl)|(apply L_go;first|refine lPG ?_|(refine lPgG ?_;intro w hw))|refine lG ?_))|(refine lAlloc ?_;intro _ w hw)|(refine lBox ?_;intro _ w hw)|(refine lStore ?_;intro w hw))
 exact⟨_,rfl,ret_b rfl (by simp),rfl⟩⟩
section
variable {Γ:Gho}{S:List Res}{w:World}{xs:List Int}{v:Value}
theorem IsSorted_any(hr:RdS Γ S v 1 (intRows xs))(hw:Wd Γ S w):Calls Tryz.prog 215 #[v] w fun e w'=>e=.returned (.bool (sortedB xs))∧Wd Γ S w':=by
 obtain⟨a,n,c,rfl,hn,hnc,hc⟩:=hr.shape;have hnr:=hn
 simp only[intRows,List.length_map]at hn
 refine calls_of_W Tryz.func215 rfl rfl ?_
 refine byG ?_;refine W_loop (fun μ ρ w=>∃(m:Nat),μ=m∧m≤n∧Has ρ [(0,.slice a n c),(3,.int .i64 ((m:Int)-1))]∧(∀i a b,m≤i+1→xs[i]? = some a→xs[i+1]? = some b→a≤b)∧Wd Γ S w) n ⟨n,rfl,Nat.le_refl _,⟨rfl,rfl,trivial⟩,fun i a b h1 h2 h3=>by have:=(List.getElem?_eq_some_iff.1 h3).1;omega,hw⟩ ?_
 clear hw;rintro μ ρ w ⟨m,rfl,hm,hρ,hall,hw⟩
 rw[hρ.eq];refine byG ?_;refine W_cond rfl (fun h=>?_) (fun h=>?_)
 ·have hm2:2≤μ:=by have:=of_decide_eq_true h;omega
  obtain⟨x,hx⟩:=get_lt (l:=xs) (k:=μ-1) (by omega)
  obtain⟨y,hy⟩:=get_lt (l:=xs) (k:=μ-2) (by omega)
  have e1:((μ:Int)-1).toNat=μ-1:=by omega
  have e2:((μ:Int)-1-1).toNat=μ-2:=by omega
  have hx':xs[((μ:Int)-1).toNat]? = some x:=by rw[e1];exact hx
  have hy':xs[((μ:Int)-1-1).toNat]? = some y:=by rw[e2];exact hy
  refine byG ?_;refine W_quiet (by kernel_rfl) (by kernel_rfl) hw ?_
  refine byQ ?_;intro w hw;refine W_cond rfl (fun h2=>?_) (fun h2=>?_)
  ·have h2:x<y:=of_decide_eq_true h2
   refine byG ?_;refine⟨_,rfl,ret_b rfl ?_,hw⟩
   exact(decP_f fun hs=>by have:=hs (μ-2) y x hy (by rw[show μ-2+1=μ-1 by omega];exact hx);omega).symm
  ·have h2:¬x<y:=of_decide_eq_false h2
   refine byG ?_;refine⟨μ-1,by omega,μ-1,rfl,by omega,⟨rfl,?_,trivial⟩,fun i p q h3 h4 h5=>?_,hw⟩
   ·show Value.int .i64 ((μ:Int)-1-1)=_
    congr 1;omega
   ·by_cases e:μ≤i+1
    ·exact hall i p q e h4 h5
    ·have:i=μ-2:=by omega
     subst this;rw[show μ-2+1=μ-1 by omega,hx]at h5
     rw[hy]at h4;cases h4;cases h5;omega
 ·have hm2:¬2≤μ:=by have:=of_decide_eq_false h;omega
  refine byG ?_;refine⟨_,rfl,ret_b rfl ?_,hw⟩
  exact(decP_t fun i p q h1 h2=>hall i p q (by omega) h1 h2).symm
def memI(x:Int)(xs:List Int):Bool:=xs.any fun y=>decide (x=y)
theorem ContainsI_any(hr:RdS Γ S v 1 (intRows xs))(x:Int)(hw:Wd Γ S w):Calls Tryz.prog 216 #[v,.int .i64 x] w fun e w'=>e=.returned (.bool (memI x xs))∧Wd Γ S w':=by
 have hI:∀w,Wd Γ S w→Calls Tryz.prog 235 #[v,.int .i64 x] w fun e w'=>∃i:Int,e=.returned (.int .i64 i)∧(decide (0≤i)=memI x xs)∧Wd Γ S w':=by
  intro w hw;obtain⟨a,n,c,rfl,hn,hnc,hc⟩:=hr.shape;have hnr:=hn
  simp only[intRows,List.length_map]at hn
  refine calls_of_W Tryz.func235 rfl rfl ?_
  refine byG ?_;refine W_loop (fun μ ρ w=>∃(k:Nat),μ+k=n∧Has ρ [(0,.slice a n c),(1,.int .i64 x),(7,.int .i64 n),(8,.int .i64 k)]∧(∀i y,i<k→xs[i]? = some y→(!decide (x=y))=true)∧Wd Γ S w) n ⟨0,by omega,⟨rfl,rfl,rfl,rfl,trivial⟩,fun i x h=>by omega,hw⟩ ?_
  clear hw;rintro μ ρ w ⟨k,hk,hρ,hno,hw⟩
  rw[hρ.eq];refine byG ?_;refine W_cond rfl (fun h=>?_) (fun h=>?_)
  ·have hkn:k<n:=by simpa using h
   obtain⟨y,hy⟩:=get_lt (l:=xs) (k:=k) (by omega)
   refine byG ?_;refine W_cond rfl (fun h2=>?_) (fun h2=>?_)
   ·refine byG ?_;exact⟨_,rfl,k,rfl,by rw[decide_eq_true (show (0:Int)≤k by omega)];exact(List.any_eq_true.2 ⟨y,List.mem_of_getElem? hy,h2⟩).symm,hw⟩
   ·refine byG ?_;exact⟨μ-1,by omega,k+1,by omega,⟨rfl,rfl,rfl,rfl,trivial⟩,all_step hno hy (by rw[h2];rfl),hw⟩
  ·have hkn:¬k<n:=by simpa using h
   refine byG ?_;refine⟨_,rfl,-1,rfl,?_,hw⟩
   have:=all_end hno (by omega)
   rw[decide_eq_false (show ¬(0:Int)≤-1 by decide)]
   rw[List.all_eq_true]at this;exact(List.any_eq_false.2 fun y hy=>by simpa using this y hy).symm
 refine calls_of_W Tryz.func216 rfl rfl ?_
 refine byG ?_;refine lCall ?_;refine(hI w hw).mono ?_
 rintro e w ⟨i,rfl,hd,hw⟩
 refine⟨_,rfl,?_⟩;refine byG ?_;exact⟨_,rfl,ret_b rfl hd,hw⟩
end
instance pg_ContainsI{Γ:Gho}{v:Value}{xs:List Int}[hr:SlC Γ v 1 (intRows xs)](x:Int):PG Tryz.prog Γ 216 [v,.int .i64 x] (.bool (memI x xs)):=⟨fun S w hw=>ContainsI_any hr.h.rdS x hw⟩
noncomputable instance pg_IsSorted {Γ:Gho} {v:Value} {xs:List Int} [hr:SlC Γ v 1 (intRows xs)]:PG Tryz.prog Γ 215 [v] (.bool (sortedB xs)):=⟨fun S w hw=>IsSorted_any hr.h.rdS hw⟩
def sharedN(a b:List Int):Nat:=(a.filter fun v=>memI v b).length
def pairB(i k:Nat)(a b:CacheT):Bool:=decide (i=k)||decide (b.Level<a.Level) || !(decide (0<sharedN a.Cores b.Cores)&&(decide (a.Level=b.Level)||decide (sharedN a.Cores b.Cores<a.Cores.length)))
def HierP(l:List CacheT):Prop:=(∀c∈l,sortedP c.Cores)∧∀(i k:Nat) (a b:CacheT),l[i]? = some a→l[k]? = some b→pairB i k a b=true
noncomputable def hierB(H:HwT):Bool:=decP (HierP H.Caches)
theorem allI_step{α:Type}{l:List α}{p:Nat→α→Bool}{k:Nat}{x:α}(h:∀i x,i<k→l[i]? = some x→p i x=true)(hx:l[k]? = some x)(ht:p k x=true):∀i x,i<k+1→l[i]? = some x→p i x=true:=fun i y hi hy=>by
 by_cases e:i=k
 ·subst e;rw[hx]at hy;cases hy;exact ht
 ·exact h i y (by omega) hy
instance pg_hierarchyOK{Γ:Gho}{u:Value}{H:HwT}[hh:HwR Γ u H]:PG Tryz.prog Γ 150 [u] (.bool (hierB H)):=⟨fun S w hw=>by
 obtain⟨a1,n1,c1,a2,n2,c2,a3,n3,c3,a4,n4,c4,a5,n5,c5,cs,rfl,hcs,hok,hsz,r1,r2,r3,r4,r5⟩:=hh.h;obtain⟨hn2,hm2,hx2⟩:=rep_facts r2
 simp only[List.length_map]at hn2
 have hget:∀(i:Nat) (x:CacheH),cs[i]? = some x→H.Caches[i]? = some x.T:=fun i x h=>by rw[←hcs];simp[h]
 refine calls_of_W Tryz.func150 rfl rfl ?_
 refine byG ?_;refine lBox ?_;intro b1 w hw;have hw:Wd Γ (.blk b1 (hwC H a1 n1 c1 a2 n2 c2 a3 n3 c3 a4 n4 c4 a5 n5 c5)::S) w:=hw
 refine byG ?_;refine W_loop (fun μ ρ w=>∃(k:Nat),μ+k=n2∧Has ρ [(1,.pointer (some ⟨b1,0,none⟩)),(13,.slice a2 n2 c2),(14,.int .i64 n2),(15,.int .i64 k)]∧(∀(i:Nat) (x:CacheH),i<k→cs[i]? = some x→sortedB x.Cores=true)∧Wd Γ (.blk b1 (hwC H a1 n1 c1 a2 n2 c2 a3 n3 c3 a4 n4 c4 a5 n5 c5)::S) w) n2 ⟨0,by omega,⟨rfl,rfl,rfl,rfl,trivial⟩,fun i x h=>by omega,hw⟩ ?_
 clear hw;rintro μ ρ w ⟨k,hk,hρ,hall,hw⟩
 rw[hρ.eq];refine byG ?_;refine W_cond rfl (fun h=>?_) (fun h=>?_)
 ·have hkn:k<n2:=by simpa using h
  obtain⟨x,hx⟩:=get_lt (l:=cs) (k:=k) (by omega)
  haveI:SlC Γ (.slice x.A x.N x.C) 1 (intRows x.Cores):=⟨hok x (List.mem_of_getElem? hx)⟩
  refine byG ?_;refine lAlloc ?_;intro b9 w hw;refine lStore ?_;intro w hw;have hw:Wd Γ (.blk b9 (.cells (cC x).toArray 89)::.blk b1 (hwC H a1 n1 c1 a2 n2 c2 a3 n3 c3 a4 n4 c4 a5 n5 c5)::S) w:=hw
  repeat first|refine byW ?_|refine byV ?_;intro w hw
  refine W_cond rfl (fun h2=>?_) (fun h2=>?_)
  ·have hf:sortedB x.Cores=false:=by simpa using h2
   refine byG ?_;refine⟨_,rfl,ret_b rfl ?_,hw.drop.drop⟩
   refine(decP_f fun hP=>?_).symm
   have:=hP.1 x.T (List.mem_of_getElem? (hget k x hx))
   rw[show sortedB x.Cores=true from decP_t this]at hf;cases hf
  ·have ht:sortedB x.Cores=true:=by simpa using h2
   refine byG ?_;exact⟨μ-1,by omega,k+1,by omega,⟨rfl,rfl,rfl,rfl,trivial⟩,all_step hall hx ht,hw.drop⟩
 have hkn:¬k<n2:=by simpa using h
 have hsort:∀(i:Nat) (x:CacheH),cs[i]? = some x→sortedP x.Cores:=fun i x hx=>decP_iff.1 (hall i x (by have:=(List.getElem?_eq_some_iff.1 hx).1;omega) hx)
 clear h hkn hall hρ hk;refine byG ?_;refine W_loop (fun μ ρ w=>∃(k:Nat),μ+k=n2∧Has ρ [(1,.pointer (some ⟨b1,0,none⟩)),(25,.slice a2 n2 c2),(26,.int .i64 n2),(27,.int .i64 k)]∧(∀(i j:Nat) (a b:CacheH),i<k→cs[i]? = some a→cs[j]? = some b→pairB i j a.T b.T=true)∧Wd Γ (.blk b1 (hwC H a1 n1 c1 a2 n2 c2 a3 n3 c3 a4 n4 c4 a5 n5 c5)::S) w) n2 ⟨0,by omega,⟨rfl,rfl,rfl,rfl,trivial⟩,fun i j a b h=>by omega,hw⟩ ?_
 clear hw;rintro μ ρ w ⟨i,hi,hρ,hall,hw⟩
 rw[hρ.eq];refine byG ?_;refine W_cond rfl (fun h=>?_) (fun h=>?_)
 ·have hin:i<n2:=by simpa using h
  obtain⟨x,hx⟩:=get_lt (l:=cs) (k:=i) (by omega)
  have hcx:=hok x (List.mem_of_getElem? hx)
  obtain⟨hxn,hxm,hxc⟩:=hcx.facts;unfold COk at hcx;refine byG ?_;refine lAlloc ?_;intro b6 w hw;refine byG ?_;refine lStore ?_;intro w hw;have hw:Wd Γ (.blk b6 (.cells (cC x).toArray 89)::.blk b1 (hwC H a1 n1 c1 a2 n2 c2 a3 n3 c3 a4 n4 c4 a5 n5 c5)::S) w:=hw
  refine byG ?_;refine W_loop (fun μ2 ρ w=>∃(k:Nat),μ2+k=n2∧Has ρ [(1,.pointer (some ⟨b1,0,none⟩)),(5,.int .i64 i),(6,.pointer (some ⟨b6,0,none⟩)),(25,.slice a2 n2 c2),(26,.int .i64 n2),(27,.int .i64 i),(33,.slice a2 n2 c2),(34,.int .i64 n2),(35,.int .i64 k)]∧(∀(j:Nat) (b:CacheH),j<k→cs[j]? = some b→pairB i j x.T b.T=true)∧Wd Γ (.blk b6 (.cells (cC x).toArray 89)::.blk b1 (hwC H a1 n1 c1 a2 n2 c2 a3 n3 c3 a4 n4 c4 a5 n5 c5)::S) w) n2 ⟨0,by omega,⟨rfl,rfl,rfl,rfl,rfl,rfl,rfl,rfl,rfl,trivial⟩,fun j b h=>by omega,hw⟩ ?_
  clear hw;rintro μ2 ρ w ⟨k,hk,hρ,hall2,hw⟩
  rw[hρ.eq];refine byG ?_;refine W_cond rfl (fun h2=>?_) (fun h2=>?_)
  ·have hkn:k<n2:=by simpa using h2
   obtain⟨y,hy⟩:=get_lt (l:=cs) (k:=k) (by omega)
   have hcy:=hok y (List.mem_of_getElem? hy)
   haveI:SlC Γ (.slice y.A y.N y.C) 1 (intRows y.Cores):=⟨hcy⟩
   refine byG ?_;refine lAlloc ?_;intro b8 w hw;refine byG ?_;refine lStore ?_;intro w hw;have hw:Wd Γ (.blk b8 (.cells (cC y).toArray 89)::.blk b6 (.cells (cC x).toArray 89)::.blk b1 (hwC H a1 n1 c1 a2 n2 c2 a3 n3 c3 a4 n4 c4 a5 n5 c5)::S) w:=hw
   refine byG ?_;refine W_cond rfl (fun h3=>?_) (fun h3=>?_)
   ·have hp:pairB i k x.T y.T=true:=by
     have h3:(decide ((i:Int)=k)||decide (y.Level<x.Level))=true:=h3
     unfold pairB CacheH.T;rw[show decide (i=k)=decide ((i:Int)=k) from decide_eq_decide.2 (by omega)]
     rw[h3];rfl
    refine byG ?_;exact⟨μ2-1,by omega,k+1,by omega,⟨rfl,rfl,rfl,rfl,rfl,rfl,rfl,rfl,rfl,trivial⟩,allI_step (p:=fun j b=>pairB i j x.T b.T) hall2 hy hp,hw.drop⟩
   ·have h3:(decide ((i:Int)=k)||decide (y.Level<x.Level))=false:=h3
    refine byG ?_;refine W_loop (fun μ3 ρ w=>∃(j:Nat),μ3+j=x.N∧Has ρ [(1,.pointer (some ⟨b1,0,none⟩)),(5,.int .i64 i),(6,.pointer (some ⟨b6,0,none⟩)),(8,.pointer (some ⟨b8,0,none⟩)),(9,.int .i64 (sharedN (x.Cores.take j) y.Cores)),(25,.slice a2 n2 c2),(26,.int .i64 n2),(27,.int .i64 i),(33,.slice a2 n2 c2),(34,.int .i64 n2),(35,.int .i64 k),(51,.slice x.A x.N x.C),(52,.int .i64 x.N),(53,.int .i64 j)]∧Wd Γ (.blk b8 (.cells (cC y).toArray 89)::.blk b6 (.cells (cC x).toArray 89)::.blk b1 (hwC H a1 n1 c1 a2 n2 c2 a3 n3 c3 a4 n4 c4 a5 n5 c5)::S) w) x.N ⟨0,by omega,⟨rfl,rfl,rfl,rfl,rfl,rfl,rfl,rfl,rfl,rfl,rfl,rfl,rfl,rfl,trivial⟩,hw⟩ ?_
    clear hw;rintro μ3 ρ w ⟨j,hj,hρ,hw⟩
    rw[hρ.eq];have hle:sharedN (x.Cores.take j) y.Cores≤j:=Nat.le_trans (List.length_filter_le _ _) (by simp;omega)
    refine byG ?_;refine W_cond rfl (fun h4=>?_) (fun h4=>?_)
    ·have hjn:j<x.N:=by simpa using h4
     obtain⟨v,hv⟩:=get_lt (l:=x.Cores) (k:=j) (by omega)
     have hst:sharedN (x.Cores.take (j+1)) y.Cores=sharedN (x.Cores.take j) y.Cores+(if memI v y.Cores=true then 1 else 0):=by
      unfold sharedN;rw[take_succ_of hv,List.filter_append,List.length_append];congr 1
      by_cases e:memI v y.Cores=true <;> simp[e]
     repeat first|refine byW ?_|refine byV ?_;intro w hw
     refine W_cond rfl (fun h5=>?_) (fun h5=>?_)
     ·rw[if_pos h5]at hst;refine byG ?_;exact⟨μ3-1,by omega,j+1,by omega,⟨rfl,rfl,rfl,rfl,by rw[hst];rfl,rfl,rfl,rfl,rfl,rfl,rfl,rfl,rfl,rfl,trivial⟩,hw⟩
     ·rw[if_neg (by rw[h5];simp)]at hst
      refine byG ?_;exact⟨μ3-1,by omega,j+1,by omega,⟨rfl,rfl,rfl,rfl,by rw[hst];rfl,rfl,rfl,rfl,rfl,rfl,rfl,rfl,rfl,rfl,trivial⟩,hw⟩
    ·have hjn:¬j<x.N:=by simpa using h4
     rw[List.take_of_length_le (by omega)]
     refine byG ?_;have key:pairB i k x.T y.T = !(decide ((0:Int)<(sharedN x.Cores y.Cores:Nat))&&(decide (x.Level=y.Level)||decide (((sharedN x.Cores y.Cores:Nat):Int)<x.N))):=by
      unfold pairB CacheH.T;rw[show decide (i=k)=decide ((i:Int)=k) from decide_eq_decide.2 (by omega),h3]
      rw[show decide (0<sharedN x.Cores y.Cores)=decide ((0:Int)<(sharedN x.Cores y.Cores:Nat)) from decide_eq_decide.2 (by omega)]
      rw[show decide (sharedN x.Cores y.Cores<x.Cores.length)=decide (((sharedN x.Cores y.Cores:Nat):Int)<x.N) from decide_eq_decide.2 (by omega)]
      rfl
     refine W_cond rfl (fun h6=>?_) (fun h6=>?_)
     ·have hp:pairB i k x.T y.T=false:=key.trans (congrArg (fun b=>!b) h6)
      refine byG ?_;refine⟨_,rfl,ret_b rfl ?_,hw.drop.drop.drop⟩
      refine(decP_f fun hP=>?_).symm
      rw[hP.2 i k x.T y.T (hget i x hx) (hget k y hy)]at hp;cases hp
     ·have hp:pairB i k x.T y.T=true:=key.trans (congrArg (fun b=>!b) h6)
      refine byG ?_;exact⟨μ2-1,by omega,k+1,by omega,⟨rfl,rfl,rfl,rfl,rfl,rfl,rfl,rfl,rfl,trivial⟩,allI_step (p:=fun j b=>pairB i j x.T b.T) hall2 hy hp,hw.drop⟩
  ·have hkn:¬k<n2:=by simpa using h2
   refine byG ?_;refine⟨μ-1,by omega,i+1,by omega,⟨rfl,rfl,rfl,rfl,trivial⟩,fun i' j a b h1 ha hb=>?_,hw.drop⟩
   by_cases e:i'=i
   ·subst e;rw[hx]at ha;cases ha
    exact hall2 j b (by have:=(List.getElem?_eq_some_iff.1 hb).1;omega) hb
   ·exact hall i' j a b (by omega) ha hb
 ·have hin:¬i<n2:=by simpa using h
  refine byG ?_;refine⟨_,rfl,ret_b rfl ?_,hw.drop⟩
  refine(decP_t ⟨fun c hc=>?_,fun p q a b ha hb=>?_⟩).symm
  ·rw[←hcs]at hc;obtain⟨x,hx,rfl⟩:=List.mem_map.1 hc
   obtain⟨q,hq,he⟩:=List.getElem_of_mem hx
   exact hsort q x (by rw[List.getElem?_eq_getElem hq,he])
  ·rw[←hcs,List.getElem?_map]at ha hb
   obtain⟨x,hx,rfl⟩:=Option.map_eq_some_iff.1 ha
   obtain⟨y,hy,rfl⟩:=Option.map_eq_some_iff.1 hb
   exact hall p q x y (by have:=(List.getElem?_eq_some_iff.1 hx).1;omega) hx hy⟩
abbrev blkRows(l:List (Int×Int)):List (List Value):=l.map fun p=>[.int .u64 p.1,.int .u64 p.2]
def memBlk(m:MemT):Int×Int:=(m.Base,IntKind.u64.wrap (m.Base+m.Size))
def devBlk(m:DevT):Int×Int:=(m.Base,IntKind.u64.wrap (m.Base+m.Size))
def regs(H:HwT):List (Int×Int):=H.Mems.map memBlk++H.Devs.map devBlk
def apartB(x y:Int×Int):Bool:=!(decide (x.1<y.2)&&decide (y.1<x.2))
def DisjP(H:HwT):Prop:=∀(i k:Nat) (a b:Int×Int),k<i→(regs H)[i]? = some a→(regs H)[k]? = some b→apartB a b=true
noncomputable def disjB(H:HwT):Bool:=decP (DisjP H)
theorem rows_snocB{α:Type}{f:α→Int×Int}{l:List α}{L:List (Int×Int)}{k:Nat}{x:α}(hx:l[k]? = some x):blkRows (L++(l.take k).map f)++[[.int .u64 (f x).1,.int .u64 (f x).2]]=blkRows (L++(l.take (k+1)).map f):=by rw[take_succ_of hx];simp[blkRows]
theorem rows_snocN{α:Type}{f:α→Int}{l:List α}{L:List Int}{k:Nat}{x:α}(hx:l[k]? = some x):intRows (L++(l.take k).map f)++[[.int .i64 (f x)]]=intRows (L++(l.take (k+1)).map f):=by rw[take_succ_of hx];simp[intRows]
theorem disjoint_any{Γ:Gho}{S:List Res}{w:World}{u:Value}{H:HwT}[hh:HwR Γ u H](hcnt:countsB H=true)(hw:Wd Γ S w):Calls Tryz.prog 151 #[u] w fun e w'=>e=.returned (.bool (disjB H))∧Wd Γ S w':=by
 obtain⟨-,l1,l2,l3,l4,l5⟩:=counts_le hcnt
 obtain⟨a1,n1,c1,a2,n2,c2,a3,n3,c3,a4,n4,c4,a5,n5,c5,cs,rfl,hcs,hok,hsz,r1,r2,r3,r4,r5⟩:=hh.h;obtain⟨hn1,hm1,hx1⟩:=rep_facts r1
 obtain⟨hn2,hm2,hx2⟩:=rep_facts r2
 obtain⟨hn3,hm3,hx3⟩:=rep_facts r3
 obtain⟨hn4,hm4,hx4⟩:=rep_facts r4
 obtain⟨hn5,hm5,hx5⟩:=rep_facts r5
 simp only[List.length_map]at hn1 hn2 hn3 hn4 hn5
 refine calls_of_W Tryz.func151 rfl rfl ?_
 refine byG ?_;refine lBox ?_;intro b1 w hw;have hw:Wd Γ (.blk b1 (.cells #[.string H.Name,.slice a1 n1 c1,.slice a2 n2 c2,.slice a3 n3 c3,.slice a4 n4 c4,.slice a5 n5 c5] 30)::S) w:=hw
 obtain⟨q,m,d,hq⟩:∃(q:Option Addr) (m d:Nat),(.slice none 0 0:Value)=.slice q m d:=⟨_,_,_,rfl⟩
 have hw:Wd Γ (.own (.slice none 0 0) 260 2 (blkRows [])::.blk b1 (.cells #[.string H.Name,.slice a1 n1 c1,.slice a2 n2 c2,.slice a3 n3 c3,.slice a4 n4 c4,.slice a5 n5 c5] 30)::S) w:=Wd.addNil hw
 refine byG ?_;rw[hq] at *
 clear hq;rw[show ([]:List (Int×Int))=(([]:List (Int×Int))++(H.Mems.take 0).map memBlk) from by simp]at hw
 refine byG ?_;refine W_loop (fun μ ρ w=>∃(k:Nat) (q:Option Addr) (m d:Nat),μ+k=n4∧Has ρ [(1,.pointer (some ⟨b1,0,none⟩)),(3,.slice q m d),(11,.slice a4 n4 c4),(12,.int .i64 n4),(13,.int .i64 k)]∧Wd Γ (.own (.slice q m d) 260 2 (blkRows (([]:List (Int×Int))++(H.Mems.take k).map memBlk))::.blk b1 (.cells #[.string H.Name,.slice a1 n1 c1,.slice a2 n2 c2,.slice a3 n3 c3,.slice a4 n4 c4,.slice a5 n5 c5] 30)::S) w) n4 ⟨0,q,m,d,by omega,⟨rfl,rfl,rfl,rfl,rfl,trivial⟩,hw⟩ ?_
 clear hw;rintro μ ρ w ⟨k,q,m,d,hk,hρ,hw⟩
 have hm:=own_len (i:=0) hw rfl
 simp only[blkRows,List.length_map,List.length_append,List.length_nil,List.length_take]at hm
 rw[hρ.eq];refine byG ?_;refine W_cond rfl (fun h=>?_) (fun h=>?_)
 ·have hkn:k<n4:=by simpa using h
  obtain⟨x,hx⟩:=get_lt (l:=H.Mems) (k:=k) (by omega)
  refine byG ?_;refine lAlloc ?_;intro b9 w hw;refine lStore ?_;intro w hw;have hw:Wd Γ (.blk b9 (.cells (enc x).toArray 83)::.own (.slice q m d) 260 2 (blkRows (([]:List (Int×Int))++(H.Mems.take k).map memBlk))::.blk b1 (.cells #[.string H.Name,.slice a1 n1 c1,.slice a2 n2 c2,.slice a3 n3 c3,.slice a4 n4 c4,.slice a5 n5 c5] 30)::S) w:=hw
  refine byG ?_;refine lBuildSlice [[.int .u64 (memBlk x).1,.int .u64 (memBlk x).2]] ?_
  intro ab w hw;refine lApp (i:=2) (rows2:=[[.int .u64 (memBlk x).1,.int .u64 (memBlk x).2]]) ?_ (Wd.own_rd (i:=0) hw rfl)
  intro v' w hw;obtain⟨q',m',d',rfl,-,-,-⟩:=hw.own_shape (i:=2) rfl
  have hw:Wd Γ (.own (.slice q' m' d') 260 2 (blkRows (([]:List (Int×Int))++(H.Mems.take (k+1)).map memBlk))::.blk b1 (.cells #[.string H.Name,.slice a1 n1 c1,.slice a2 n2 c2,.slice a3 n3 c3,.slice a4 n4 c4,.slice a5 n5 c5] 30)::S) w:=by
   rw[←rows_snocB hx];exact hw.drop.drop
  refine byG ?_;exact⟨μ-1,by omega,k+1,_,_,_,by omega,⟨rfl,rfl,rfl,rfl,rfl,trivial⟩,hw⟩
 have hkn:¬k<n4:=by simpa using h
 rw[List.take_of_length_le (l:=H.Mems) (by omega)]at hw
 clear h hkn hρ hk hm;rw[List.nil_append]at hw;rw[show H.Mems.map memBlk=(H.Mems.map memBlk++(H.Devs.take 0).map devBlk) from by simp]at hw
 refine byG ?_;refine W_loop (fun μ ρ w=>∃(k:Nat) (q:Option Addr) (m d:Nat),μ+k=n5∧Has ρ [(1,.pointer (some ⟨b1,0,none⟩)),(3,.slice q m d),(30,.slice a5 n5 c5),(31,.int .i64 n5),(32,.int .i64 k)]∧Wd Γ (.own (.slice q m d) 260 2 (blkRows (H.Mems.map memBlk++(H.Devs.take k).map devBlk))::.blk b1 (.cells #[.string H.Name,.slice a1 n1 c1,.slice a2 n2 c2,.slice a3 n3 c3,.slice a4 n4 c4,.slice a5 n5 c5] 30)::S) w) n5 ⟨0,q,m,d,by omega,⟨rfl,rfl,rfl,rfl,rfl,trivial⟩,hw⟩ ?_
 clear hw;rintro μ ρ w ⟨k,q,m,d,hk,hρ,hw⟩
 have hm:=own_len (i:=0) hw rfl
 simp only[blkRows,List.length_map,List.length_append,List.length_nil,List.length_take]at hm
 rw[hρ.eq];refine byG ?_;refine W_cond rfl (fun h=>?_) (fun h=>?_)
 ·have hkn:k<n5:=by simpa using h
  obtain⟨x,hx⟩:=get_lt (l:=H.Devs) (k:=k) (by omega)
  refine byG ?_;refine lAlloc ?_;intro b9 w hw;refine lStore ?_;intro w hw;have hw:Wd Γ (.blk b9 (.cells (enc x).toArray 85)::.own (.slice q m d) 260 2 (blkRows (H.Mems.map memBlk++(H.Devs.take k).map devBlk))::.blk b1 (.cells #[.string H.Name,.slice a1 n1 c1,.slice a2 n2 c2,.slice a3 n3 c3,.slice a4 n4 c4,.slice a5 n5 c5] 30)::S) w:=hw
  refine byG ?_;refine lBuildSlice [[.int .u64 (devBlk x).1,.int .u64 (devBlk x).2]] ?_
  intro ab w hw;refine lApp (i:=2) (rows2:=[[.int .u64 (devBlk x).1,.int .u64 (devBlk x).2]]) ?_ (Wd.own_rd (i:=0) hw rfl)
  intro v' w hw;obtain⟨q',m',d',rfl,-,-,-⟩:=hw.own_shape (i:=2) rfl
  have hw:Wd Γ (.own (.slice q' m' d') 260 2 (blkRows (H.Mems.map memBlk++(H.Devs.take (k+1)).map devBlk))::.blk b1 (.cells #[.string H.Name,.slice a1 n1 c1,.slice a2 n2 c2,.slice a3 n3 c3,.slice a4 n4 c4,.slice a5 n5 c5] 30)::S) w:=by
   rw[←rows_snocB hx];exact hw.drop.drop
  refine byG ?_;exact⟨μ-1,by omega,k+1,_,_,_,by omega,⟨rfl,rfl,rfl,rfl,rfl,trivial⟩,hw⟩
 have hkn:¬k<n5:=by simpa using h
 rw[List.take_of_length_le (l:=H.Devs) (by omega)]at hw
 clear h hkn hρ hk hm;have hw:Wd Γ (.own (.slice q m d) 260 2 (blkRows (regs H))::.blk b1 (.cells #[.string H.Name,.slice a1 n1 c1,.slice a2 n2 c2,.slice a3 n3 c3,.slice a4 n4 c4,.slice a5 n5 c5] 30)::S) w:=hw
 have hm:=own_len (i:=0) hw rfl
 simp only[blkRows,List.length_map]at hm
 have hmb:m≤96:=by rw[hm];simp[regs];omega
 refine byG ?_;refine W_loop (fun μ ρ w=>∃(i:Nat),μ+i=m∧Has ρ [(3,.slice q m d),(49,.int .i64 m),(50,.int .i64 i)]∧(∀(i' k:Nat) (a b:Int×Int),i'<i→k<i'→(regs H)[i']? = some a→(regs H)[k]? = some b→apartB a b=true)∧Wd Γ (.own (.slice q m d) 260 2 (blkRows (regs H))::.blk b1 (.cells #[.string H.Name,.slice a1 n1 c1,.slice a2 n2 c2,.slice a3 n3 c3,.slice a4 n4 c4,.slice a5 n5 c5] 30)::S) w) m ⟨0,by omega,⟨rfl,rfl,rfl,trivial⟩,fun i' k a b h=>by omega,hw⟩ ?_
 clear hw;rintro μ ρ w ⟨i,hi,hρ,hall,hw⟩
 rw[hρ.eq];refine byG ?_;refine W_cond rfl (fun h=>?_) (fun h=>?_)
 ·have hin:i<m:=by simpa using h
  obtain⟨x,hx⟩:=get_lt (l:=regs H) (k:=i) (by omega)
  refine byG ?_;refine W_loop (fun μ2 ρ w=>∃(k:Nat),μ2+k=i∧Has ρ [(3,.slice q m d),(8,.int .i64 i),(9,.int .i64 k),(49,.int .i64 m),(50,.int .i64 i)]∧(∀(j:Nat) (b:Int×Int),j<k→(regs H)[j]? = some b→apartB x b=true)∧Wd Γ (.own (.slice q m d) 260 2 (blkRows (regs H))::.blk b1 (.cells #[.string H.Name,.slice a1 n1 c1,.slice a2 n2 c2,.slice a3 n3 c3,.slice a4 n4 c4,.slice a5 n5 c5] 30)::S) w) i ⟨0,by omega,⟨rfl,rfl,rfl,rfl,rfl,trivial⟩,fun j b h=>by omega,hw⟩ ?_
  clear hw;rintro μ2 ρ w ⟨k,hk,hρ,hall2,hw⟩
  rw[hρ.eq];refine byG ?_;refine W_cond rfl (fun h2=>?_) (fun h2=>?_)
  ·have hki:k<i:=by simpa using h2
   obtain⟨y,hy⟩:=get_lt (l:=regs H) (k:=k) (by omega)
   refine byG ?_;refine W_quiet (by kernel_rfl) (by kernel_rfl) hw ?_
   refine byQ ?_;intro w hw;refine W_cond rfl (fun h3=>?_) (fun h3=>?_)
   ·have hp:apartB x y=false:=by unfold apartB;exact congrArg (fun b=>!b) h3
    refine byG ?_;refine⟨_,rfl,ret_b rfl ?_,hw.drop.drop⟩
    refine(decP_f fun hP=>?_).symm
    rw[hP i k x y hki hx hy]at hp;cases hp
   ·have hp:apartB x y=true:=by unfold apartB;exact congrArg (fun b=>!b) h3
    refine byG ?_;exact⟨μ2-1,by omega,k+1,by omega,⟨rfl,rfl,rfl,rfl,rfl,trivial⟩,all_step hall2 hy hp,hw⟩
  ·have hki:¬k<i:=by simpa using h2
   refine byG ?_;refine⟨μ-1,by omega,i+1,by omega,⟨rfl,rfl,rfl,trivial⟩,fun i' j a b h1 h3 ha hb=>?_,hw⟩
   by_cases e:i'=i
   ·subst e;rw[hx]at ha;cases ha
    exact hall2 j b (by omega) hb
   ·exact hall i' j a b (by omega) h3 ha hb
 ·have hin:¬i<m:=by simpa using h
  refine byG ?_;refine⟨_,rfl,ret_b rfl ?_,hw.drop.drop⟩
  exact(decP_t fun p q a b hpq ha hb=>hall p q a b (by have:=(List.getElem?_eq_some_iff.1 ha).1;omega) hpq ha hb).symm
inductive Reach (ls:List LinkT) (s:Int):Int→Prop
 | refl:Reach ls s s
 | ab {l:LinkT}:l∈ls→Reach ls s l.A→Reach ls s l.B
 | ba {l:LinkT}:l∈ls→Reach ls s l.B→Reach ls s l.A
def usedN(H:HwT):List Int:=(H.Cores.map (fun c=>c.Node)++H.Mems.map (fun c=>c.Node))++H.Devs.map (fun c=>c.Node)
def ConnP(H:HwT):Prop:=∀n∈usedN H,Reach H.Links ((usedN H).headD 0) n
noncomputable def connB(H:HwT):Bool:=decP (ConnP H)
theorem head_used{H:HwT}{s0:Int}(h:(usedN H)[0]? = some s0):(usedN H).headD 0=s0:=by
 cases hu:usedN H with
 | nil=>rw[hu]at h;cases h
 | cons a l=>rw[hu]at h;simpa using h
theorem nodes_in{H:HwT}(h1:coresRB H=true)(h2:regionsRB H=true):(∀n∈usedN H,0≤n∧n<64)∧∀l∈H.Links,0≤l.A∧l.A<64∧0≤l.B∧l.B<64:=by
 unfold coresRB at h1;unfold regionsRB at h2;simp only[Bool.and_eq_true,List.all_eq_true]at h1 h2
 obtain⟨hc,-,hl⟩:=h1;obtain⟨hm,hd⟩:=h2;refine⟨fun n hn=>?_,fun l hl'=>?_⟩
 ·unfold usedN at hn;simp only[List.mem_append,List.mem_map]at hn
  rcases hn with (⟨c,hcm,rfl⟩|⟨c,hcm,rfl⟩)|⟨c,hcm,rfl⟩
  ·have:=hc c hcm;simp[coreRB,isNodeB]at this;omega
  ·have:=hm c hcm;simp[memRB,isNodeB]at this;omega
  ·have:=hd c hcm;simp[devRB,isNodeB]at this;omega
 ·have:=hl l hl';simp[linkRB,isNodeB]at this;omega
structure Known(ls:List LinkT)(s:Int)(R:List Bool):Prop where
 len:R.length=64
 ok:∀(j:Nat),R[j]? = some true→∃n:Int,n.toNat=j∧0≤n∧Reach ls s n
theorem known_start{ls:List LinkT}{s:Int}(h:0≤s∧s<64):Known ls s ((List.replicate 64 false).set s.toNat true):=⟨by simp,fun j hj=>by
 rw[List.getElem?_set]at hj;split at hj
 ·rename_i e;exact⟨s,e,h.1,.refl⟩
 ·rw[List.getElem?_replicate]at hj;split at hj <;> simp at hj⟩
theorem Known.set{ls:List LinkT}{s n:Int}{R:List Bool}(h:Known ls s R)(hn:0≤n)(hr:Reach ls s n):Known ls s (R.set n.toNat true):=⟨by simp[h.len],fun j hj=>by
 rw[List.getElem?_set]at hj;split at hj
 ·rename_i e;exact⟨n,e,hn,hr⟩
 ·exact h.ok j hj⟩
theorem known_iff{ls:List LinkT}{s n:Int}{R:List Bool}(h:Known ls s R)(h0:R[s.toNat]? = some true)(hs:0≤s)(hL:∀l∈ls,0≤l.A∧l.A<64∧0≤l.B∧l.B<64)(hcl:∀l∈ls,R.getD l.A.toNat false=R.getD l.B.toNat false)(hn:0≤n∧n<64):R.getD n.toNat false=true↔Reach ls s n:=by
 constructor
 ·intro hg;rw[List.getD_eq_getElem?_getD]at hg;obtain⟨b,hb⟩:=get_lt (l:=R) (k:=n.toNat) (by rw[h.len];omega)
  rw[hb]at hg;have hg:b=true:=hg
  subst hg;obtain⟨x,hx,hx0,hr⟩:=h.ok _ hb
  have:x=n:=by omega
  subst this;exact hr
 ·intro hr;clear hn;induction hr with
  | refl=>rw[List.getD_eq_getElem?_getD,h0];rfl
  | ab hl _ ih=>rw[←hcl _ hl];exact ih
  | ba hl _ ih=>rw[hcl _ hl];exact ih
theorem set_self{R:List Bool}{k:Nat}{b:Bool}(h:k<R.length):(R.set k b)[k]? = some b:=by rw[List.getElem?_set_self h]
theorem getBool{R:List Bool}{k:Nat}{b:Bool}(h:R[k]? = some b):((R.map Value.bool).toArray)[0+k*1]? = some (.bool b):=by simp[h]
theorem putBool{R:List Bool}{k:Nat}{b:Bool}(h:k<R.length):putCells (R.map Value.bool).toArray (0+k*1) [.bool b]=((R.set k b).map Value.bool).toArray:=by
 unfold putCells;rw[Nat.zero_add,Nat.mul_one,List.set_eq_take_append_cons_drop,if_pos h];simp
theorem y_neqlb{P:Program}{d:Option Tmp}{T U ty:TypeId}{pos:String}{es:Array Edge}{g:Option (Nat×Bool)}{x y:Operand}{ρ:Fr}{w:World}{a b:Bool}(hT:P.underlying T=some .bool)(hx:ev ρ x=.bool a)(hy:ev ρ y=.bool b):Mk.Yields P ⟨d,.binOp .neq T x y U,ty,pos,es,g⟩ ρ w (.bool (a != b)):=by
 unfold Mk.Yields;simp[execOp,go_sem,hx,hy,hT];cases a <;> cases b <;> rfl
theorem count_set_le{R:List Bool}{k:Nat}:(R.set k true).count false≤R.count false:=by
 induction R generalizing k with
 | nil=>simp
 | cons b l ih=>
  cases k with
  | zero=>cases b <;> simp
  | succ k=>simp only[List.set_cons_succ,List.count_cons];have:=ih (k:=k);omega
theorem count_set_lt{R:List Bool}{k:Nat}(h:R[k]? = some false):(R.set k true).count false+1≤R.count false:=by
 induction R generalizing k with
 | nil=>simp at h
 | cons b l ih=>
  cases k with
  | zero=>simp at h;subst h;simp
  | succ k=>simp at h;simp only[List.set_cons_succ,List.count_cons];have:=ih (k:=k) (by simpa using h);omega
theorem connected_any{Γ:Gho}{S:List Res}{w:World}{u:Value}{H:HwT}[hh:HwR Γ u H](hcnt:countsB H=true)(hcr:coresRB H=true)(hrr:regionsRB H=true)(hw:Wd Γ S w):Calls Tryz.prog 152 #[u] w fun e w'=>e=.returned (.bool (connB H))∧Wd Γ S w':=by
 obtain⟨l0,l1,l2,l3,l4,l5⟩:=counts_le hcnt
 obtain⟨hNd,hLk⟩:=nodes_in hcr hrr
 obtain⟨a1,n1,c1,a2,n2,c2,a3,n3,c3,a4,n4,c4,a5,n5,c5,cs,rfl,hcs,hok,hsz,r1,r2,r3,r4,r5⟩:=hh.h;obtain⟨hn1,hm1,hx1⟩:=rep_facts r1
 obtain⟨hn2,hm2,hx2⟩:=rep_facts r2
 obtain⟨hn3,hm3,hx3⟩:=rep_facts r3
 obtain⟨hn4,hm4,hx4⟩:=rep_facts r4
 obtain⟨hn5,hm5,hx5⟩:=rep_facts r5
 simp only[List.length_map]at hn1 hn2 hn3 hn4 hn5
 refine calls_of_W Tryz.func152 rfl rfl ?_
 refine byG ?_;refine lBox ?_;intro b1 w hw;have hw:Wd Γ (.blk b1 (.cells #[.string H.Name,.slice a1 n1 c1,.slice a2 n2 c2,.slice a3 n3 c3,.slice a4 n4 c4,.slice a5 n5 c5] 30)::S) w:=hw
 obtain⟨q,m,d,hq⟩:∃(q:Option Addr) (m d:Nat),(.slice none 0 0:Value)=.slice q m d:=⟨_,_,_,rfl⟩
 have hw:Wd Γ (.own (.slice none 0 0) 3 1 (intRows [])::.blk b1 (.cells #[.string H.Name,.slice a1 n1 c1,.slice a2 n2 c2,.slice a3 n3 c3,.slice a4 n4 c4,.slice a5 n5 c5] 30)::S) w:=Wd.addNil hw
 refine byG ?_;rw[hq] at *
 clear hq;rw[show ([]:List Int)=(([]:List Int)++(H.Cores.take 0).map (fun c=>c.Node)) from by simp]at hw
 refine byG ?_;refine W_loop (fun μ ρ w=>∃(k:Nat) (q:Option Addr) (m d:Nat),μ+k=n1∧Has ρ [(1,.pointer (some ⟨b1,0,none⟩)),(3,.slice q m d),(17,.slice a1 n1 c1),(18,.int .i64 n1),(19,.int .i64 k)]∧Wd Γ (.own (.slice q m d) 3 1 (intRows (([]:List Int)++(H.Cores.take k).map (fun c=>c.Node)))::.blk b1 (.cells #[.string H.Name,.slice a1 n1 c1,.slice a2 n2 c2,.slice a3 n3 c3,.slice a4 n4 c4,.slice a5 n5 c5] 30)::S) w) n1 ⟨0,q,m,d,by omega,⟨rfl,rfl,rfl,rfl,rfl,trivial⟩,hw⟩ ?_
 clear hw;rintro μ ρ w ⟨k,q,m,d,hk,hρ,hw⟩
 have hm:=own_len (i:=0) hw rfl
 simp only[intRows,List.length_map,List.length_append,List.length_nil,List.length_take]at hm
 rw[hρ.eq];refine byG ?_;refine W_cond rfl (fun h=>?_) (fun h=>?_)
 ·have hkn:k<n1:=by simpa using h
  obtain⟨x,hx⟩:=get_lt (l:=H.Cores) (k:=k) (by omega)
  refine byG ?_;refine lAlloc ?_;intro b9 w hw;refine lStore ?_;intro w hw;have hw:Wd Γ (.blk b9 (.cells (enc x).toArray 37)::.own (.slice q m d) 3 1 (intRows (([]:List Int)++(H.Cores.take k).map (fun c=>c.Node)))::.blk b1 (.cells #[.string H.Name,.slice a1 n1 c1,.slice a2 n2 c2,.slice a3 n3 c3,.slice a4 n4 c4,.slice a5 n5 c5] 30)::S) w:=hw
  refine byG ?_;refine lBuildSlice [[.int .i64 x.Node]] ?_
  intro ab w hw;refine lApp (i:=2) (rows2:=[[.int .i64 x.Node]]) ?_ (Wd.own_rd (i:=0) hw rfl)
  intro v' w hw;obtain⟨q',m',d',rfl,-,-,-⟩:=hw.own_shape (i:=2) rfl
  have hw:Wd Γ (.own (.slice q' m' d') 3 1 (intRows (([]:List Int)++(H.Cores.take (k+1)).map (fun c=>c.Node)))::.blk b1 (.cells #[.string H.Name,.slice a1 n1 c1,.slice a2 n2 c2,.slice a3 n3 c3,.slice a4 n4 c4,.slice a5 n5 c5] 30)::S) w:=by
   rw[←rows_snocN (f:=fun c:CoreT=>c.Node) hx];exact hw.drop.drop
  refine byG ?_;exact⟨μ-1,by omega,k+1,_,_,_,by omega,⟨rfl,rfl,rfl,rfl,rfl,trivial⟩,hw⟩
 have hkn:¬k<n1:=by simpa using h
 rw[List.take_of_length_le (l:=H.Cores) (by omega)]at hw
 clear h hkn hρ hk hm;rw[List.nil_append]at hw;rw[show H.Cores.map (fun c=>c.Node)=(H.Cores.map (fun c=>c.Node)++(H.Mems.take 0).map (fun c=>c.Node)) from by simp]at hw
 refine byG ?_;refine W_loop (fun μ ρ w=>∃(k:Nat) (q:Option Addr) (m d:Nat),μ+k=n4∧Has ρ [(1,.pointer (some ⟨b1,0,none⟩)),(3,.slice q m d),(30,.slice a4 n4 c4),(31,.int .i64 n4),(32,.int .i64 k)]∧Wd Γ (.own (.slice q m d) 3 1 (intRows (H.Cores.map (fun c=>c.Node)++(H.Mems.take k).map (fun c=>c.Node)))::.blk b1 (.cells #[.string H.Name,.slice a1 n1 c1,.slice a2 n2 c2,.slice a3 n3 c3,.slice a4 n4 c4,.slice a5 n5 c5] 30)::S) w) n4 ⟨0,q,m,d,by omega,⟨rfl,rfl,rfl,rfl,rfl,trivial⟩,hw⟩ ?_
 clear hw;rintro μ ρ w ⟨k,q,m,d,hk,hρ,hw⟩
 have hm:=own_len (i:=0) hw rfl
 simp only[intRows,List.length_map,List.length_append,List.length_nil,List.length_take]at hm
 rw[hρ.eq];refine byG ?_;refine W_cond rfl (fun h=>?_) (fun h=>?_)
 ·have hkn:k<n4:=by simpa using h
  obtain⟨x,hx⟩:=get_lt (l:=H.Mems) (k:=k) (by omega)
  refine byG ?_;refine lAlloc ?_;intro b9 w hw;refine lStore ?_;intro w hw;have hw:Wd Γ (.blk b9 (.cells (enc x).toArray 83)::.own (.slice q m d) 3 1 (intRows (H.Cores.map (fun c=>c.Node)++(H.Mems.take k).map (fun c=>c.Node)))::.blk b1 (.cells #[.string H.Name,.slice a1 n1 c1,.slice a2 n2 c2,.slice a3 n3 c3,.slice a4 n4 c4,.slice a5 n5 c5] 30)::S) w:=hw
  refine byG ?_;refine lBuildSlice [[.int .i64 x.Node]] ?_
  intro ab w hw;refine lApp (i:=2) (rows2:=[[.int .i64 x.Node]]) ?_ (Wd.own_rd (i:=0) hw rfl)
  intro v' w hw;obtain⟨q',m',d',rfl,-,-,-⟩:=hw.own_shape (i:=2) rfl
  have hw:Wd Γ (.own (.slice q' m' d') 3 1 (intRows (H.Cores.map (fun c=>c.Node)++(H.Mems.take (k+1)).map (fun c=>c.Node)))::.blk b1 (.cells #[.string H.Name,.slice a1 n1 c1,.slice a2 n2 c2,.slice a3 n3 c3,.slice a4 n4 c4,.slice a5 n5 c5] 30)::S) w:=by
   rw[←rows_snocN (f:=fun c:MemT=>c.Node) hx];exact hw.drop.drop
  refine byG ?_;exact⟨μ-1,by omega,k+1,_,_,_,by omega,⟨rfl,rfl,rfl,rfl,rfl,trivial⟩,hw⟩
 have hkn:¬k<n4:=by simpa using h
 rw[List.take_of_length_le (l:=H.Mems) (by omega)]at hw
 clear h hkn hρ hk hm;rw[show (H.Cores.map (fun c=>c.Node)++H.Mems.map (fun c=>c.Node))=((H.Cores.map (fun c=>c.Node)++H.Mems.map (fun c=>c.Node))++(H.Devs.take 0).map (fun c=>c.Node)) from by simp]at hw
 refine byG ?_;refine W_loop (fun μ ρ w=>∃(k:Nat) (q:Option Addr) (m d:Nat),μ+k=n5∧Has ρ [(1,.pointer (some ⟨b1,0,none⟩)),(3,.slice q m d),(43,.slice a5 n5 c5),(44,.int .i64 n5),(45,.int .i64 k)]∧Wd Γ (.own (.slice q m d) 3 1 (intRows ((H.Cores.map (fun c=>c.Node)++H.Mems.map (fun c=>c.Node))++(H.Devs.take k).map (fun c=>c.Node)))::.blk b1 (.cells #[.string H.Name,.slice a1 n1 c1,.slice a2 n2 c2,.slice a3 n3 c3,.slice a4 n4 c4,.slice a5 n5 c5] 30)::S) w) n5 ⟨0,q,m,d,by omega,⟨rfl,rfl,rfl,rfl,rfl,trivial⟩,hw⟩ ?_
 clear hw;rintro μ ρ w ⟨k,q,m,d,hk,hρ,hw⟩
 have hm:=own_len (i:=0) hw rfl
 simp only[intRows,List.length_map,List.length_append,List.length_nil,List.length_take]at hm
 rw[hρ.eq];refine byG ?_;refine W_cond rfl (fun h=>?_) (fun h=>?_)
 ·have hkn:k<n5:=by simpa using h
  obtain⟨x,hx⟩:=get_lt (l:=H.Devs) (k:=k) (by omega)
  refine byG ?_;refine lAlloc ?_;intro b9 w hw;refine lStore ?_;intro w hw;have hw:Wd Γ (.blk b9 (.cells (enc x).toArray 85)::.own (.slice q m d) 3 1 (intRows ((H.Cores.map (fun c=>c.Node)++H.Mems.map (fun c=>c.Node))++(H.Devs.take k).map (fun c=>c.Node)))::.blk b1 (.cells #[.string H.Name,.slice a1 n1 c1,.slice a2 n2 c2,.slice a3 n3 c3,.slice a4 n4 c4,.slice a5 n5 c5] 30)::S) w:=hw
  refine byG ?_;refine lBuildSlice [[.int .i64 x.Node]] ?_
  intro ab w hw;refine lApp (i:=2) (rows2:=[[.int .i64 x.Node]]) ?_ (Wd.own_rd (i:=0) hw rfl)
  intro v' w hw;obtain⟨q',m',d',rfl,-,-,-⟩:=hw.own_shape (i:=2) rfl
  have hw:Wd Γ (.own (.slice q' m' d') 3 1 (intRows ((H.Cores.map (fun c=>c.Node)++H.Mems.map (fun c=>c.Node))++(H.Devs.take (k+1)).map (fun c=>c.Node)))::.blk b1 (.cells #[.string H.Name,.slice a1 n1 c1,.slice a2 n2 c2,.slice a3 n3 c3,.slice a4 n4 c4,.slice a5 n5 c5] 30)::S) w:=by
   rw[←rows_snocN (f:=fun c:DevT=>c.Node) hx];exact hw.drop.drop
  refine byG ?_;exact⟨μ-1,by omega,k+1,_,_,_,by omega,⟨rfl,rfl,rfl,rfl,rfl,trivial⟩,hw⟩
 have hkn:¬k<n5:=by simpa using h
 rw[List.take_of_length_le (l:=H.Devs) (by omega)]at hw
 clear h hkn hρ hk hm;have hw:Wd Γ (.own (.slice q m d) 3 1 (intRows (usedN H))::.blk b1 (.cells #[.string H.Name,.slice a1 n1 c1,.slice a2 n2 c2,.slice a3 n3 c3,.slice a4 n4 c4,.slice a5 n5 c5] 30)::S) w:=hw
 have hm:=own_len (i:=0) hw rfl
 simp only[intRows,List.length_map]at hm
 have hmb:1≤m∧m≤128:=by rw[hm];simp[usedN];omega
 obtain⟨s0,hs0⟩:=get_lt (l:=usedN H) (k:=0) (by omega)
 obtain⟨hs1,hs2⟩:=hNd s0 (List.mem_of_getElem? hs0)
 refine byG ?_;refine lAlloc ?_;intro b10 w hw;have hw:Wd Γ (.blk b10 (.cells ((List.replicate 64 false).map Value.bool).toArray 127)::.own (.slice q m d) 3 1 (intRows (usedN H))::.blk b1 (.cells #[.string H.Name,.slice a1 n1 c1,.slice a2 n2 c2,.slice a3 n3 c3,.slice a4 n4 c4,.slice a5 n5 c5] 30)::S) w:=hw
 refine byG ?_;refine lStore (o:=0+s0.toNat*1) (ho:=by simp;omega) ?_
 intro w hw;have hw:Wd Γ (.blk b10 (.cells (putCells ((List.replicate 64 false).map Value.bool).toArray (0+s0.toNat*1) [.bool true]) 127)::.own (.slice q m d) 3 1 (intRows (usedN H))::.blk b1 (.cells #[.string H.Name,.slice a1 n1 c1,.slice a2 n2 c2,.slice a3 n3 c3,.slice a4 n4 c4,.slice a5 n5 c5] 30)::S) w:=hw
 rw[putBool (by simp;omega)]at hw
 refine byG ?_;have hst:Known H.Links s0 ((List.replicate 64 false).set s0.toNat true):=known_start (by omega)
 refine W_loop (fun μ ρ w=>∃(R:List Bool) (ch:Bool),2*R.count false+(if ch=true then 1 else 0)≤μ∧Known H.Links s0 R∧R[s0.toNat]? = some true∧(ch=false→∀l∈H.Links,R.getD l.A.toNat false=R.getD l.B.toNat false)∧Has ρ [(1,.pointer (some ⟨b1,0,none⟩)),(3,.slice q m d),(10,.pointer (some ⟨b10,0,none⟩)),(11,.bool ch)]∧Wd Γ (.blk b10 (.cells ((R).map Value.bool).toArray 127)::.own (.slice q m d) 3 1 (intRows (usedN H))::.blk b1 (.cells #[.string H.Name,.slice a1 n1 c1,.slice a2 n2 c2,.slice a3 n3 c3,.slice a4 n4 c4,.slice a5 n5 c5] 30)::S) w) 200 ⟨_,true,by have:=List.count_le_length (a:=false) (l:=(List.replicate 64 false).set s0.toNat true);simp at this ⊢;omega,hst,set_self (by simp;omega),(fun h=>by cases h),⟨rfl,rfl,rfl,rfl,trivial⟩,hw⟩ ?_
 clear hw;rintro μ ρ w ⟨R,ch,hμ,hkn,hR0,hcl,hρ,hw⟩
 have hRl:=hkn.len
 rw[hρ.eq];refine byG ?_;refine W_cond rfl (fun h=>?_) (fun h=>?_)
 ·subst h;clear hcl;refine byG ?_;refine W_loop (fun μ2 ρ w=>∃(k:Nat) (R2:List Bool) (ch:Bool),μ2+k=n3∧Known H.Links s0 R2∧R2[s0.toNat]? = some true∧2*R2.count false+(if ch=true then 1 else 0)+1≤2*R.count false+1∧(ch=false→∀(i:Nat) (l:LinkT),i<k→H.Links[i]? = some l→R2.getD l.A.toNat false=R2.getD l.B.toNat false)∧Has ρ [(1,.pointer (some ⟨b1,0,none⟩)),(3,.slice q m d),(10,.pointer (some ⟨b10,0,none⟩)),(11,.bool ch),(61,.slice a3 n3 c3),(62,.int .i64 n3),(63,.int .i64 k)]∧Wd Γ (.blk b10 (.cells ((R2).map Value.bool).toArray 127)::.own (.slice q m d) 3 1 (intRows (usedN H))::.blk b1 (.cells #[.string H.Name,.slice a1 n1 c1,.slice a2 n2 c2,.slice a3 n3 c3,.slice a4 n4 c4,.slice a5 n5 c5] 30)::S) w) n3 ⟨0,R,false,by omega,hkn,hR0,by simp,fun _ i l h=>by omega,⟨rfl,rfl,rfl,rfl,rfl,rfl,rfl,trivial⟩,hw⟩ ?_
  clear hw hkn hR0 hRl;rintro μ2 ρ w ⟨k,R2,ch,hk,hkn,hR0,hcnt2,hcl,hρ,hw⟩
  have hRl:=hkn.len
  rw[hρ.eq];refine byG ?_;refine W_cond rfl (fun h2=>?_) (fun h2=>?_)
  ·have hkn3:k<n3:=by simpa using h2
   obtain⟨x,hx⟩:=get_lt (l:=H.Links) (k:=k) (by omega)
   obtain⟨hA0,hA1,hB0,hB1⟩:=hLk x (List.mem_of_getElem? hx)
   obtain⟨ba,hba⟩:=get_lt (l:=R2) (k:=x.A.toNat) (by omega)
   obtain⟨bb,hbb⟩:=get_lt (l:=R2) (k:=x.B.toNat) (by omega)
   refine byG ?_;refine lAlloc ?_;intro b13 w hw;refine lStore ?_;intro w hw;have hw:Wd Γ (.blk b13 (.cells (enc x).toArray 79)::.blk b10 (.cells ((R2).map Value.bool).toArray 127)::.own (.slice q m d) 3 1 (intRows (usedN H))::.blk b1 (.cells #[.string H.Name,.slice a1 n1 c1,.slice a2 n2 c2,.slice a3 n3 c3,.slice a4 n4 c4,.slice a5 n5 c5] 30)::S) w:=hw
   refine byG ?_;refine W_quiet (by kernel_rfl) (by kernel_rfl) hw ?_
   refine byQ ?_;refine qY (v:=.bool ba) ?_ (hy:=fun w hw=>y_l1b (i:=1) hw rfl rfl (getBool hba))
   refine byQ ?_;refine qY (v:=.bool bb) ?_ (hy:=fun w hw=>y_l1b (i:=1) hw rfl rfl (getBool hbb))
   refine byQ ?_;refine qY (v:=.bool (ba != bb)) ?_ (hy:=fun w hw=>y_neqlb Tryz.underlying4 rfl rfl)
   refine byQ ?_;clear hw;intro w hw;refine W_cond rfl (fun h3=>?_) (fun h3=>?_)
   ·refine byG ?_;refine W_mix1 [.blk b13 _] (.blk b10 _::.own _ _ _ _::.blk b1 _::S) [[],[],[],[],[],[0],[],[0]] [[],[],[],[],[],[0],[],[0]] hw ?_
    refine byM ?_;refine mStoreC (o:=0+x.A.toNat*1) (ho:=by simp;omega) ?_
    refine byM ?_;refine mStoreC (o:=0+x.B.toNat*1) (ho:=by
     show _≤(putCells (R2.map Value.bool).toArray (0+x.A.toNat*1) [.bool true]).size
     rw[putBool (by omega)];simp;omega) ?_
    refine mEnd0 ?_
    clear hw;intro w hw;have hw:Wd Γ ([.blk b13 (.cells (enc x).toArray 79)]++((.blk b10 (.cells (putCells (putCells (R2.map Value.bool).toArray (0+x.A.toNat*1) [.bool true]) (0+x.B.toNat*1) [.bool true]) 127)::.own (.slice q m d) 3 1 (intRows (usedN H))::.blk b1 (.cells #[.string H.Name,.slice a1 n1 c1,.slice a2 n2 c2,.slice a3 n3 c3,.slice a4 n4 c4,.slice a5 n5 c5] 30)::S)++[])) w:=hw
    rw[putBool (by omega),putBool (by simp;omega),List.append_nil]at hw
    have hw:Wd Γ (.blk b10 (.cells (((R2.set x.A.toNat true).set x.B.toNat true).map Value.bool).toArray 127)::.own (.slice q m d) 3 1 (intRows (usedN H))::.blk b1 (.cells #[.string H.Name,.slice a1 n1 c1,.slice a2 n2 c2,.slice a3 n3 c3,.slice a4 n4 c4,.slice a5 n5 c5] 30)::S) w:=hw.drop
    refine byG ?_;have hne:ba≠bb:=by cases ba <;> cases bb <;> simp_all
    have hRA:Reach H.Links s0 x.A∧Reach H.Links s0 x.B:=by
     have hxm:=List.mem_of_getElem? hx
     cases ba with
     | true=>
      obtain⟨n,hn,hn0,hr⟩:=hkn.ok _ hba
      have:n=x.A:=by omega
      subst this;exact⟨hr,.ab hxm hr⟩
     | false=>
      have:bb=true:=by cases bb <;> simp_all
      subst this;obtain⟨n,hn,hn0,hr⟩:=hkn.ok _ hbb
      have:n=x.B:=by omega
      subst this;exact⟨.ba hxm hr,hr⟩
    have hc2:2*((R2.set x.A.toNat true).set x.B.toNat true).count false+2≤2*R2.count false:=by
     cases ba with
     | false=>
      have h1:=count_set_lt hba
      have h2:=count_set_le (R:=R2.set x.A.toNat true) (k:=x.B.toNat)
      omega
     | true=>
      have h5:bb=false:=by cases bb <;> simp_all
      subst h5;have h6:x.A.toNat≠x.B.toNat:=fun e=>by rw[e,hbb]at hba;cases hba
      have h1:=count_set_lt (R:=R2.set x.A.toNat true) (k:=x.B.toNat) (by rw[List.getElem?_set_ne h6];exact hbb)
      have h2:=count_set_le (R:=R2) (k:=x.A.toNat)
      omega
    refine⟨μ2-1,by omega,k+1,_,true,by omega,(hkn.set hA0 hRA.1).set hB0 hRA.2,?_,by simp;omega,(fun h=>by cases h),⟨rfl,rfl,rfl,rfl,rfl,rfl,rfl,trivial⟩,hw⟩
    rw[List.getElem?_set,List.getElem?_set];split
    ·simp;omega
    ·split
     ·simp;omega
     ·exact hR0
   ·have hab:ba=bb:=by cases ba <;> cases bb <;> simp_all
    refine byG ?_;refine⟨μ2-1,by omega,k+1,R2,ch,by omega,hkn,hR0,hcnt2,fun hc i l hi hl=>?_,⟨rfl,rfl,rfl,rfl,rfl,rfl,rfl,trivial⟩,hw.drop⟩
    by_cases e:i=k
    ·subst e;rw[hx]at hl;cases hl
     rw[List.getD_eq_getElem?_getD,List.getD_eq_getElem?_getD,hba,hbb,hab]
    ·exact hcl hc i l (by omega) hl
  ·have hkn3:¬k<n3:=by simpa using h2
   refine byG ?_;refine⟨μ-1,by rw[if_pos rfl]at hμ;omega,R2,ch,by rw[if_pos rfl]at hμ;omega,hkn,hR0,fun hc l hl=>?_,⟨rfl,rfl,rfl,rfl,trivial⟩,hw⟩
   obtain⟨i,hi,he⟩:=List.getElem_of_mem hl
   exact hcl hc i l (by omega) (by rw[List.getElem?_eq_getElem hi,he])
 ·subst h;have hcl:=hcl rfl
  clear hμ;have hiff:∀n∈usedN H,(R.getD n.toNat false=true↔Reach H.Links s0 n):=fun n hn=>known_iff hkn hR0 hs1 hLk hcl (hNd n hn)
  refine byG ?_;refine W_loop (fun μ ρ w=>∃(k:Nat),μ+k=m∧(∀(i:Nat) (n:Int),i<k→(usedN H)[i]? = some n→R.getD n.toNat false=true)∧Has ρ [(10,.pointer (some ⟨b10,0,none⟩)),(83,.slice q m d),(84,.int .i64 m),(85,.int .i64 k)]∧Wd Γ (.blk b10 (.cells ((R).map Value.bool).toArray 127)::.own (.slice q m d) 3 1 (intRows (usedN H))::.blk b1 (.cells #[.string H.Name,.slice a1 n1 c1,.slice a2 n2 c2,.slice a3 n3 c3,.slice a4 n4 c4,.slice a5 n5 c5] 30)::S) w) m ⟨0,by omega,fun i n h=>by omega,⟨rfl,rfl,rfl,rfl,trivial⟩,hw⟩ ?_
  clear hw;rintro μ ρ w ⟨k,hk,hall,hρ,hw⟩
  rw[hρ.eq];refine byG ?_;refine W_cond rfl (fun h2=>?_) (fun h2=>?_)
  ·have hkm:k<m:=by simpa using h2
   obtain⟨x,hx⟩:=get_lt (l:=usedN H) (k:=k) (by omega)
   obtain⟨hx0,hx1⟩:=hNd x (List.mem_of_getElem? hx)
   obtain⟨bx,hbx⟩:=get_lt (l:=R) (k:=x.toNat) (by omega)
   have hg:R.getD x.toNat false=bx:=by rw[List.getD_eq_getElem?_getD,hbx];rfl
   refine byG ?_;refine lY (v:=.bool bx) ?_ (hy:=y_l1b (i:=0) hw rfl rfl (getBool hbx))
   refine byG ?_;refine W_cond rfl (fun h3=>?_) (fun h3=>?_)
   ·have h3:bx=false:=by simpa using h3
    refine byG ?_;refine⟨_,rfl,ret_b rfl ?_,hw.drop.drop.drop⟩
    refine(decP_f fun hP=>?_).symm
    have h4:=(hiff x (List.mem_of_getElem? hx)).2 (by rw[←head_used hs0];exact hP x (List.mem_of_getElem? hx))
    rw[hg,h3]at h4;cases h4
   ·have h3:bx=true:=by simpa using h3
    refine byG ?_;exact⟨μ-1,by omega,k+1,by omega,all_step (p:=fun n:Int=>R.getD n.toNat false) hall hx (hg.trans h3),⟨rfl,rfl,rfl,rfl,trivial⟩,hw⟩
  ·have hkm:¬k<m:=by simpa using h2
   refine byG ?_;refine⟨_,rfl,ret_b rfl ?_,hw.drop.drop.drop⟩
   refine(decP_t fun n hn=>?_).symm
   rw[head_used hs0];obtain⟨i,hi,he⟩:=List.getElem_of_mem hn
   exact(hiff n hn).1 (hall i n (by omega) (by rw[List.getElem?_eq_getElem hi,he]))
noncomputable def validS(H:HwT):Int:=
 if namesB H=false then 63 else if countsB H=false then 15 else if (coresRB H&&regionsRB H)=false then 6 else if alignRB H=false then 59
 else if uniqueB H=false then 56 else if knownB H=false then 57 else if hierB H=false then 73 else if disjB H=false then 7 else if connB H=false then 60 else 0
instance pg_Validate{Γ:Gho}{u:Value}{H:HwT}[hh:HwR Γ u H]:PG Tryz.prog Γ 84 [u] (.int .i64 (validS H)):=⟨fun S w hw=>by
 obtain⟨a1,n1,c1,a2,n2,c2,a3,n3,c3,a4,n4,c4,a5,n5,c5,cs,hu,-⟩:=hh.h;subst hu;refine calls_of_W Tryz.func84 rfl rfl ?_
 refine byG ?_;refine lBox ?_;intro b1 w hw;have hw:Wd Γ (.blk b1 (hwC H a1 n1 c1 a2 n2 c2 a3 n3 c3 a4 n4 c4 a5 n5 c5)::S) w:=hw
 unfold validS;repeat first|refine byW ?_|refine byV ?_;intro w hw
 refine W_cond rfl (fun h=>?_) (fun h=>?_)
 ·rw[if_pos (by simpa using h)]
  refine byG ?_;exact⟨_,rfl,rfl,hw.drop⟩
 rw[if_neg (by simpa using h)]
 clear h;repeat first|refine byW ?_|refine byV ?_;intro w hw
 refine W_cond rfl (fun h=>?_) (fun h=>?_)
 ·rw[if_pos (by simpa using h)]
  refine byG ?_;exact⟨_,rfl,rfl,hw.drop⟩
 have hcnt:countsB H=true:=by simpa using h
 rw[if_neg (by simpa using h)]
 clear h;repeat first|refine byW ?_|refine byV ?_;intro w hw
 refine W_cond rfl (fun h=>?_) (fun h=>?_)
 ·have h:(!coresRB H || !regionsRB H)=true:=h
  rw[if_pos (by revert h;cases coresRB H <;> cases regionsRB H <;> simp)]
  refine byG ?_;exact⟨_,rfl,rfl,hw.drop⟩
 have h:(!coresRB H || !regionsRB H)=false:=h
 rw[←Bool.not_and]at h;have h:(coresRB H&&regionsRB H)=true:=by simpa using h
 rw[if_neg (by rw[h];simp)]
 rw[Bool.and_eq_true]at h;obtain⟨hcr,hrr⟩:=h;repeat first|refine byW ?_|refine byV ?_;intro w hw
 refine W_cond rfl (fun h=>?_) (fun h=>?_)
 ·rw[if_pos (by simpa using h)]
  refine byG ?_;exact⟨_,rfl,rfl,hw.drop⟩
 rw[if_neg (by simpa using h)]
 clear h;refine byG ?_;refine lCall ?_;refine(unique_any hcnt hw).mono ?_
 rintro r w ⟨rfl,hw⟩
 refine⟨_,rfl,?_⟩;refine byG ?_;refine W_cond rfl (fun h=>?_) (fun h=>?_)
 ·rw[if_pos (by simpa using h)]
  refine byG ?_;exact⟨_,rfl,rfl,hw.drop⟩
 rw[if_neg (by simpa using h)]
 clear h;repeat first|refine byW ?_|refine byV ?_;intro w hw
 refine W_cond rfl (fun h=>?_) (fun h=>?_)
 ·rw[if_pos (by simpa using h)]
  refine byG ?_;exact⟨_,rfl,rfl,hw.drop⟩
 rw[if_neg (by simpa using h)]
 clear h;repeat first|refine byW ?_|refine byV ?_;intro w hw
 refine W_cond rfl (fun h=>?_) (fun h=>?_)
 ·rw[if_pos (by simpa using h)]
  refine byG ?_;exact⟨_,rfl,rfl,hw.drop⟩
 rw[if_neg (by simpa using h)]
 clear h;refine byG ?_;refine lCall ?_;refine(disjoint_any hcnt hw).mono ?_
 rintro r w ⟨rfl,hw⟩
 refine⟨_,rfl,?_⟩;refine byG ?_;refine W_cond rfl (fun h=>?_) (fun h=>?_)
 ·rw[if_pos (by simpa using h)]
  refine byG ?_;exact⟨_,rfl,rfl,hw.drop⟩
 rw[if_neg (by simpa using h)]
 clear h;refine byG ?_;refine lCall ?_;refine(connected_any hcnt hcr hrr hw).mono ?_
 rintro r w ⟨rfl,hw⟩
 refine⟨_,rfl,?_⟩;refine byG ?_;refine W_cond rfl (fun h=>?_) (fun h=>?_)
 ·rw[if_pos (by simpa using h)]
  refine byG ?_;exact⟨_,rfl,rfl,hw.drop⟩
 rw[if_neg (by simpa using h)]
 refine byG ?_;exact⟨_,rfl,rfl,hw.drop⟩⟩
theorem eq_of_all{α:Type}{xs ys:List α}{k:Nat}(hl:xs.length=ys.length)(hk:xs.length≤k)(h:∀(i:Nat) (x y:α),i<k→xs[i]? = some x→ys[i]? = some y→x=y):xs=ys:=by
 apply List.ext_getElem?
 intro i;by_cases hi:i<xs.length
 ·obtain⟨x,hx⟩:=get_lt hi
  obtain⟨y,hy⟩:=get_lt (l:=ys) (k:=i) (by omega)
  rw[hx,hy,h i x y (by omega) hx hy]
 ·rw[List.getElem?_eq_none (by omega),List.getElem?_eq_none (by omega)]
theorem eq_step{α:Type}{xs ys:List α}{k:Nat}{x y:α}(h:∀(i:Nat) (x y:α),i<k→xs[i]? = some x→ys[i]? = some y→x=y)(hx:xs[k]? = some x)(hy:ys[k]? = some y)(e:x=y):∀(i:Nat) (x y:α),i<k+1→xs[i]? = some x→ys[i]? = some y→x=y:=fun i a b hi ha hb=>by
 by_cases q:i=k
 ·subst q;rw[hx]at ha;rw[hy]at hb;cases ha;cases hb;exact e
 ·exact h i a b (by omega) ha hb
set_option maxHeartbeats 4000000
abbrev hwZ:List Value:=[.string ⟨#[]⟩,.slice none 0 0,.slice none 0 0,.slice none 0 0,.slice none 0 0,.slice none 0 0]
section
variable {Γ:Gho}{S:List Res}{w:World}{b2 b3 b4:Nat}{h0:Array Value}{p0:PosT}{e0:Int}
end
section
variable {Γ:Gho}{S:List Res}{w:World}
end
set_option maxHeartbeats 8000000
theorem HwOut.freeze{Γ:Gho}{S:List Res}{w:World}{H:HwT}{u:Value}(h:HwOut Γ H S u w)(hsz:HwSz H):∃Γ',Γ.le Γ'∧HwR Γ' u H∧Wd Γ' S w:=by
 obtain⟨v1,v2,v3,v4,v5,cs,hcs,hok,rfl,hw⟩:=h;obtain⟨a1,n1,c1,rfl,-,-,-⟩:=hw.own_shape (i:=0) rfl
 obtain⟨a2,n2,c2,rfl,-,-,-⟩:=hw.own_shape (i:=1) rfl
 obtain⟨a3,n3,c3,rfl,-,-,-⟩:=hw.own_shape (i:=2) rfl
 obtain⟨a4,n4,c4,rfl,-,-,-⟩:=hw.own_shape (i:=3) rfl
 obtain⟨a5,n5,c5,rfl,-,-,-⟩:=hw.own_shape (i:=4) rfl
 obtain⟨Γ1,e1,r1,hw⟩:=hw.freeze;obtain⟨Γ2,e2,r2,hw⟩:=hw.freeze;obtain⟨Γ3,e3,r3,hw⟩:=hw.freeze;obtain⟨Γ4,e4,r4,hw⟩:=hw.freeze;obtain⟨Γ5,e5,r5,hw⟩:=hw.freeze;have f4:=e5
 have f3:=e4.trans f4
 have f2:=e3.trans f3
 have f1:=e2.trans f2
 exact⟨Γ5,e1.trans f1,⟨_,_,_,_,_,_,_,_,_,_,_,_,_,_,_,cs,rfl,hcs,fun c hc=>(hok c hc).mono (e1.trans f1),hsz,r1.mono f1,r2.mono f2,r3.mono f3,r4.mono f4,r5⟩,hw⟩
def hw1:HwT:=⟨⟨#[109]⟩,[⟨0,32,0,1⟩],[],[],[],[]⟩
def hw2:HwT:=⟨⟨#[109]⟩,[⟨0,33,0,1⟩],[],[],[],[]⟩
theorem sz2:HwSz hw2:=by unfold HwSz maxS;decide
end Go.Proofs.YtfoggcgogafocaaGreat
end
section
open Go Mk
open Go.ChangeShapes Go.WideShapes Go.ChangeAt Go.RowKit
namespace Go.Proofs.YtfoggcgogafocaaGreat
theorem own_knob:ownKnob Tryz.prog.godebug=none:=by kernel_rfl
theorem keptBut_wd{W W':World}{S:List Res}(h:Wd (allG W) S W')(may:MemPlace→Prop):W.keptBut W' may:=by
 refine⟨h.os,h.out,fun i hi=>?_⟩
 have h1:W.heap[i]? = some W.heap[i]:=Array.getElem?_eq_getElem hi
 have h2:=h.imm i W.heap[i] h1
 rw[h1,h2];cases W.heap[i] <;> simp
theorem post_wd{H:Type}{enc:TypeId×Value→H}{f:Func}{s:ChangeSpec}{W W':World}{S:List Res}{args:Array Value}{v:Value}{ds gs:List (DataW H)}{before pa pv:List MemPlace}{apart:Bool}
  (hW:DataW.Whole enc Tryz.prog f.params.toList s.vars apart W args.toList ds gs before)
  (hres:∀(b:Nat) (sp:Nat→Bool) (hd:Bool),DataW.TrodAll enc Tryz.prog W' b sp hd f.resultTypes.toList (v.resultList f.resultTypes.size) (s.fn H (ds++gs)).results [])
  (hargs:∀sp:Nat→Bool,(∀p∈before,sp p.block=true)→DataW.TrodAll enc Tryz.prog W' 0 sp true f.params.toList args.toList (s.fn H (ds++gs)).args pa)
  (hvars:∀sp:Nat→Bool,(∀p∈before,sp p.block=true)→DataW.TrodVars enc Tryz.prog W' sp s.vars (s.fn H (ds++gs)).vars pv)
  (hps:before=pa++pv) (hk:Wd (allG W) S W'):s.post enc Tryz.prog f apart true false false W args v W':=by
 have hold:∀p∈before,(fun b=>decide (b<W.heap.size)) p.block=true:=fun p hp=>by simpa using hW.lt p hp
 exact⟨ds,gs,before,[],pa,pv,hW,hres _ _ _,hargs _ hold,hvars _ hold,keptBut_wd hk _,fun h=>by cases h⟩
theorem wd_back{Γ Γ':Gho}{w:World}(hle:Γ.le Γ')(h:Wd Γ' [] w):Wd Γ [] w:=by
 obtain⟨h1,h2,h3,h4,h5,-⟩:=h;exact⟨h1.trans hle.os,h2.trans hle.tape,h3.trans hle.out,by rw[←hle.dr];exact h4,fun b o hb=>h5 b o (hle.imm b o hb),[],trivial,by simp,by simp⟩
section
variable {H:Type}{en:TypeId×Value→H}{W W':World}{base:Nat}{sp:Nat→Bool}{held:Bool}{S:List Res}
theorem flat_inv{sz:Nat}:∀ {rows:List (List Value)},(∀r∈rows,r.length=sz)→∀ {j:Nat} {u:Value},rows.flatten[j]? = some u→∃i r row,rows[i]? = some row∧row[r]? = some u∧j=i*sz+r
 | [],_,j,u,h=>by simp at h
 | a::rows,hl,j,u,h=>by
  rw[List.flatten_cons]at h;by_cases hj:j<a.length
  ·rw[List.getElem?_append_left hj]at h;exact⟨0,j,a,rfl,h,by omega⟩
  ·rw[List.getElem?_append_right (by omega)]at h
   obtain⟨i,r,row,h1,h2,h3⟩:=flat_inv (fun r hr=>hl r (List.mem_cons_of_mem _ hr)) h
   have ha:=hl a (List.mem_cons_self ..)
   refine⟨i+1,r,row,by simpa using h1,h2,?_⟩
   rw[Nat.add_mul,Nat.one_mul];omega
theorem carry_all(hk:Wd (allG W) S W'):∀ {ts:List TypeId} {vs:List Value} {ds:List (DataW H)} {ps:List MemPlace},DataW.TrodAll en Tryz.prog W base sp held ts vs ds ps→(∀p∈ps,p.block<W.heap.size)→DataW.TrodAll en Tryz.prog W' base sp held ts vs ds ps
 | [],[],[],_,h,_=>h
 | _::_,_::_,_::_,_,⟨p,q,⟨n,h1⟩,h2,e⟩,hs=>⟨p,q,⟨n,DataW.trod_carry n _ _ _ h1 fun x hx=>by
   have hb:=hs x (by rw[e];exact List.mem_append_left _ hx)
   cases x with
   | cell b off=>
    have h3:W'.heap[b]? = W.heap[b]?:=by
     have h4:W.heap[b]? = some (W.heap[b]'hb):=Array.getElem?_eq_getElem hb
     rw[h4];exact hk.imm b _ h4
    show W'.cell? _=W.cell? _
    unfold World.cell?
    rw[h3]
   | map b=>
    have h4:W.heap[b]? = some (W.heap[b]'hb):=Array.getElem?_eq_getElem hb
    show W'.heap[b]? = W.heap[b]?
    rw[h4];exact hk.imm b _ h4⟩,carry_all hk h2 (fun x hx=>hs x (by rw[e];exact List.mem_append_right _ hx)),e⟩
end
theorem own_kids:Kids Tryz.prog (· < Tryz.prog.types.size):=kids_rows (by kernel_rfl) (by kernel_rfl)
theorem own_full:∀t e,t<Tryz.prog.types.size→Tryz.prog.underlying t=some (.slice e)→0<Tryz.prog.cellsOf e:=slices_full_of _ (by kernel_rfl)
end Go.Proofs.YtfoggcgogafocaaGreat
end
section
open Go
namespace Mk
section
variable {P:Program}{n:Nat}{opa:Array Oper}{Γ:Gho}{S:List Res}{QQ:Exit→Fr→World→Prop}{K:Value→World→Prop}{ρ:Fr}{w:World}{rest:List Oper}{sz:Nat}{rows:List (List Value)}
variable {d:Option Tmp}{T U ty:TypeId}{pos:String}{es:Array Edge}{g:Option (Nat×Bool)}{x y z:Operand}{v:Value}
theorem field_set{L r:List Value}{p f m sz N:Nat}(hp:p+sz≤N)(hN:N≤L.length)(hr:r.length=m)(hfm:f+m≤sz) :
  (L.take (p+f)++r++L.drop (p+f+r.length)).take N=(L.take N).take p++(((L.drop p).take sz).take f++r++((L.drop p).take sz).drop (f+m))++(L.take N).drop (p+sz):=by
 refine List.ext_getElem? fun i=>?_
 simp only[List.getElem?_append,List.getElem?_take,List.getElem?_drop,List.length_append,List.length_take,List.length_drop,hr]
 repeat' split
 all_goals first|omega|rfl|(congr 1;omega)|skip
theorem s_storeEf{E k f m i n c:Nat}{a:Option Addr}{v:Value}{r row:List Value}(hn:(P.info? T).map (·.size)=some m)(hw:Wd Γ S w)(hx:ev ρ x=.pointer (some ⟨aB a,aO a+k*sz+f,none⟩))(hy:ev ρ y=v)(hv:v.cells.toList=r)(hl:r.length=m)
  (h1:r.all (·.oneCell')=true) (hi:S[i]? = some (.own (.slice a n c) E sz rows)) (hkl:k<n) (hrow:rows[k]? = some row) (hfm:f+m≤sz) (hk:∀w',Wd Γ (S.set i (.own (.slice a n c) E sz (rows.set k (row.take f++r++row.drop (f+m))))) w'→K undef w'):Step P ⟨d,.store T x y,ty,pos,es,g⟩ ρ w K:=by
 obtain⟨bs0,hr0⟩:=hw.own_holds hi
 unfold Res.own at hr0;obtain⟨q0,a',n',c',e1,e2,e3,e4,e5⟩:=hr0;cases e1
 rcases e5 with⟨hc,_⟩|⟨b,cur,g1,g2,g3,g4,g5⟩
 ·omega
 ·subst g1;have hrl:row.length=sz:=q0 row (List.mem_of_getElem? hrow)
  have hnew:(row.take f++r++row.drop (f+m)).length=sz:=by simp[hl,hrl];omega
  have hx':ev ρ x=.pointer (some ⟨b,k*sz+f,none⟩):=by rw[hx];simp[aB,aO]
  have hks:k*sz+sz≤cur.size:=by
   rw[g4,show k*sz+sz=(k+1)*sz from by rw[Nat.add_mul];omega];exact Nat.mul_le_mul_right _ (by omega)
  have hfit:k*sz+f+0+r.length≤cur.size:=by rw[hl];omega
  have hst:=run_storeCells_at P b (k*sz+f) E r 0 cur w g3 hfit (fun u hu=>(List.all_eq_true.1 h1) u hu)
  simp only[Nat.add_zero]at hst
  have hsz:v.cells.size=m:=by rw[←hl,←hv];simp
  have hr:(execOp (ev ρ) ⟨d,.store T x y,ty,pos,es,g⟩).run P w=.ok .skip (w.setRow b (cur.toList.take (k*sz+f)++r++cur.toList.drop (k*sz+f+r.length)).toArray):=by
   cases hq:P.info? T with
   | none=>simp[hq]at hn
   | some q=>
    have hs:q.size=m:=by simpa[hq] using hn
    have hz:(Go.sizeOf T).run P w=.ok m w:=by simp[Go.sizeOf,typeInfo,hq,hs]
    have hsv:(storeVar T ⟨b,k*sz+f,none⟩ v).run P w=.ok () (w.setRow b (cur.toList.take (k*sz+f)++r++cur.toList.drop (k*sz+f+r.length)).toArray):=by
     unfold storeVar;rw[Sem.run_bind,hz];simp only[Result.andThen_ok,hsz,ne_eq,not_true_eq_false,if_false,hv]
     exact hst
    simp only[execOp,hx',hy,Instr.storeAt,Instr.sureAddr,Sem.run_bind,Sem.run_pure,Result.andThen_ok,hsv]
  have hfin:=hk _ (hw.upd hi (w':=w.setRow b (cur.toList.take (k*sz+f)++r++cur.toList.drop (k*sz+f+r.length)).toArray) ⟨rfl,rfl,rfl,(by first|exact Nat.le_refl _|exact Nat.le_succ _),by simp⟩ fun bs hr' hnd hlt=>by
   unfold Res.own at hr' ⊢
   obtain⟨q0',a2,n2,c2,f1,f2,f3,f4,f5⟩:=hr';cases f1
   rcases f5 with⟨hc,_⟩|⟨b2,cur2,k1,k2,k3,k4,k5⟩
   ·omega
   ·cases k1
    rw[show hp w b=some (.cells cur E (0,0)) from g3]at k3;cases k3
    refine⟨bs,⟨?_,_,_,_,rfl,by simpa using f2,f3,f4,.inr ⟨b,_,rfl,k2,setRow_heap w b cur _ E _ g3,?_,?_⟩⟩,hnd,fun x hx=>⟨by have:=hlt x hx;simpa using this,.inl hx⟩,fun k' _ hne=>setRow_other w b k' _ (fun e=>hne (by simp[k2,e]))⟩
    ·intro r' hr';rcases List.mem_or_eq_of_mem_set hr' with h|rfl
     ·exact q0 r' h
     ·exact hnew
    ·simp only[List.size_toArray,List.length_append,List.length_take,List.length_drop,Array.length_toList];omega
    ·have hkn:k*sz+sz≤n*sz:=by rw[show k*sz+sz=(k+1)*sz from by rw[Nat.add_mul];omega];exact Nat.mul_le_mul_right _ (by omega)
     have hns:n*sz≤cur.toList.length:=by rw[Array.length_toList,g4];exact Nat.mul_le_mul_right _ e3
     have e0:=rows_set_flatten (k:=k) (r:=row) q0 hrl (by omega)
     have e9:rows.set k row=rows:=by
      refine List.ext_getElem? fun i=>?_
      rw[List.getElem?_set];split
      ·rename_i h;subst h;rw[hrow];simp;omega
      ·rfl
     rw[e9]at e0;rw[rows_set_flatten q0 hnew (by omega),←g5]
     have hrw:row=(cur.toList.drop (k*sz)).take sz:=by
      have:row=((cur.toList.take (n*sz)).drop (k*sz)).take sz:=by
       rw[g5,e0,List.append_assoc,List.drop_append_of_le_length (by rw[List.length_take,←g5,List.length_take];omega)]
       have:((rows.flatten.take (k*sz)).drop (k*sz))=[]:=by rw[List.drop_eq_nil_iff,List.length_take];omega
       rw[this,List.nil_append,List.take_append_of_le_length (by omega),List.take_of_length_le (by omega)]
      rw[this,List.drop_take,List.take_take,Nat.min_eq_left (by omega)]
     rw[hrw];exact field_set hkn hns hl hfm
    )
  unfold Step;rw[hr];exact hfin
theorem lStoreEf{E k f i m mm c sz:Nat}{a:Option Addr}{r row:List Value}{rows:List (List Value)}[hn:TSz P T m](h:∀w',Wd Γ (S.set i (.own (.slice a mm c) E sz (rows.set k (row.take f++r++row.drop (f+m))))) w'→L P n opa QQ rest ρ w')(hrow:rows[k]? = some row)(hw:Wd Γ S w:=by exact hw)(hx:ev ρ x=.pointer (some ⟨aB a,aO a+k*sz+f,none⟩):=by exact rfl)
  (hy:ev ρ y=v:=by exact byMV) (hv:v.cells.toList=r:=by exact rfl) (hl:r.length=m:=by exact rfl) (h1:r.all (·.oneCell')=true:=by exact rfl) (hi:S[i]? = some (.own (.slice a mm c) E sz rows):=by exact byIX) (hk:k<mm:=by omega) (hfm:f+m≤sz:=by omega) :
  L P n opa QQ (⟨none,.store T x y,ty,pos,es,none⟩::rest) ρ w:=L_step rfl rfl (s_storeEf hn.h hw hx hy hv hl h1 hi hk hrow hfm h)
end
attribute [local irreducible] Calls
theorem W_cutB{P:Program}{n id:Nat}{c:Code}{K:Fr→World→Prop}{Q:Exit→Fr→World→Prop}{ρ:Fr}{w:World}(I:Fr→World→Prop)(h1:W P n c (InBl id (Then I Q)) ρ w)(h2:∀ρ w,I ρ w→K ρ w):W P n c (InBl id (Then K Q)) ρ w:=
 h1.mono fun e ρ w h=>by
  cases e with
  | normal=>exact h2 ρ w h
  | exit i=>
   simp only[InBl]at h ⊢
   split <;> rename_i hi <;> simp only[hi,if_true,if_false]at h
   ·exact h2 ρ w h
   ·exact h
  | _=>exact h
theorem W_cutT{P:Program}{n:Nat}{c:Code}{K:Fr→World→Prop}{Q:Exit→Fr→World→Prop}{ρ:Fr}{w:World}(I:Fr→World→Prop)(h1:W P n c (Then I Q) ρ w)(h2:∀ρ w,I ρ w→K ρ w):W P n c (Then K Q) ρ w:=
 h1.mono fun e ρ w h=>by
  cases e with
  | normal=>exact h2 ρ w h
  | _=>exact h
section
variable {P:Program}{n:Nat}{ops:List Oper}{Γ:Gho}{K:List Res}{wr tc stab:List (List Nat)}{Q:Fr→World→Prop}{i:Nat}{rest:List Oper}{ρ:Fr}{w:World}{M:Nat→Fr→List Res}{v:Value}{T T':Type}{o:Oper}
variable {ty:TypeId}{pos:String}{es:Array Edge}
theorem ml1{a b d:Fr→List Res}:ML [a,b,d] 1=b:=rfl
theorem ml2{a b d:Fr→List Res}:ML [a,b,d] 2=d:=rfl
theorem mS{c:Nat}{F:Fr→List Res}(F':Fr→List Res)
  (hs:∀g w Y,Wd Γ (F (ovr (stab.getD c []) g noFr)++(K++Y)) w→Step P o (ovr stab.flatten g ρ) w fun u w'=>(freeD stab o.dst=false→u=v)∧Wd Γ (F' (ovr (stab.getD c []) (putO g o.dst u) noFr)++(K++Y)) w')
  (h:MSw (mV P n ops Γ K wr tc stab) Q (i+1) rest ⟨putO ρ o.dst v,setC M c F'⟩) (hM:M c=F:=by first|exact setC_self|exact ml1|exact ml2|exact((setC_other (by decide)).trans setC_self)|exact((setC_other (by decide)).trans ml2)|exact((setC_other (by decide)).trans ((setC_other (by decide)).trans ml2))|exact((setC_other (by decide)).trans ((setC_other (by decide)).trans ((setC_other (by decide)).trans ml2)))|exact((setC_other (by decide)).trans ((setC_other (by decide)).trans setC_self))|exact rfl) (hw0:wr.getD i []=[c]:=by exact rfl) (ht:tc.getD i []=[c]:=by exact rfl) (hg:o.guard=none:=by exact rfl) :
  MSw (mV P n ops Γ K wr tc stab) Q i (o::rest) ⟨ρ,M⟩:=by
 refine mM _ (fun Y w g hw=>?_) h hw0 hg
 rw[cells1 ht,hM]at hw;refine(hs g w Y hw.swapApp).mono ?_
 rintro u w' ⟨h2,h3⟩
 refine⟨?_,h2⟩
 rw[cells1 ht,setC_self];exact h3.swapApp
end
class PS(P:Program)(Γ:Gho)(S:List Res)(f:Nat)(args:List Value)(v:outParam Value):Prop where
 h:∀Y w,Wd Γ (S++Y) w→Calls P f args.toArray w fun e w'=>e=.returned v∧Wd Γ (S++Y) w'
section
variable {P:Program}{n:Nat}{ops:List Oper}{opa:Array Oper}{Γ:Gho}{S K:List Res}{Q:Fr→World→Prop}{QQ:Exit→Fr→World→Prop}{ρ:Fr}{w:World}{rest:List Oper}{wr tc stab:List (List Nat)}{i:Nat}{M:Nat→Fr→List Res}
variable {d:Option Tmp}{ty:TypeId}{pos:String}{es:Array Edge}{v:Value}{f:Nat}{args:List Operand}{tys:Array TypeId}{vs:List Value}{j dj:Nat}{want c:Bool}{g:Option (Nat×Bool)}
end
theorem made_rows{zs:List Value}{sz:Nat}(hz:zs.length=sz)(h0:0<sz):∀n:Nat,(madeCells zs.toArray (n*sz)).toList=(List.replicate n zs).flatten:=fun n=>by
 unfold madeCells;simp only[Array.toList_map,Array.toList_range,List.size_toArray,hz]
 have hf:∀i:Nat,zs.toArray[i%sz]! = zs.getD (i%sz) undef:=fun i=>by
  have hlt:i%sz<zs.length:=by rw[hz];exact Nat.mod_lt _ h0
  rw[getElem!_pos (zs.toArray) _ (by simpa using hlt)]
  simp[List.getD_eq_getElem?_getD,List.getElem?_eq_getElem hlt]
 simp only[hf]
 induction n with
 | zero=>simp
 | succ n ih=>
  rw[show (n+1)*sz=sz+n*sz from by rw[Nat.add_mul];omega,List.range_add,List.map_append,List.map_map,List.replicate_succ,List.flatten_cons,←ih]
  congr 1
  ·refine List.ext_getElem? fun i=>?_
   rw[List.getElem?_map];by_cases hi:i<sz
   ·rw[List.getElem?_range hi];simp only[Option.map_some,Nat.mod_eq_of_lt hi]
    rw[List.getD_eq_getElem?_getD,List.getElem?_eq_getElem (by omega)];rfl
   ·rw[List.getElem?_eq_none (by simpa using hi),List.getElem?_eq_none (by omega)];rfl
  ·refine List.map_congr_left fun i _=>?_
   simp
section
variable {P:Program}{n:Nat}{opa:Array Oper}{Γ:Gho}{S:List Res}{QQ:Exit→Fr→World→Prop}{ρ:Fr}{w:World}{rest:List Oper}{K:Value→World→Prop}
variable {d:Option Tmp}{T ty:TypeId}{pos:String}{es:Array Edge}{g:Option (Nat×Bool)}{x y:Operand}
theorem s_makeSlice{E by' len sz:Nat}{zs:List Value}[hT:TL P T E sz by' zs](hw:Wd Γ S w)(hx:ev ρ x=.int .i64 (len:Nat))(hy:ev ρ y=.int .i64 (len:Nat))(hb:(by':Int)*len≤281474976710656)(h63:(len:Int)≤9223372036854775807)
  (hk:∀a w',Wd Γ (.own (.slice (some a) len len) E sz (List.replicate len zs)::S) w'→K (.slice (some a) len len) w'):Step P ⟨d,.makeSlice T x y,ty,pos,es,g⟩ ρ w K:=by
 obtain⟨q,z,hq,hz,hzc⟩:=zeroOf_info hT.z
 obtain⟨q',hq',hs,hb'⟩:=sizeBytes_info hT.s
 rw[hq]at hq';cases hq'
 have hrun:=run_make (P:=P) w T E q z hT.h hq hz .i64 .i64 (len:Int) (len:Int) (by omega) (Int.le_refl _) (by rw[hb'];exact hb) h63
 rw[hzc,hs]at hrun;have hr0:(execOp (ev ρ) ⟨d,.makeSlice T x y,ty,pos,es,g⟩).run P w=.ok (.value (.slice (some ⟨w.heap.size,0,none⟩) len len)) (w.alloc (.cells (madeCells zs.toArray (len*sz)) E)):=by
  simp only[execOp,hx,hy,Sem.run_bind,hrun,Result.andThen_ok,Int.toNat_natCast]
  rfl
 have hrows:=made_rows hT.n.1 hT.n.2 len
 have hfin:=hk ⟨w.heap.size,0,none⟩ (w.alloc (.cells (madeCells zs.toArray (len*sz)) E)) (hw.add (bs:=[w.heap.size]) ⟨rfl,rfl,rfl,(by first|exact Nat.le_refl _|exact Nat.le_succ _),by simp⟩ (by
  unfold Res.own;refine⟨fun r hr=>by rw[List.eq_of_mem_replicate hr];exact hT.n.1,_,_,_,rfl,(by simp),Nat.le_refl _,by simp[maxLen];omega,.inr ⟨w.heap.size,madeCells zs.toArray (len*sz),rfl,rfl,heap_alloc_new w _,size_madeCells _ _,?_⟩⟩
  rw[hrows,List.take_of_length_le];rw[←hrows,Array.length_toList,size_madeCells];exact Nat.le_refl _) (by simp) (by simp) fun k hk=>heap_alloc_old w _ hk)
 unfold Step;rw[hr0];exact hfin
theorem lMakeSlice{E by' len sz:Nat}{zs:List Value}[hT:TL P T E sz by' zs](h:∀a w',Wd Γ (.own (.slice (some a) len len) E sz (List.replicate len zs)::S) w'→L P n opa QQ rest (putO ρ d (.slice (some a) len len)) w')
  (hw:Wd Γ S w:=by exact hw) (hx:ev ρ x=.int .i64 (len:Nat):=by exact rfl) (hy:ev ρ y=.int .i64 (len:Nat):=by exact rfl) (hb:(by':Int)*len≤281474976710656:=by omega) (h63:(len:Int)≤9223372036854775807:=by omega) (hd:okDst n d=true:=by exact rfl) :
  L P n opa QQ (⟨d,.makeSlice T x y,ty,pos,es,none⟩::rest) ρ w:=L_step rfl hd (s_makeSlice hw hx hy hb h63 h)
end
end Mk
end
section
open Go Mk
namespace Go.Proofs.YtfoggcgogafocaaGreat
set_option maxHeartbeats 16000000
attribute [local irreducible] Calls
class HwQ(Γ:Gho)(u:Value)(H:outParam HwT):Prop where
 h:∃(a1:Option Addr) (n1 c1:Nat) (a2:Option Addr) (n2 c2:Nat) (a3:Option Addr) (n3 c3:Nat) (a4:Option Addr) (n4 c4:Nat) (a5:Option Addr) (n5 c5:Nat) (cs:List CacheH),
  u=.agg #[.string H.Name,.slice a1 n1 c1,.slice a2 n2 c2,.slice a3 n3 c3,.slice a4 n4 c4,.slice a5 n5 c5]∧cs.map CacheH.T=H.Caches∧(∀c∈cs,COk Γ c) ∧
  RepS Γ (.slice a1 n1 c1) 4 (H.Cores.map enc)∧RepS Γ (.slice a2 n2 c2) 5 (cs.map cC)∧RepS Γ (.slice a3 n3 c3) 3 (H.Links.map enc)∧RepS Γ (.slice a4 n4 c4) 5 (H.Mems.map enc)∧RepS Γ (.slice a5 n5 c5) 5 (H.Devs.map enc)
instance hwq_r{Γ:Gho}{u:Value}{H:HwT}[hh:HwR Γ u H]:HwQ Γ u H:=by
 obtain⟨a1,n1,c1,a2,n2,c2,a3,n3,c3,a4,n4,c4,a5,n5,c5,cs,h1,h2,h3,-,r⟩:=hh.h;exact⟨a1,n1,c1,a2,n2,c2,a3,n3,c3,a4,n4,c4,a5,n5,c5,cs,h1,h2,h3,r⟩
instance pg_SameInts{Γ:Gho}{v v2:Value}{xs ys:List Int}[hr:SlC Γ v 1 (intRows xs)][hr2:SlC Γ v2 1 (intRows ys)]:PG Tryz.prog Γ 20 [v,v2] (.bool (decide (xs=ys))):=⟨fun S w hw=>by
 have hr:=hr.h
 have hr2:=hr2.h
 obtain⟨a,n,c,rfl,hn,hnc,hc⟩:=hr.shape;obtain⟨a',n',c',rfl,hn',hnc',hc'⟩:=hr2.shape;simp only[intRows,List.length_map]at hn hn'
 refine calls_of_W Tryz.func20 rfl rfl ?_
 refine byG ?_;refine W_cond rfl (fun h=>?_) (fun h=>?_)
 ·have h:n≠n':=by simp at h;omega
  refine byG ?_;exact⟨_,rfl,ret_b rfl (decide_eq_false fun e=>h (by rw[hn,hn',e])).symm,hw⟩
 have h:n=n':=by simp at h;omega
 refine byG ?_;refine W_loop (fun μ ρ w=>∃(k:Nat),μ+k=n∧Has ρ [(0,.slice a n c),(1,.slice a' n' c'),(5,.int .i64 k)]∧(∀(i:Nat) (x y:Int),i<k→xs[i]? = some x→ys[i]? = some y→x=y)∧Wd Γ S w) n ⟨0,by omega,⟨rfl,rfl,rfl,trivial⟩,fun i x y hi=>absurd hi (Nat.not_lt_zero i),hw⟩ ?_
 clear hw;rintro μ ρ w ⟨k,hk,hρ,hall,hw⟩
 rw[hρ.eq];refine byG ?_;refine W_cond rfl (fun h2=>?_) (fun h2=>?_)
 ·have hkn:k<n:=by simpa using h2
  obtain⟨x,hx⟩:=get_lt (l:=xs) (k:=k) (by omega)
  obtain⟨y,hy⟩:=get_lt (l:=ys) (k:=k) (by omega)
  refine byG ?_;refine W_quiet (by kernel_rfl) (by kernel_rfl) hw ?_
  refine byQ ?_;intro w hw;refine W_cond rfl (fun h3=>?_) (fun h3=>?_)
  ·have h3:x≠y:=of_decide_eq_true h3
   refine byG ?_;exact⟨_,rfl,ret_b rfl (decide_eq_false fun e=>h3 (by subst e;rw[hx]at hy;cases hy;rfl)).symm,hw⟩
  ·have h3:x=y:=Classical.not_not.1 (of_decide_eq_false h3)
   refine byG ?_;exact⟨μ-1,by omega,k+1,by omega,⟨rfl,rfl,rfl,trivial⟩,eq_step hall hx hy h3,hw⟩
 ·have hkn:¬k<n:=by simpa using h2
  refine byG ?_;exact⟨_,rfl,ret_b rfl (decide_eq_true (eq_of_all (by omega) (by omega) hall)).symm,hw⟩⟩
theorem cacheT_eq{x y:CacheT}(a:x.Name=y.Name)(b:x.Level=y.Level)(c:x.Line=y.Line)(d:x.Size=y.Size)(e:x.Cores=y.Cores):x=y:=by
 cases x;cases y
 simp only[CacheT.mk.injEq]
 exact⟨a,b,c,d,e⟩
instance pg_REqual{Γ:Gho}{u u':Value}{H G:HwT}[hh:HwQ Γ u H][hg:HwQ Γ u' G]:PG Tryz.prog Γ 22 [u,u'] (.bool (decide (H=G))):=⟨fun S w hw=>by
 obtain⟨a1,n1,c1,a2,n2,c2,a3,n3,c3,a4,n4,c4,a5,n5,c5,cs,rfl,hcs,hok,r1,r2,r3,r4,r5⟩:=hh.h;obtain⟨A1,N1,C1,A2,N2,C2,A3,N3,C3,A4,N4,C4,A5,N5,C5,cs',rfl,hcs',hok',R1,R2,R3,R4,R5⟩:=hg.h;obtain⟨hn1,hm1,hx1⟩:=rep_facts r1
 obtain⟨HN1,HM1,HX1⟩:=rep_facts R1
 obtain⟨hn2,hm2,hx2⟩:=rep_facts r2
 obtain⟨HN2,HM2,HX2⟩:=rep_facts R2
 obtain⟨hn3,hm3,hx3⟩:=rep_facts r3
 obtain⟨HN3,HM3,HX3⟩:=rep_facts R3
 obtain⟨hn4,hm4,hx4⟩:=rep_facts r4
 obtain⟨HN4,HM4,HX4⟩:=rep_facts R4
 obtain⟨hn5,hm5,hx5⟩:=rep_facts r5
 obtain⟨HN5,HM5,HX5⟩:=rep_facts R5
 simp only[List.length_map]at hn1 hn2 hn3 hn4 hn5 HN1 HN2 HN3 HN4 HN5
 refine calls_of_W Tryz.func22 rfl rfl ?_
 repeat first|refine byW ?_|refine byV ?_;intro w hw
 refine lBox ?_;intro b2 w hw;refine lBox ?_;intro b3 w hw;have hw:Wd Γ (.blk b3 (.cells #[.string G.Name,.slice A1 N1 C1,.slice A2 N2 C2,.slice A3 N3 C3,.slice A4 N4 C4,.slice A5 N5 C5] 30)::.blk b2 (.cells #[.string H.Name,.slice a1 n1 c1,.slice a2 n2 c2,.slice a3 n3 c3,.slice a4 n4 c4,.slice a5 n5 c5] 30)::S) w:=hw
 repeat first|refine byW ?_|refine byV ?_;intro w hw
 refine W_cond rfl (fun h=>?_) (fun h=>?_)
 ·have hne:¬H=G:=fun e=>by
   subst e;have q:(((((decide (H.Name≠H.Name)||decide ((n1:Int)≠N1))||decide ((n2:Int)≠N2))||decide ((n3:Int)≠N3))||decide ((n4:Int)≠N4))||decide ((n5:Int)≠N5))=true:=h
   have q2:cs.length=cs'.length:=by have:=congrArg List.length (hcs.trans hcs'.symm);simpa using this
   simp only[Bool.or_eq_true,decide_eq_true_eq]at q
   rcases q with ((((q|q)|q)|q)|q)|q
   ·exact q rfl
   all_goals exact q (by omega)
  repeat first|refine byW ?_|refine byV ?_;intro w hw
  exact⟨_,rfl,ret_b rfl (decide_eq_false hne).symm,hw.drop.drop⟩
 have hq:(((((decide (H.Name≠G.Name)||decide ((n1:Int)≠N1))||decide ((n2:Int)≠N2))||decide ((n3:Int)≠N3))||decide ((n4:Int)≠N4))||decide ((n5:Int)≠N5))=false:=h
 simp only[Bool.or_eq_false_iff,decide_eq_false_iff_not,Classical.not_not]at hq
 obtain⟨⟨⟨⟨⟨q0,q1⟩,q2⟩,q3⟩,q4⟩,q5⟩:=hq;clear h;repeat first|refine byW ?_|refine byV ?_;intro w hw
 refine W_cutB (fun ρ w=>H.Cores=G.Cores∧Has ρ [(2,.pointer (some ⟨b2,0,none⟩)),(3,.pointer (some ⟨b3,0,none⟩))]∧Wd Γ (.blk b3 (.cells #[.string G.Name,.slice A1 N1 C1,.slice A2 N2 C2,.slice A3 N3 C3,.slice A4 N4 C4,.slice A5 N5 C5] 30)::.blk b2 (.cells #[.string H.Name,.slice a1 n1 c1,.slice a2 n2 c2,.slice a3 n3 c3,.slice a4 n4 c4,.slice a5 n5 c5] 30)::S) w) ?_ ?_
 ·refine W_loop (fun μ ρ w=>∃(k:Nat),μ+k=n1∧Has ρ [(2,.pointer (some ⟨b2,0,none⟩)),(3,.pointer (some ⟨b3,0,none⟩)),(5,.int .i64 k)]∧(∀(i:Nat) (x y:CoreT),i<k→H.Cores[i]? = some x→G.Cores[i]? = some y→x=y)∧Wd Γ (.blk b3 (.cells #[.string G.Name,.slice A1 N1 C1,.slice A2 N2 C2,.slice A3 N3 C3,.slice A4 N4 C4,.slice A5 N5 C5] 30)::.blk b2 (.cells #[.string H.Name,.slice a1 n1 c1,.slice a2 n2 c2,.slice a3 n3 c3,.slice a4 n4 c4,.slice a5 n5 c5] 30)::S) w) n1 ⟨0,by omega,⟨rfl,rfl,rfl,trivial⟩,fun i x y hi=>absurd hi (Nat.not_lt_zero i),hw⟩ ?_
  clear hw;rintro μ ρ w ⟨k,hk,hρ,hall,hw⟩
  rw[hρ.eq];repeat first|refine byW ?_|refine byV ?_;intro w hw
  refine W_cond rfl (fun h2=>?_) (fun h2=>?_)
  ·have hkn:k<n1:=by simpa using h2
   obtain⟨x,hx⟩:=get_lt (l:=H.Cores) (k:=k) (by omega)
   obtain⟨y,hy⟩:=get_lt (l:=G.Cores) (k:=k) (by omega)
   repeat first|refine byW ?_|refine byV ?_;intro w hw
   refine W_quiet (by kernel_rfl) (by kernel_rfl) hw ?_
   refine byQ ?_;intro w hw;refine W_cond rfl (fun h3=>?_) (fun h3=>?_)
   ·have h3:x≠y:=of_decide_eq_true h3
    repeat first|refine byW ?_|refine byV ?_;intro w hw
    exact⟨_,rfl,ret_b rfl (decide_eq_false fun e=>h3 (by subst e;rw[hx]at hy;cases hy;rfl)).symm,hw.drop.drop⟩
   ·have h3:x=y:=Classical.not_not.1 (of_decide_eq_false h3)
    repeat first|refine byW ?_|refine byV ?_;intro w hw
    exact⟨μ-1,by omega,k+1,by omega,⟨rfl,rfl,rfl,trivial⟩,eq_step hall hx hy h3,hw⟩
  ·have hkn:¬k<n1:=by simpa using h2
   repeat first|refine byW ?_|refine byV ?_;intro w hw
   exact⟨eq_of_all (by omega) (by omega) hall,⟨rfl,rfl,trivial⟩,hw⟩
 clear hw;rintro ρ w ⟨e1,hρ,hw⟩
 rw[hρ.eq];clear hρ;repeat first|refine byW ?_|refine byV ?_;intro w hw
 refine W_cutB (fun ρ w=>H.Caches=G.Caches∧Has ρ [(2,.pointer (some ⟨b2,0,none⟩)),(3,.pointer (some ⟨b3,0,none⟩))]∧Wd Γ (.blk b3 (.cells #[.string G.Name,.slice A1 N1 C1,.slice A2 N2 C2,.slice A3 N3 C3,.slice A4 N4 C4,.slice A5 N5 C5] 30)::.blk b2 (.cells #[.string H.Name,.slice a1 n1 c1,.slice a2 n2 c2,.slice a3 n3 c3,.slice a4 n4 c4,.slice a5 n5 c5] 30)::S) w) ?_ ?_
 ·refine W_loop (fun μ ρ w=>∃(k:Nat),μ+k=n2∧Has ρ [(2,.pointer (some ⟨b2,0,none⟩)),(3,.pointer (some ⟨b3,0,none⟩)),(6,.int .i64 k)]∧(∀(i:Nat) (x y:CacheT),i<k→(cs.map CacheH.T)[i]? = some x→(cs'.map CacheH.T)[i]? = some y→x=y)∧Wd Γ (.blk b3 (.cells #[.string G.Name,.slice A1 N1 C1,.slice A2 N2 C2,.slice A3 N3 C3,.slice A4 N4 C4,.slice A5 N5 C5] 30)::.blk b2 (.cells #[.string H.Name,.slice a1 n1 c1,.slice a2 n2 c2,.slice a3 n3 c3,.slice a4 n4 c4,.slice a5 n5 c5] 30)::S) w) n2 ⟨0,by omega,⟨rfl,rfl,rfl,trivial⟩,fun i x y hi=>absurd hi (Nat.not_lt_zero i),hw⟩ ?_
  clear hw;rintro μ ρ w ⟨k,hk,hρ,hall,hw⟩
  rw[hρ.eq];repeat first|refine byW ?_|refine byV ?_;intro w hw
  refine W_cond rfl (fun h2=>?_) (fun h2=>?_)
  ·have hkn:k<n2:=by simpa using h2
   obtain⟨x,hx⟩:=get_lt (l:=cs) (k:=k) (by omega)
   obtain⟨y,hy⟩:=get_lt (l:=cs') (k:=k) (by omega)
   have hx2:(cs.map CacheH.T)[k]? = some x.T:=by simp[hx]
   have hy2:(cs'.map CacheH.T)[k]? = some y.T:=by simp[hy]
   haveI:SlC Γ (.slice x.A x.N x.C) 1 (intRows x.Cores):=⟨hok x (List.mem_of_getElem? hx)⟩
   haveI:SlC Γ (.slice y.A y.N y.C) 1 (intRows y.Cores):=⟨hok' y (List.mem_of_getElem? hy)⟩
   repeat first|refine byW ?_|refine byV ?_;intro w hw
   refine W_mixed [.blk b3 (.cells #[.string G.Name,.slice A1 N1 C1,.slice A2 N2 C2,.slice A3 N3 C3,.slice A4 N4 C4,.slice A5 N5 C5] 30),.blk b2 (.cells #[.string H.Name,.slice a1 n1 c1,.slice a2 n2 c2,.slice a3 n3 c3,.slice a4 n4 c4,.slice a5 n5 c5] 30)] [fun _=>[],fun _=>[],fun _=>S] [[],[],[],[],[],[],[],[],[],[],[0],[1],[0],[1]] [[],[],[],[],[],[],[],[],[],[],[0],[1],[0],[1]] [[7],[8],[]] (by have:=hw;simpa[List.range,List.range.loop,ML] using this) ?_
   refine byM ?_;refine mAlloc ?_
   refine mAlloc ?_
   refine mStoreAt ?_
   refine mStoreAt ?_
   refine mEnd fun w g hw=>?_
   have hw:Wd Γ (.blk b3 (.cells #[.string G.Name,.slice A1 N1 C1,.slice A2 N2 C2,.slice A3 N3 C3,.slice A4 N4 C4,.slice A5 N5 C5] 30)::.blk b2 (.cells #[.string H.Name,.slice a1 n1 c1,.slice a2 n2 c2,.slice a3 n3 c3,.slice a4 n4 c4,.slice a5 n5 c5] 30)::atP (g 7) _::atP (g 8) _::(S++[])) w:=hw
   rw[List.append_nil]at hw;obtain⟨b7,hg7,hw⟩:=(Wd.ps [2] hw).openAt
   have hw:Wd Γ (.blk b7 (.cells (cC x).toArray 89)::.blk b3 (.cells #[.string G.Name,.slice A1 N1 C1,.slice A2 N2 C2,.slice A3 N3 C3,.slice A4 N4 C4,.slice A5 N5 C5] 30)::.blk b2 (.cells #[.string H.Name,.slice a1 n1 c1,.slice a2 n2 c2,.slice a3 n3 c3,.slice a4 n4 c4,.slice a5 n5 c5] 30)::atP (g 8) _::S) w:=hw
   obtain⟨b8,hg8,hw⟩:=(Wd.ps [3] hw).openAt
   have hw:Wd Γ (.blk b8 (.cells (cC y).toArray 89)::.blk b7 (.cells (cC x).toArray 89)::.blk b3 (.cells #[.string G.Name,.slice A1 N1 C1,.slice A2 N2 C2,.slice A3 N3 C3,.slice A4 N4 C4,.slice A5 N5 C5] 30)::.blk b2 (.cells #[.string H.Name,.slice a1 n1 c1,.slice a2 n2 c2,.slice a3 n3 c3,.slice a4 n4 c4,.slice a5 n5 c5] 30)::S) w:=hw
   refine W_has (l:=[(2,.pointer (some ⟨b2,0,none⟩)),(3,.pointer (some ⟨b3,0,none⟩)),(6,.int .i64 k),(7,.pointer (some ⟨b7,0,none⟩)),(8,.pointer (some ⟨b8,0,none⟩))]) ⟨rfl,rfl,rfl,hg7,hg8,trivial⟩ fun ρ' hρ'=>?_
   clear hg7 hg8;rw[hρ'.eq];clear hρ';repeat first|refine byW ?_|refine byV ?_;intro w hw
   refine W_cond rfl (fun h3=>?_) (fun h3=>?_)
   ·have h3:x.T≠y.T:=fun e=>by
     have q:((((decide (x.T.Name≠y.T.Name)||decide (x.T.Level≠y.T.Level))||decide (x.T.Line≠y.T.Line))||decide (x.T.Size≠y.T.Size)) || !decide (x.T.Cores=y.T.Cores))=true:=h3
     rw[e]at q;simp at q
    repeat first|refine byW ?_|refine byV ?_;intro w hw
    exact⟨_,rfl,ret_b rfl (decide_eq_false fun e=>h3 (by have e2:=congrArg HwT.Caches e;rw[←hcs,←hcs']at e2;rw[e2,hy2]at hx2;exact(Option.some.inj hx2).symm)).symm,hw.drop.drop.drop.drop⟩
   ·have h3:x.T=y.T:=by
     have q:((((decide (x.T.Name≠y.T.Name)||decide (x.T.Level≠y.T.Level))||decide (x.T.Line≠y.T.Line))||decide (x.T.Size≠y.T.Size)) || !decide (x.T.Cores=y.T.Cores))=false:=h3
     simp only[Bool.or_eq_false_iff,decide_eq_false_iff_not,Classical.not_not,Bool.not_eq_false',decide_eq_true_eq]at q
     obtain⟨⟨⟨⟨a,b⟩,c⟩,d⟩,e⟩:=q;exact cacheT_eq a b c d e
    repeat first|refine byW ?_|refine byV ?_;intro w hw
    exact⟨μ-1,by omega,k+1,by omega,⟨rfl,rfl,rfl,trivial⟩,eq_step hall hx2 hy2 h3,hw.drop.drop⟩
  ·have hkn:¬k<n2:=by simpa using h2
   repeat first|refine byW ?_|refine byV ?_;intro w hw
   refine⟨?_,⟨rfl,rfl,trivial⟩,hw⟩
   rw[←hcs,←hcs'];exact eq_of_all (by simp;omega) (by simp;omega) hall
 clear hw;rintro ρ w ⟨e2,hρ,hw⟩
 rw[hρ.eq];clear hρ;repeat first|refine byW ?_|refine byV ?_;intro w hw
 refine W_cutB (fun ρ w=>H.Links=G.Links∧Has ρ [(2,.pointer (some ⟨b2,0,none⟩)),(3,.pointer (some ⟨b3,0,none⟩))]∧Wd Γ (.blk b3 (.cells #[.string G.Name,.slice A1 N1 C1,.slice A2 N2 C2,.slice A3 N3 C3,.slice A4 N4 C4,.slice A5 N5 C5] 30)::.blk b2 (.cells #[.string H.Name,.slice a1 n1 c1,.slice a2 n2 c2,.slice a3 n3 c3,.slice a4 n4 c4,.slice a5 n5 c5] 30)::S) w) ?_ ?_
 ·refine W_loop (fun μ ρ w=>∃(k:Nat),μ+k=n3∧Has ρ [(2,.pointer (some ⟨b2,0,none⟩)),(3,.pointer (some ⟨b3,0,none⟩)),(9,.int .i64 k)]∧(∀(i:Nat) (x y:LinkT),i<k→H.Links[i]? = some x→G.Links[i]? = some y→x=y)∧Wd Γ (.blk b3 (.cells #[.string G.Name,.slice A1 N1 C1,.slice A2 N2 C2,.slice A3 N3 C3,.slice A4 N4 C4,.slice A5 N5 C5] 30)::.blk b2 (.cells #[.string H.Name,.slice a1 n1 c1,.slice a2 n2 c2,.slice a3 n3 c3,.slice a4 n4 c4,.slice a5 n5 c5] 30)::S) w) n3 ⟨0,by omega,⟨rfl,rfl,rfl,trivial⟩,fun i x y hi=>absurd hi (Nat.not_lt_zero i),hw⟩ ?_
  clear hw;rintro μ ρ w ⟨k,hk,hρ,hall,hw⟩
  rw[hρ.eq];repeat first|refine byW ?_|refine byV ?_;intro w hw
  refine W_cond rfl (fun h2=>?_) (fun h2=>?_)
  ·have hkn:k<n3:=by simpa using h2
   obtain⟨x,hx⟩:=get_lt (l:=H.Links) (k:=k) (by omega)
   obtain⟨y,hy⟩:=get_lt (l:=G.Links) (k:=k) (by omega)
   repeat first|refine byW ?_|refine byV ?_;intro w hw
   refine W_quiet (by kernel_rfl) (by kernel_rfl) hw ?_
   refine byQ ?_;intro w hw;refine W_cond rfl (fun h3=>?_) (fun h3=>?_)
   ·have h3:x≠y:=of_decide_eq_true h3
    repeat first|refine byW ?_|refine byV ?_;intro w hw
    exact⟨_,rfl,ret_b rfl (decide_eq_false fun e=>h3 (by subst e;rw[hx]at hy;cases hy;rfl)).symm,hw.drop.drop⟩
   ·have h3:x=y:=Classical.not_not.1 (of_decide_eq_false h3)
    repeat first|refine byW ?_|refine byV ?_;intro w hw
    exact⟨μ-1,by omega,k+1,by omega,⟨rfl,rfl,rfl,trivial⟩,eq_step hall hx hy h3,hw⟩
  ·have hkn:¬k<n3:=by simpa using h2
   repeat first|refine byW ?_|refine byV ?_;intro w hw
   exact⟨eq_of_all (by omega) (by omega) hall,⟨rfl,rfl,trivial⟩,hw⟩
 clear hw;rintro ρ w ⟨e3,hρ,hw⟩
 rw[hρ.eq];clear hρ;repeat first|refine byW ?_|refine byV ?_;intro w hw
 refine W_cutB (fun ρ w=>H.Mems=G.Mems∧Has ρ [(2,.pointer (some ⟨b2,0,none⟩)),(3,.pointer (some ⟨b3,0,none⟩))]∧Wd Γ (.blk b3 (.cells #[.string G.Name,.slice A1 N1 C1,.slice A2 N2 C2,.slice A3 N3 C3,.slice A4 N4 C4,.slice A5 N5 C5] 30)::.blk b2 (.cells #[.string H.Name,.slice a1 n1 c1,.slice a2 n2 c2,.slice a3 n3 c3,.slice a4 n4 c4,.slice a5 n5 c5] 30)::S) w) ?_ ?_
 ·refine W_loop (fun μ ρ w=>∃(k:Nat),μ+k=n4∧Has ρ [(2,.pointer (some ⟨b2,0,none⟩)),(3,.pointer (some ⟨b3,0,none⟩)),(10,.int .i64 k)]∧(∀(i:Nat) (x y:MemT),i<k→H.Mems[i]? = some x→G.Mems[i]? = some y→x=y)∧Wd Γ (.blk b3 (.cells #[.string G.Name,.slice A1 N1 C1,.slice A2 N2 C2,.slice A3 N3 C3,.slice A4 N4 C4,.slice A5 N5 C5] 30)::.blk b2 (.cells #[.string H.Name,.slice a1 n1 c1,.slice a2 n2 c2,.slice a3 n3 c3,.slice a4 n4 c4,.slice a5 n5 c5] 30)::S) w) n4 ⟨0,by omega,⟨rfl,rfl,rfl,trivial⟩,fun i x y hi=>absurd hi (Nat.not_lt_zero i),hw⟩ ?_
  clear hw;rintro μ ρ w ⟨k,hk,hρ,hall,hw⟩
  rw[hρ.eq];repeat first|refine byW ?_|refine byV ?_;intro w hw
  refine W_cond rfl (fun h2=>?_) (fun h2=>?_)
  ·have hkn:k<n4:=by simpa using h2
   obtain⟨x,hx⟩:=get_lt (l:=H.Mems) (k:=k) (by omega)
   obtain⟨y,hy⟩:=get_lt (l:=G.Mems) (k:=k) (by omega)
   repeat first|refine byW ?_|refine byV ?_;intro w hw
   refine W_quiet (by kernel_rfl) (by kernel_rfl) hw ?_
   refine byQ ?_;intro w hw;refine W_cond rfl (fun h3=>?_) (fun h3=>?_)
   ·have h3:x≠y:=of_decide_eq_true h3
    repeat first|refine byW ?_|refine byV ?_;intro w hw
    exact⟨_,rfl,ret_b rfl (decide_eq_false fun e=>h3 (by subst e;rw[hx]at hy;cases hy;rfl)).symm,hw.drop.drop⟩
   ·have h3:x=y:=Classical.not_not.1 (of_decide_eq_false h3)
    repeat first|refine byW ?_|refine byV ?_;intro w hw
    exact⟨μ-1,by omega,k+1,by omega,⟨rfl,rfl,rfl,trivial⟩,eq_step hall hx hy h3,hw⟩
  ·have hkn:¬k<n4:=by simpa using h2
   repeat first|refine byW ?_|refine byV ?_;intro w hw
   exact⟨eq_of_all (by omega) (by omega) hall,⟨rfl,rfl,trivial⟩,hw⟩
 clear hw;rintro ρ w ⟨e4,hρ,hw⟩
 rw[hρ.eq];clear hρ;repeat first|refine byW ?_|refine byV ?_;intro w hw
 refine W_cutB (fun ρ w=>H.Devs=G.Devs∧Has ρ [(2,.pointer (some ⟨b2,0,none⟩)),(3,.pointer (some ⟨b3,0,none⟩))]∧Wd Γ (.blk b3 (.cells #[.string G.Name,.slice A1 N1 C1,.slice A2 N2 C2,.slice A3 N3 C3,.slice A4 N4 C4,.slice A5 N5 C5] 30)::.blk b2 (.cells #[.string H.Name,.slice a1 n1 c1,.slice a2 n2 c2,.slice a3 n3 c3,.slice a4 n4 c4,.slice a5 n5 c5] 30)::S) w) ?_ ?_
 ·refine W_loop (fun μ ρ w=>∃(k:Nat),μ+k=n5∧Has ρ [(2,.pointer (some ⟨b2,0,none⟩)),(3,.pointer (some ⟨b3,0,none⟩)),(11,.int .i64 k)]∧(∀(i:Nat) (x y:DevT),i<k→H.Devs[i]? = some x→G.Devs[i]? = some y→x=y)∧Wd Γ (.blk b3 (.cells #[.string G.Name,.slice A1 N1 C1,.slice A2 N2 C2,.slice A3 N3 C3,.slice A4 N4 C4,.slice A5 N5 C5] 30)::.blk b2 (.cells #[.string H.Name,.slice a1 n1 c1,.slice a2 n2 c2,.slice a3 n3 c3,.slice a4 n4 c4,.slice a5 n5 c5] 30)::S) w) n5 ⟨0,by omega,⟨rfl,rfl,rfl,trivial⟩,fun i x y hi=>absurd hi (Nat.not_lt_zero i),hw⟩ ?_
  clear hw;rintro μ ρ w ⟨k,hk,hρ,hall,hw⟩
  rw[hρ.eq];repeat first|refine byW ?_|refine byV ?_;intro w hw
  refine W_cond rfl (fun h2=>?_) (fun h2=>?_)
  ·have hkn:k<n5:=by simpa using h2
   obtain⟨x,hx⟩:=get_lt (l:=H.Devs) (k:=k) (by omega)
   obtain⟨y,hy⟩:=get_lt (l:=G.Devs) (k:=k) (by omega)
   repeat first|refine byW ?_|refine byV ?_;intro w hw
   refine W_quiet (by kernel_rfl) (by kernel_rfl) hw ?_
   refine byQ ?_;intro w hw;refine W_cond rfl (fun h3=>?_) (fun h3=>?_)
   ·have h3:x≠y:=of_decide_eq_true h3
    repeat first|refine byW ?_|refine byV ?_;intro w hw
    exact⟨_,rfl,ret_b rfl (decide_eq_false fun e=>h3 (by subst e;rw[hx]at hy;cases hy;rfl)).symm,hw.drop.drop⟩
   ·have h3:x=y:=Classical.not_not.1 (of_decide_eq_false h3)
    repeat first|refine byW ?_|refine byV ?_;intro w hw
    exact⟨μ-1,by omega,k+1,by omega,⟨rfl,rfl,rfl,trivial⟩,eq_step hall hx hy h3,hw⟩
  ·have hkn:¬k<n5:=by simpa using h2
   repeat first|refine byW ?_|refine byV ?_;intro w hw
   exact⟨eq_of_all (by omega) (by omega) hall,⟨rfl,rfl,trivial⟩,hw⟩
 clear hw;rintro ρ w ⟨e5,hρ,hw⟩
 rw[hρ.eq];clear hρ;repeat first|refine byW ?_|refine byV ?_;intro w hw
 refine⟨_,rfl,ret_b rfl (decide_eq_true ?_).symm,hw.drop.drop⟩
 cases H;cases G
 simp only[HwT.mk.injEq]
 exact⟨q0,e1,e2,e3,e4,e5⟩⟩
end Go.Proofs.YtfoggcgogafocaaGreat
end
section
open Go
namespace Mk
attribute [local irreducible] Calls
theorem wd_kept{Γ:Gho}{S:List Res}{w w':World}(h:Wd Γ S w)(h':Wd (allG w) [] w'):Wd Γ S w':=by
 obtain⟨h1,h2,h3,h4,h5,bss,h6,h7,h8⟩:=h;obtain⟨k1,k2,k3,k4,k5,-⟩:=h';have hk:∀b∈bss.flatten,w'.heap[b]? = w.heap[b]?:=fun b hb=>by
  have hl:=(h8 b hb).1
  have e:w.heap[b]? = some w.heap[b]:=Array.getElem?_eq_getElem hl
  rw[e];exact k5 b _ e
 refine⟨k1.trans h1,k2.trans h2,k3.trans h3,Nat.le_trans h4 k4,fun b o hb=>k5 b o (h5 b o hb),bss,Holds.loc (fun b o h=>h) S bss (fun b hb=>hk b hb) h6,h7,fun b hb=>⟨?_,(h8 b hb).2⟩⟩
 have hl:=(h8 b hb).1
 have e:w.heap[b]? = some w.heap[b]:=Array.getElem?_eq_getElem hl
 have:=hk b hb
 rw[e]at this;exact(Array.getElem?_eq_some_iff.1 this).1
theorem wd_less{Γ Γ':Gho}{w:World}(hle:Γ.le Γ')(h:Wd Γ' [] w):Wd Γ [] w:=by
 obtain⟨h1,h2,h3,h4,h5,-⟩:=h;exact⟨h1.trans hle.os,h2.trans hle.tape,h3.trans hle.out,by rw[←hle.dr];exact h4,fun b o hb=>h5 b o (hle.imm b o hb),[],trivial,by simp,by simp⟩
section
variable {P:Program}{n:Nat}{ops:List Oper}{Γ:Gho}{K:List Res}{wr tc stab:List (List Nat)}{Q:Fr→World→Prop}{i:Nat}{rest:List Oper}{ρ:Fr}{M:Nat→Fr→List Res}
variable {d:Option Tmp}{op:Op}{ty:TypeId}{pos:String}{es:Array Edge}{j dj:Nat}{want:Bool}
end
section
variable {P:Program}{n:Nat}{ops:List Oper}{Γ:Gho}{K:List Res}{wr tc stab:List (List Nat)}{Q:Fr→World→Prop}{i:Nat}{rest:List Oper}{ρ:Fr}{M:Nat→Fr→List Res}
variable {d:Option Tmp}{ty:TypeId}{pos:String}{es:Array Edge}{f:Nat}{args:List Operand}{tys:Array TypeId}{vs:List Value}{v:Value}
theorem mCallS{c:Nat}{X:List Res}(X':List Res)[FnOk P f](hs:∀R w,Wd Γ (X++R) w→Calls P f vs.toArray w fun e w'=>e=.returned v∧Wd Γ (X'++R) w')
  (h:MSw (mV P n ops Γ K wr tc stab) Q (i+1) rest ⟨putO ρ d v,setC M c fun _=>X'⟩) (hM:M c=fun _=>X:=by first|exact setC_self|exact ml1|exact ml2|exact rfl) (hw0:wr.getD i []=[c]:=by exact rfl) (ht:tc.getD i []=[c]:=by exact rfl) (ha:∀g,EvL (ovr stab.flatten g ρ) args vs:=by intro g;exact byEV) :
  MSw (mV P n ops Γ K wr tc stab) Q i (⟨d,.call { callee:=.value (.func f),args:=args.toArray,argTypes:=tys },ty,pos,es,none⟩::rest) ⟨ρ,M⟩:=
 mS (F:=fun _=>X) (fun _=>X') (fun g w Y hw=>s_call (ha g).eqA ((hs _ w hw).mono fun e w' ⟨h1,h2⟩=>⟨v,h1,fun _=>rfl,h2⟩)) h hM hw0 ht rfl
theorem qPsv{S:List Res}{t:Tmp}{cap:List Value}[FnOk P f](hc:∀Y w,Wd Γ (S++Y) w→Calls P f (vs++cap).toArray w fun e w'=>e=.returned v∧Wd Γ (S++Y) w')(h:Qw P n ops Γ S Q rest (putO ρ d v))(ht:ρ t=.func (.func f) #[] cap.toArray:=by exact rfl)(ha:EvL ρ args vs:=by exact byEV) :
  Qw P n ops Γ S Q (⟨d,.call { callee:=.value (.tmp t),args:=args.toArray,argTypes:=tys },ty,pos,es,none⟩::rest) ρ:=
 Q_c rfl rfl (fun Y w hw=>s_callv ht ha.eqA (by simpa using (hc Y w hw).mono fun e w' ⟨h1,h2⟩=>⟨v,h1,rfl,h2⟩)) h
end
section
variable {P:Program}{n:Nat}{ops:List Oper}{Γ:Gho}{K:List Res}{wr tc stab:List (List Nat)}{Q:Fr→World→Prop}{i:Nat}{rest:List Oper}{ρ:Fr}{M:Nat→Fr→List Res}
variable {d:Option Tmp}{ty:TypeId}{pos:String}{es:Array Edge}{f:Nat}{args:List Operand}{tys:Array TypeId}
theorem mCallG{c:Nat}{F:Fr→List Res}(F':Fr→List Res)(vs:Fr→List Value)[FnOk P f]
  (hs:∀g w Y,Wd Γ (F (ovr (stab.getD c []) g noFr)++(K++Y)) w→Calls P f (vs (ovr (stab.getD c []) g noFr)).toArray w fun e w'=>∃u,e=.returned u∧Wd Γ (F' (ovr (stab.getD c []) (putO g d u) noFr)++(K++Y)) w')
  (h:MSw (mV P n ops Γ K wr tc stab) Q (i+1) rest ⟨putO ρ d undef,setC M c F'⟩) (hM:M c=F:=by first|exact setC_self|exact ml1|exact ml2|exact((setC_other (by decide)).trans setC_self)|exact rfl) (hw0:wr.getD i []=[c]:=by exact rfl) (ht:tc.getD i []=[c]:=by exact rfl) (hfr:freeD stab d=true:=by exact rfl) (ha:∀g,EvL (ovr stab.flatten g ρ) args (vs (ovr (stab.getD c []) g noFr)):=by intro g;exact byEV) :
  MSw (mV P n ops Γ K wr tc stab) Q i (⟨d,.call { callee:=.value (.func f),args:=args.toArray,argTypes:=tys },ty,pos,es,none⟩::rest) ⟨ρ,M⟩:=
 mS (v:=undef) F' (fun g w Y hw=>s_call (ha g).eqA ((hs g w Y hw).mono fun e w' ⟨u,h1,h2⟩=>⟨u,h1,fun hh=>(by rw[hfr]at hh;cases hh),h2⟩)) h hM hw0 ht rfl
end
end Mk
end
section
open Go Mk
namespace Go.Proofs.YtfoggcgogafocaaGreat
set_option maxHeartbeats 16000000
attribute [local irreducible] Calls
theorem dropG{α:Type}{l:List α}{k:Nat}{x:α}(h:l[k]? = some x):l.drop k=x::l.drop (k+1):=by
 obtain⟨hk,rfl⟩:=List.getElem?_eq_some_iff.1 h
 exact List.drop_eq_getElem_cons hk
theorem allD{α:Type}{p:α→Bool}{l:List α}{k:Nat}{x:α}(h:l[k]? = some x):(l.drop k).all p=(p x&&(l.drop (k+1)).all p):=by rw[dropG h,List.all_cons]
theorem allE{α:Type}{p:α→Bool}{l:List α}{k:Nat}(h:l.length≤k):(l.drop k).all p=true:=by rw[List.drop_eq_nil_of_le h];rfl
theorem SB_of{s:ByteArray}(h:s.size≤maxS):SB s:=⟨h⟩
def inB(v lo hi:Int):Bool:=decide (lo≤v)&&decide (v≤hi)
instance pc_in(v lo hi:Int):PC Tryz.prog 114 [.int .i64 v,.int .i64 lo,.int .i64 hi] (.bool (inB v lo hi)):=⟨fun w=>by
 refine calls_of_W Tryz.func114 rfl rfl ?_
 refine byG ?_;exact⟨_,rfl,rfl,rfl⟩⟩
instance pc_node(v:Int):PC Tryz.prog 115 [.int .i64 v] (.bool (inB v 0 63)):=⟨fun w=>by
 refine calls_of_W Tryz.func115 rfl rfl ?_
 refine byG ?_;exact⟨_,rfl,rfl,rfl⟩⟩
instance pc_span(b s:Int):PC Tryz.prog 117 [.int .u64 b,.int .u64 s] (.bool (inSpaceB b s)):=⟨fun w=>by
 refine calls_of_W Tryz.func117 rfl rfl ?_
 refine byG ?_;exact⟨_,rfl,rfl,rfl⟩⟩
def powB(v:Int):Bool:=decide (0<v)&&decide (bitsZ .and .u64 v (IntKind.u64.wrap (v-1))=0)
instance pc_power(v:Int):PC Tryz.prog 116 [.int .u64 v] (.bool (powB v)):=⟨fun w=>by
 refine calls_of_W Tryz.func116 rfl rfl ?_
 refine byG ?_;exact⟨_,rfl,rfl,rfl⟩⟩
instance pc_plainR(b:UInt8):PC Tryz.prog 191 [.int .u8 ((b.toNat:Nat):Int)] (.bool (inTextC b)):=⟨fun w=>by
 refine calls_of_W Tryz.func191 rfl rfl ?_
 refine byG ?_;refine⟨_,rfl,ret_b rfl ?_,rfl⟩
 unfold inTextC;rw[Bool.eq_iff_iff];simp only[Bool.and_eq_true,decide_eq_true_eq,Bool.not_eq_true',Bool.or_eq_false_iff,decide_eq_false_iff_not]
 omega⟩
theorem bytesG{s:ByteArray}{k:Nat}(hk:k<s.size):(s.data.toList)[k]? = some (s.data.toList.getD k 0):=by
 have hk':k<s.data.toList.length:=by rw[size_toList];exact hk
 rw[List.getD_eq_getElem?_getD,List.getElem?_eq_getElem hk'];rfl
instance pc_PlainR(s:ByteArray)[hs:SB s]:PC Tryz.prog 112 [.string s] (.bool (textB s)):=⟨fun w=>by
 have hs:=hs.h
 refine calls_of_W Tryz.func112 rfl rfl ?_
 refine byG ?_;refine W_loop (fun μ ρ w'=>∃(k:Nat),μ+k=s.size∧Has ρ [(0,.string s),(3,.int .i64 k)]∧textB s=(s.data.toList.drop k).all inTextC∧w'=w) s.size ⟨0,by omega,⟨rfl,rfl,trivial⟩,rfl,rfl⟩ ?_
 rintro μ ρ w' ⟨k,hk,hρ,hal,rfl⟩
 rw[hρ.eq];refine byG ?_;refine W_cond rfl (fun h=>?_) (fun h=>?_)
 ·have hkn:k<s.size:=by have:=of_decide_eq_true h;omega
  have hb:=bytesG hkn
  rw[allD hb]at hal;refine byG ?_;refine W_cond rfl (fun h=>?_) (fun h=>?_)
  ·have h:(!inTextC (s.data.toList.getD k 0))=true:=h
   rw[Bool.not_eq_true']at h;refine byG ?_;refine⟨_,rfl,ret_b rfl ?_,rfl⟩
   rw[hal,h];rfl
  ·have h:(!inTextC (s.data.toList.getD k 0))=false:=h
   rw[Bool.not_eq_false']at h;rw[h,Bool.true_and]at hal;refine byG ?_;exact⟨μ-1,by omega,k+1,by omega,⟨rfl,rfl,trivial⟩,hal,rfl⟩
 ·have hkn:s.size≤k:=by have:=of_decide_eq_false h;omega
  rw[allE (by rw[size_toList];exact hkn)]at hal
  refine byG ?_;exact⟨_,rfl,ret_b rfl hal.symm,rfl⟩⟩
theorem notF{a:Bool}(h:(!a)=true):a=false:=by rwa [Bool.not_eq_true']at h
theorem notT{a:Bool}(h:(!a)=false):a=true:=by rwa [Bool.not_eq_false']at h
theorem names_any{Γ:Gho}{u:Value}{H:HwT}[hh:HwR Γ u H]{S:List Res}{w:World}(hw:Wd Γ S w) :
  Calls Tryz.prog 60 #[u] w fun e w'=>e=.returned (.bool (namesB H))∧Wd Γ S w':=by
 obtain⟨a1,n1,c1,a2,n2,c2,a3,n3,c3,a4,n4,c4,a5,n5,c5,cs,rfl,hcs,hok,hsz,r1,r2,r3,r4,r5⟩:=hh.h;obtain⟨f1,f1',f1''⟩:=rep_facts r1
 obtain⟨f2,f2',f2''⟩:=rep_facts r2
 obtain⟨f3,f3',f3''⟩:=rep_facts r3
 obtain⟨f4,f4',f4''⟩:=rep_facts r4
 obtain⟨f5,f5',f5''⟩:=rep_facts r5
 simp only[List.length_map]at f1 f2 f3 f4 f5
 have hcl:cs.length=H.Caches.length:=by rw[←hcs,List.length_map]
 haveI:SB H.Name:=SB_of hsz.1
 refine calls_of_W Tryz.func60 rfl rfl ?_
 refine byG ?_;refine lBox ?_;intro b1 w hw;have hw:Wd Γ (.blk b1 (hwC H a1 n1 c1 a2 n2 c2 a3 n3 c3 a4 n4 c4 a5 n5 c5)::S) w:=hw
 refine byG ?_;have hN:namesB H=(headB H&&(H.Caches.all (fun c=>nameS c.Name)&&(H.Mems.all (fun c=>nameS c.Name)&&H.Devs.all (fun c=>nameS c.Name)))):=by unfold namesB;simp only[Bool.and_assoc]
 rw[hN];refine W_cond rfl (fun h=>?_) (fun h=>?_)
 ·have h:((decide (H.Name=⟨#[]⟩)||decide ((24:Int)<(H.Name.size:Nat))) || !textB H.Name)=true:=h
  refine byG ?_;refine⟨_,rfl,ret_b rfl ?_,hw.drop⟩
  have:headB H=false:=by
   unfold headB;simp only[Bool.or_eq_true,decide_eq_true_eq,Bool.not_eq_true']at h
   rcases h with (h|h)|h
   ·rw[decide_eq_false (show ¬H.Name≠⟨#[]⟩ from fun q=>q h)];rfl
   ·rw[decide_eq_false (show ¬H.Name.size≤24 by omega),Bool.and_false];rfl
   ·rw[h,Bool.and_false]
  rw[this];rfl
 have h:((decide (H.Name=⟨#[]⟩)||decide ((24:Int)<(H.Name.size:Nat))) || !textB H.Name)=false:=h
 have hHd:headB H=true:=by
  unfold headB;simp only[Bool.or_eq_false_iff,decide_eq_false_iff_not,Bool.not_eq_false']at h
  rw[decide_eq_true (show H.Name≠⟨#[]⟩ from h.1.1),decide_eq_true (show H.Name.size≤24 by omega),h.2];rfl
 rw[hHd,Bool.true_and];clear h hN;refine byG ?_;refine W_loop (fun μ ρ w=>∃(k:Nat),μ+k=n2∧Has ρ [(1,.pointer (some ⟨b1,0,none⟩)),(3,.int .i64 k)]∧H.Caches.all (fun c=>nameS c.Name)=(H.Caches.drop k).all (fun c=>nameS c.Name)∧Wd Γ (.blk b1 (hwC H a1 n1 c1 a2 n2 c2 a3 n3 c3 a4 n4 c4 a5 n5 c5)::S) w) n2 ⟨0,by omega,⟨rfl,rfl,trivial⟩,rfl,hw⟩ ?_
 clear hw;rintro μ ρ w ⟨k,hk,hρ,hal,hw⟩
 rw[hρ.eq];refine byG ?_;refine W_cond rfl (fun h=>?_) (fun h=>?_)
 ·have hkn:k<n2:=by have:=of_decide_eq_true h;omega
  clear h;obtain⟨x,hx⟩:=get_lt (l:=cs) (k:=k) (by omega)
  obtain⟨g1,g2,g3⟩:=(hok x (List.mem_of_getElem? hx)).facts
  have hxT:H.Caches[k]? = some x.T:=by rw[←hcs,List.getElem?_map,hx];rfl
  rw[allD hxT]at hal;haveI:SB x.Name:=SB_of (hsz.2.1 x.T (List.mem_of_getElem? hxT))
  refine byG ?_;refine W_cond rfl (fun h=>?_) (fun h=>?_)
  ·have hz:nameS x.Name=false:=notF h
   refine byG ?_;refine⟨_,rfl,ret_b rfl ?_,hw.drop⟩
   rw[show H.Caches.all (fun c=>nameS c.Name)=(nameS x.Name&&(H.Caches.drop (k+1)).all (fun c=>nameS c.Name)) from hal,hz];rfl
  ·have hz:nameS x.Name=true:=notT h
   have hal:H.Caches.all (fun c=>nameS c.Name)=(nameS x.Name&&(H.Caches.drop (k+1)).all (fun c=>nameS c.Name)):=hal
   rw[hz,Bool.true_and]at hal;refine byG ?_;exact⟨μ-1,by omega,k+1,by omega,⟨rfl,rfl,trivial⟩,hal,hw⟩
 have hkn:n2≤k:=by have:=of_decide_eq_false h;omega
 clear h;rw[allE (by omega)]at hal
 rw[hal,Bool.true_and];clear hk hρ;refine byG ?_;refine W_loop (fun μ ρ w=>∃(k:Nat),μ+k=n4∧Has ρ [(1,.pointer (some ⟨b1,0,none⟩)),(4,.int .i64 k)]∧H.Mems.all (fun c=>nameS c.Name)=(H.Mems.drop k).all (fun c=>nameS c.Name)∧Wd Γ (.blk b1 (hwC H a1 n1 c1 a2 n2 c2 a3 n3 c3 a4 n4 c4 a5 n5 c5)::S) w) n4 ⟨0,by omega,⟨rfl,rfl,trivial⟩,rfl,hw⟩ ?_
 clear hw hal;rintro μ ρ w ⟨k,hk,hρ,hal,hw⟩
 rw[hρ.eq];refine byG ?_;refine W_cond rfl (fun h=>?_) (fun h=>?_)
 ·have hkn:k<n4:=by have:=of_decide_eq_true h;omega
  clear h;obtain⟨x,hx⟩:=get_lt (l:=H.Mems) (k:=k) (by omega)
  rw[allD hx]at hal;haveI:SB x.Name:=SB_of (hsz.2.2.1 x (List.mem_of_getElem? hx))
  refine byG ?_;refine W_cond rfl (fun h=>?_) (fun h=>?_)
  ·have hz:nameS x.Name=false:=notF h
   refine byG ?_;refine⟨_,rfl,ret_b rfl ?_,hw.drop⟩
   rw[hal,hz];rfl
  ·have hz:nameS x.Name=true:=notT h
   skip
   rw[hz,Bool.true_and]at hal;refine byG ?_;exact⟨μ-1,by omega,k+1,by omega,⟨rfl,rfl,trivial⟩,hal,hw⟩
 have hkn:n4≤k:=by have:=of_decide_eq_false h;omega
 clear h;rw[allE (by omega)]at hal
 rw[hal,Bool.true_and];clear hk hρ;refine byG ?_;refine W_loop (fun μ ρ w=>∃(k:Nat),μ+k=n5∧Has ρ [(1,.pointer (some ⟨b1,0,none⟩)),(5,.int .i64 k)]∧H.Devs.all (fun c=>nameS c.Name)=(H.Devs.drop k).all (fun c=>nameS c.Name)∧Wd Γ (.blk b1 (hwC H a1 n1 c1 a2 n2 c2 a3 n3 c3 a4 n4 c4 a5 n5 c5)::S) w) n5 ⟨0,by omega,⟨rfl,rfl,trivial⟩,rfl,hw⟩ ?_
 clear hw hal;rintro μ ρ w ⟨k,hk,hρ,hal,hw⟩
 rw[hρ.eq];refine byG ?_;refine W_cond rfl (fun h=>?_) (fun h=>?_)
 ·have hkn:k<n5:=by have:=of_decide_eq_true h;omega
  clear h;obtain⟨x,hx⟩:=get_lt (l:=H.Devs) (k:=k) (by omega)
  rw[allD hx]at hal;haveI:SB x.Name:=SB_of (hsz.2.2.2 x (List.mem_of_getElem? hx))
  refine byG ?_;refine W_cond rfl (fun h=>?_) (fun h=>?_)
  ·have hz:nameS x.Name=false:=notF h
   refine byG ?_;refine⟨_,rfl,ret_b rfl ?_,hw.drop⟩
   rw[hal,hz];rfl
  ·have hz:nameS x.Name=true:=notT h
   skip
   rw[hz,Bool.true_and]at hal;refine byG ?_;exact⟨μ-1,by omega,k+1,by omega,⟨rfl,rfl,trivial⟩,hal,hw⟩
 have hkn:n5≤k:=by have:=of_decide_eq_false h;omega
 clear h;rw[allE (by omega)]at hal
 rw[hal];clear hk hρ;refine byG ?_;exact⟨_,rfl,rfl,hw.drop⟩
def coreBad(c:CoreT):Bool:=((!inB c.ID 0 31||(decide (c.Width≠32)&&decide (c.Width≠39))) || !inB c.Node 0 63) || !inB c.Speed 1 1000000
def cacheBad(lv ln sz:Int)(n:Nat):Bool:=((((!inB lv 1 4 || !inB ln 16 256) || !powB (IntKind.u64.wrap ln))||decide (sz<IntKind.u64.wrap ln))||decide (sz > 1099511627776))||decide ((n:Int)=0)
def linkBad(c:LinkT):Bool:=((!inB c.A 0 63 || !inB c.B 0 63)||decide (c.A=c.B)) || !inB c.Latency 1 1000000
def memBad(c:MemT):Bool:=(!inB c.Node 0 63 || !inB c.Latency 1 1000000) || !inSpaceB c.Base c.Size
def devBad(c:DevT):Bool:=(!inB c.Node 0 63 || !inB c.IRQ 0 255) || !inSpaceB c.Base c.Size
theorem core_bad(c:CoreT):coreRB c = !coreBad c:=by
 unfold coreRB coreBad inB isNodeB;rw[Bool.eq_iff_iff];simp only[Bool.and_eq_true,Bool.or_eq_true,decide_eq_true_eq,Bool.not_eq_true',Bool.or_eq_false_iff,Bool.not_eq_false',Bool.and_eq_false_iff,decide_eq_false_iff_not]
 omega
theorem link_bad(c:LinkT):linkRB c = !linkBad c:=by
 unfold linkRB linkBad inB isNodeB isLatB;rw[Bool.eq_iff_iff];simp only[Bool.and_eq_true,Bool.or_eq_true,decide_eq_true_eq,Bool.not_eq_true',Bool.or_eq_false_iff,Bool.not_eq_false',Bool.and_eq_false_iff,decide_eq_false_iff_not]
 omega
theorem mem_bad(c:MemT):memRB c = !memBad c:=by
 unfold memRB memBad inB isNodeB isLatB;generalize inSpaceB c.Base c.Size=q
 rw[Bool.eq_iff_iff];simp only[Bool.and_eq_true,Bool.or_eq_true,decide_eq_true_eq,Bool.not_eq_true',Bool.or_eq_false_iff,Bool.not_eq_false',Bool.and_eq_false_iff,decide_eq_false_iff_not]
 exact and_congr (by omega) Iff.rfl
theorem dev_bad(c:DevT):devRB c = !devBad c:=by
 unfold devRB devBad inB isNodeB;generalize inSpaceB c.Base c.Size=q
 rw[Bool.eq_iff_iff];simp only[Bool.and_eq_true,Bool.or_eq_true,decide_eq_true_eq,Bool.not_eq_true',Bool.or_eq_false_iff,Bool.not_eq_false',Bool.and_eq_false_iff,decide_eq_false_iff_not]
 exact and_congr (by omega) Iff.rfl
theorem line_fin:∀n:Fin 257,decide (bitsZ .and .i64 (n.1:Int) (IntKind.i64.wrap ((n.1:Int)-1))=0)=decide (bitsZ .and .u64 (n.1:Int) (IntKind.u64.wrap ((n.1:Int)-1))=0)∨n.1=0:=by decide +kernel
theorem cache_bad(c:CacheT):cacheRB c = !cacheBad c.Level c.Line c.Size c.Cores.length:=by
 unfold cacheRB cacheBad;by_cases hl:16≤c.Line∧c.Line≤256
 ·have hw:IntKind.u64.wrap c.Line=c.Line:=by rw[IntKind.wrap_u64];omega
  have hb:decide (bitsZ .and .i64 c.Line (IntKind.i64.wrap (c.Line-1))=0)=powB c.Line:=by
   unfold powB;have:=line_fin ⟨c.Line.toNat,by omega⟩
   simp only[show ((c.Line.toNat:Nat):Int)=c.Line by omega]at this
   rw[decide_eq_true (show 0<c.Line by omega),Bool.true_and]
   exact this.resolve_right (by omega)
  rw[hw,hb];generalize powB c.Line=q
  unfold inB;rw[Bool.eq_iff_iff];simp only[Bool.and_eq_true,Bool.or_eq_true,decide_eq_true_eq,Bool.not_eq_true',Bool.or_eq_false_iff,Bool.not_eq_false',Bool.and_eq_false_iff,decide_eq_false_iff_not]
  rcases Bool.eq_false_or_eq_true q with hq|hq
  ·simp only[hq,and_true];omega
  ·simp[hq]
 ·have h1:(decide (16≤c.Line)&&decide (c.Line≤256))=false:=by
   rw[Bool.and_eq_false_iff,decide_eq_false_iff_not,decide_eq_false_iff_not];omega
  have h2:inB c.Line 16 256=false:=h1
  rw[h2,Bool.not_false,Bool.or_true,Bool.true_or,Bool.true_or,Bool.true_or,Bool.true_or,Bool.not_true];rw[Bool.and_eq_false_iff]at h1;rcases h1 with h1|h1 <;> simp only[h1,Bool.and_false,Bool.false_and]
theorem bad_no{p q:Bool}(h:p = !q)(hq:q=true):p=false:=by rw[h,hq];rfl
theorem bad_ok{p q:Bool}(h:p = !q)(hq:q=false):p=true:=by rw[h,hq];rfl
theorem ranges_any{Γ:Gho}{u:Value}{H:HwT}[hh:HwR Γ u H]{S:List Res}{w:World}(hw:Wd Γ S w) :
  Calls Tryz.prog 61 #[u] w fun e w'=>e=.returned (.bool (coresRB H&&regionsRB H))∧Wd Γ S w':=by
 obtain⟨a1,n1,c1,a2,n2,c2,a3,n3,c3,a4,n4,c4,a5,n5,c5,cs,rfl,hcs,hok,hsz,r1,r2,r3,r4,r5⟩:=hh.h;obtain⟨f1,f1',f1''⟩:=rep_facts r1
 obtain⟨f2,f2',f2''⟩:=rep_facts r2
 obtain⟨f3,f3',f3''⟩:=rep_facts r3
 obtain⟨f4,f4',f4''⟩:=rep_facts r4
 obtain⟨f5,f5',f5''⟩:=rep_facts r5
 simp only[List.length_map]at f1 f2 f3 f4 f5
 have hcl:cs.length=H.Caches.length:=by rw[←hcs,List.length_map]
 have hN:(coresRB H&&regionsRB H)=(H.Cores.all coreRB&&(H.Caches.all cacheRB&&(H.Links.all linkRB&&(H.Mems.all memRB&&H.Devs.all devRB)))):=by unfold coresRB regionsRB;simp only[Bool.and_assoc]
 rw[hN];clear hN;refine calls_of_W Tryz.func61 rfl rfl ?_
 refine byG ?_;refine lBox ?_;intro b1 w hw;have hw:Wd Γ (.blk b1 (hwC H a1 n1 c1 a2 n2 c2 a3 n3 c3 a4 n4 c4 a5 n5 c5)::S) w:=hw
 refine byG ?_;refine W_loop (fun μ ρ w=>∃(k:Nat),μ+k=n1∧Has ρ [(1,.pointer (some ⟨b1,0,none⟩)),(3,.int .i64 k)]∧H.Cores.all (coreRB)=(H.Cores.drop k).all (coreRB)∧Wd Γ (.blk b1 (hwC H a1 n1 c1 a2 n2 c2 a3 n3 c3 a4 n4 c4 a5 n5 c5)::S) w) n1 ⟨0,by omega,⟨rfl,rfl,trivial⟩,rfl,hw⟩ ?_
 clear hw;rintro μ ρ w ⟨k,hk,hρ,hal,hw⟩
 rw[hρ.eq];refine byG ?_;refine W_cond rfl (fun h=>?_) (fun h=>?_)
 ·have hkn:k<n1:=by have:=of_decide_eq_true h;omega
  clear h;obtain⟨x,hx⟩:=get_lt (l:=H.Cores) (k:=k) (by omega)
  rw[allD hx]at hal;refine byG ?_;refine lAlloc ?_;intro b6 w hw;refine lStore ?_;intro w hw;have hw:Wd Γ (.blk b6 (.cells (enc x).toArray 37)::.blk b1 (hwC H a1 n1 c1 a2 n2 c2 a3 n3 c3 a4 n4 c4 a5 n5 c5)::S) w:=hw
  refine byG ?_;refine W_cond rfl (fun h=>?_) (fun h=>?_)
  ·have hz:coreRB x=false:=bad_no (core_bad x) (show coreBad x=true from h)
   refine byG ?_;refine⟨_,rfl,ret_b rfl ?_,hw.ds [0,0]⟩
   rw[hal,hz];rfl
  ·have hz:coreRB x=true:=bad_ok (core_bad x) (show coreBad x=false from h)
   rw[hz,Bool.true_and]at hal;refine byG ?_;exact⟨μ-1,by omega,k+1,by omega,⟨rfl,rfl,trivial⟩,hal,hw.drop⟩
 have hkn:n1≤k:=by have:=of_decide_eq_false h;omega
 clear h;rw[allE (by omega)]at hal
 rw[hal,Bool.true_and];clear hk hρ;refine byG ?_;refine W_loop (fun μ ρ w=>∃(k:Nat),μ+k=n2∧Has ρ [(1,.pointer (some ⟨b1,0,none⟩)),(5,.int .i64 k)]∧H.Caches.all (cacheRB)=(H.Caches.drop k).all (cacheRB)∧Wd Γ (.blk b1 (hwC H a1 n1 c1 a2 n2 c2 a3 n3 c3 a4 n4 c4 a5 n5 c5)::S) w) n2 ⟨0,by omega,⟨rfl,rfl,trivial⟩,rfl,hw⟩ ?_
 clear hw hal;rintro μ ρ w ⟨k,hk,hρ,hal,hw⟩
 rw[hρ.eq];refine byG ?_;refine W_cond rfl (fun h=>?_) (fun h=>?_)
 ·have hkn:k<n2:=by have:=of_decide_eq_true h;omega
  clear h;obtain⟨x,hx⟩:=get_lt (l:=cs) (k:=k) (by omega)
  obtain⟨g1,g2,g3⟩:=(hok x (List.mem_of_getElem? hx)).facts
  have hxT:H.Caches[k]? = some x.T:=by rw[←hcs,List.getElem?_map,hx];rfl
  rw[allD hxT]at hal;refine byG ?_;refine lAlloc ?_;intro b6 w hw;refine lStore ?_;intro w hw;have hw:Wd Γ (.blk b6 (.cells (cC x).toArray 89)::.blk b1 (hwC H a1 n1 c1 a2 n2 c2 a3 n3 c3 a4 n4 c4 a5 n5 c5)::S) w:=hw
  refine byG ?_;refine W_cond rfl (fun h=>?_) (fun h=>?_)
  ·have hz:cacheRB x.T=false:=bad_no (by have:=cache_bad x.T;rw[show x.T.Cores.length=x.N from g1.symm]at this;exact this) (show cacheBad x.Level x.Line x.Size x.N=true from h)
   refine byG ?_;refine⟨_,rfl,ret_b rfl ?_,hw.ds [0,0]⟩
   rw[hal,hz];rfl
  ·have hz:cacheRB x.T=true:=bad_ok (by have:=cache_bad x.T;rw[show x.T.Cores.length=x.N from g1.symm]at this;exact this) (show cacheBad x.Level x.Line x.Size x.N=false from h)
   rw[hz,Bool.true_and]at hal;refine byG ?_;exact⟨μ-1,by omega,k+1,by omega,⟨rfl,rfl,trivial⟩,hal,hw.drop⟩
 have hkn:n2≤k:=by have:=of_decide_eq_false h;omega
 clear h;rw[allE (by omega)]at hal
 rw[hal,Bool.true_and];clear hk hρ;refine byG ?_;refine W_loop (fun μ ρ w=>∃(k:Nat),μ+k=n3∧Has ρ [(1,.pointer (some ⟨b1,0,none⟩)),(7,.int .i64 k)]∧H.Links.all (linkRB)=(H.Links.drop k).all (linkRB)∧Wd Γ (.blk b1 (hwC H a1 n1 c1 a2 n2 c2 a3 n3 c3 a4 n4 c4 a5 n5 c5)::S) w) n3 ⟨0,by omega,⟨rfl,rfl,trivial⟩,rfl,hw⟩ ?_
 clear hw hal;rintro μ ρ w ⟨k,hk,hρ,hal,hw⟩
 rw[hρ.eq];refine byG ?_;refine W_cond rfl (fun h=>?_) (fun h=>?_)
 ·have hkn:k<n3:=by have:=of_decide_eq_true h;omega
  clear h;obtain⟨x,hx⟩:=get_lt (l:=H.Links) (k:=k) (by omega)
  rw[allD hx]at hal;refine byG ?_;refine lAlloc ?_;intro b6 w hw;refine lStore ?_;intro w hw;have hw:Wd Γ (.blk b6 (.cells (enc x).toArray 79)::.blk b1 (hwC H a1 n1 c1 a2 n2 c2 a3 n3 c3 a4 n4 c4 a5 n5 c5)::S) w:=hw
  refine byG ?_;refine W_cond rfl (fun h=>?_) (fun h=>?_)
  ·have hz:linkRB x=false:=bad_no (link_bad x) (show linkBad x=true from h)
   refine byG ?_;refine⟨_,rfl,ret_b rfl ?_,hw.ds [0,0]⟩
   rw[hal,hz];rfl
  ·have hz:linkRB x=true:=bad_ok (link_bad x) (show linkBad x=false from h)
   rw[hz,Bool.true_and]at hal;refine byG ?_;exact⟨μ-1,by omega,k+1,by omega,⟨rfl,rfl,trivial⟩,hal,hw.drop⟩
 have hkn:n3≤k:=by have:=of_decide_eq_false h;omega
 clear h;rw[allE (by omega)]at hal
 rw[hal,Bool.true_and];clear hk hρ;refine byG ?_;refine W_loop (fun μ ρ w=>∃(k:Nat),μ+k=n4∧Has ρ [(1,.pointer (some ⟨b1,0,none⟩)),(9,.int .i64 k)]∧H.Mems.all (memRB)=(H.Mems.drop k).all (memRB)∧Wd Γ (.blk b1 (hwC H a1 n1 c1 a2 n2 c2 a3 n3 c3 a4 n4 c4 a5 n5 c5)::S) w) n4 ⟨0,by omega,⟨rfl,rfl,trivial⟩,rfl,hw⟩ ?_
 clear hw hal;rintro μ ρ w ⟨k,hk,hρ,hal,hw⟩
 rw[hρ.eq];refine byG ?_;refine W_cond rfl (fun h=>?_) (fun h=>?_)
 ·have hkn:k<n4:=by have:=of_decide_eq_true h;omega
  clear h;obtain⟨x,hx⟩:=get_lt (l:=H.Mems) (k:=k) (by omega)
  rw[allD hx]at hal;refine byG ?_;refine lAlloc ?_;intro b6 w hw;refine lStore ?_;intro w hw;have hw:Wd Γ (.blk b6 (.cells (enc x).toArray 83)::.blk b1 (hwC H a1 n1 c1 a2 n2 c2 a3 n3 c3 a4 n4 c4 a5 n5 c5)::S) w:=hw
  refine byG ?_;refine W_cond rfl (fun h=>?_) (fun h=>?_)
  ·have hz:memRB x=false:=bad_no (mem_bad x) (show memBad x=true from h)
   refine byG ?_;refine⟨_,rfl,ret_b rfl ?_,hw.ds [0,0]⟩
   rw[hal,hz];rfl
  ·have hz:memRB x=true:=bad_ok (mem_bad x) (show memBad x=false from h)
   rw[hz,Bool.true_and]at hal;refine byG ?_;exact⟨μ-1,by omega,k+1,by omega,⟨rfl,rfl,trivial⟩,hal,hw.drop⟩
 have hkn:n4≤k:=by have:=of_decide_eq_false h;omega
 clear h;rw[allE (by omega)]at hal
 rw[hal,Bool.true_and];clear hk hρ;refine byG ?_;refine W_loop (fun μ ρ w=>∃(k:Nat),μ+k=n5∧Has ρ [(1,.pointer (some ⟨b1,0,none⟩)),(11,.int .i64 k)]∧H.Devs.all (devRB)=(H.Devs.drop k).all (devRB)∧Wd Γ (.blk b1 (hwC H a1 n1 c1 a2 n2 c2 a3 n3 c3 a4 n4 c4 a5 n5 c5)::S) w) n5 ⟨0,by omega,⟨rfl,rfl,trivial⟩,rfl,hw⟩ ?_
 clear hw hal;rintro μ ρ w ⟨k,hk,hρ,hal,hw⟩
 rw[hρ.eq];refine byG ?_;refine W_cond rfl (fun h=>?_) (fun h=>?_)
 ·have hkn:k<n5:=by have:=of_decide_eq_true h;omega
  clear h;obtain⟨x,hx⟩:=get_lt (l:=H.Devs) (k:=k) (by omega)
  rw[allD hx]at hal;refine byG ?_;refine lAlloc ?_;intro b6 w hw;refine lStore ?_;intro w hw;have hw:Wd Γ (.blk b6 (.cells (enc x).toArray 85)::.blk b1 (hwC H a1 n1 c1 a2 n2 c2 a3 n3 c3 a4 n4 c4 a5 n5 c5)::S) w:=hw
  refine byG ?_;refine W_cond rfl (fun h=>?_) (fun h=>?_)
  ·have hz:devRB x=false:=bad_no (dev_bad x) (show devBad x=true from h)
   refine byG ?_;refine⟨_,rfl,ret_b rfl ?_,hw.ds [0,0]⟩
   rw[hal,hz];rfl
  ·have hz:devRB x=true:=bad_ok (dev_bad x) (show devBad x=false from h)
   rw[hz,Bool.true_and]at hal;refine byG ?_;exact⟨μ-1,by omega,k+1,by omega,⟨rfl,rfl,trivial⟩,hal,hw.drop⟩
 have hkn:n5≤k:=by have:=of_decide_eq_false h;omega
 clear h;rw[allE (by omega)]at hal
 rw[hal];clear hk hρ;refine byG ?_;exact⟨_,rfl,rfl,hw.drop⟩
def memAR(m:MemT):Bool:=powB m.Size&&decide (m.Base.tmod m.Size=0)
theorem aligned_any{Γ:Gho}{u:Value}{H:HwT}[hh:HwR Γ u H]{S:List Res}{w:World}(hw:Wd Γ S w) :
  Calls Tryz.prog 62 #[u] w fun e w'=>e=.returned (.bool (H.Mems.all memAR&&H.Devs.all devAB))∧Wd Γ S w':=by
 obtain⟨a1,n1,c1,a2,n2,c2,a3,n3,c3,a4,n4,c4,a5,n5,c5,cs,rfl,hcs,hok,hsz,r1,r2,r3,r4,r5⟩:=hh.h;obtain⟨f1,f1',f1''⟩:=rep_facts r1
 obtain⟨f2,f2',f2''⟩:=rep_facts r2
 obtain⟨f3,f3',f3''⟩:=rep_facts r3
 obtain⟨f4,f4',f4''⟩:=rep_facts r4
 obtain⟨f5,f5',f5''⟩:=rep_facts r5
 simp only[List.length_map]at f1 f2 f3 f4 f5
 have hcl:cs.length=H.Caches.length:=by rw[←hcs,List.length_map]
 refine calls_of_W Tryz.func62 rfl rfl ?_
 refine byG ?_;refine lBox ?_;intro b1 w hw;have hw:Wd Γ (.blk b1 (hwC H a1 n1 c1 a2 n2 c2 a3 n3 c3 a4 n4 c4 a5 n5 c5)::S) w:=hw
 refine byG ?_;refine W_loop (fun μ ρ w=>∃(k:Nat),μ+k=n4∧Has ρ [(1,.pointer (some ⟨b1,0,none⟩)),(3,.int .i64 k)]∧H.Mems.all (memAR)=(H.Mems.drop k).all (memAR)∧Wd Γ (.blk b1 (hwC H a1 n1 c1 a2 n2 c2 a3 n3 c3 a4 n4 c4 a5 n5 c5)::S) w) n4 ⟨0,by omega,⟨rfl,rfl,trivial⟩,rfl,hw⟩ ?_
 clear hw;rintro μ ρ w ⟨k,hk,hρ,hal,hw⟩
 rw[hρ.eq];refine byG ?_;refine W_cond rfl (fun h=>?_) (fun h=>?_)
 ·have hkn:k<n4:=by have:=of_decide_eq_true h;omega
  clear h;obtain⟨x,hx⟩:=get_lt (l:=H.Mems) (k:=k) (by omega)
  rw[allD hx]at hal;refine byG ?_;refine lAlloc ?_;intro b6 w hw;refine lStore ?_;intro w hw;have hw:Wd Γ (.blk b6 (.cells (enc x).toArray 83)::.blk b1 (hwC H a1 n1 c1 a2 n2 c2 a3 n3 c3 a4 n4 c4 a5 n5 c5)::S) w:=hw
  have hS:memAR x=(powB x.Size&&decide (x.Base.tmod x.Size=0)):=rfl
  have hPN:PC Tryz.prog 116 [.int .u64 x.Size] (.bool (powB x.Size)):=inferInstance
  cases h1:powB x.Size with
  | false=>
   rw[h1]at hPN;repeat(first|(first|refine W_seq ?_|refine W_block ?_|refine W_region ?_|refine W_skip ?_|refine W_ret ?_|refine W_exit ?_)|((first|apply L_bin|apply L_notop);first|(refine lT ?_ ?_;(first|exact rfl|exact decide_eq_true rfl|(simp;done)))|(refine lF ?_ ?_;(first|exact rfl|exact decide_eq_true rfl|(simp;done))))|(first|refine L_nil ?_|(apply L_plain;first|(apply L_go;first|refine lP ?_|(refine lPg ?_;intro w hw))|(apply L_mf;refine lMakeFunc ?_)|refine lY ?_)|(apply L_guarded;first|refine lGT ?_ (hct:=rfl)|refine lGF ?_ (hct:=rfl)|(apply L_go;first|refine lPG ?_|(refine lPgG ?_;intro w hw))|refine lG ?_))|(refine lAlloc ?_;intro _ w hw)|(refine lBox ?_;intro _ w hw)|(refine lStore ?_;intro w hw))
   refine W_cond_true rfl ?_
   refine byG ?_;refine⟨_,rfl,ret_b rfl ?_,hw.ds [0,0]⟩
   rw[hal,hS,h1];rfl
  | true=>
   rw[h1]at hPN;have hpos:0<x.Size:=by
    unfold powB at h1;rw[Bool.and_eq_true,decide_eq_true_eq]at h1;exact h1.1
   cases hb1:decide (x.Base.tmod x.Size≠0) with
   | true=>
    have h3:¬x.Base.tmod x.Size=0:=of_decide_eq_true hb1
    repeat(first|(first|refine W_seq ?_|refine W_block ?_|refine W_region ?_|refine W_skip ?_|refine W_ret ?_|refine W_exit ?_)|((first|apply L_bin|apply L_notop);first|(refine lT ?_ ?_;(first|exact hb1|exact hb2|exact hb3|exact hb4))|(refine lF ?_ ?_;(first|exact hb1|exact hb2|exact hb3|exact hb4)))|(first|refine L_nil ?_|(apply L_plain;first|(apply L_go;first|refine lP ?_|(refine lPg ?_;intro w hw))|(apply L_mf;refine lMakeFunc ?_)|refine lY ?_)|(apply L_guarded;first|refine lGT ?_ (hct:=rfl)|refine lGF ?_ (hct:=rfl)|(apply L_go;first|refine lPG ?_|(refine lPgG ?_;intro w hw))|refine lG ?_))|(refine lAlloc ?_;intro _ w hw)|(refine lBox ?_;intro _ w hw)|(refine lStore ?_;intro w hw))
    refine W_cond_true rfl ?_
    refine byG ?_;refine⟨_,rfl,ret_b rfl ?_,hw.ds [0,0]⟩
    rw[hal,hS,h1,decide_eq_false h3];rfl
   | false=>
    have h3:x.Base.tmod x.Size=0:=Classical.byContradiction fun q=>(of_decide_eq_false hb1) q
    rw[hS,h1,decide_eq_true h3]at hal;have hal:H.Mems.all memAR=(H.Mems.drop (k+1)).all memAR:=hal
    repeat(first|(first|refine W_seq ?_|refine W_block ?_|refine W_region ?_|refine W_skip ?_|refine W_ret ?_|refine W_exit ?_)|((first|apply L_bin|apply L_notop);first|(refine lT ?_ ?_;(first|exact hb1|exact hb2|exact hb3|exact hb4))|(refine lF ?_ ?_;(first|exact hb1|exact hb2|exact hb3|exact hb4)))|(first|refine L_nil ?_|(apply L_plain;first|(apply L_go;first|refine lP ?_|(refine lPg ?_;intro w hw))|(apply L_mf;refine lMakeFunc ?_)|refine lY ?_)|(apply L_guarded;first|refine lGT ?_ (hct:=rfl)|refine lGF ?_ (hct:=rfl)|(apply L_go;first|refine lPG ?_|(refine lPgG ?_;intro w hw))|refine lG ?_))|(refine lAlloc ?_;intro _ w hw)|(refine lBox ?_;intro _ w hw)|(refine lStore ?_;intro w hw))
    refine W_cond_false rfl ?_
    refine byG ?_;exact⟨μ-1,by omega,k+1,by omega,⟨rfl,rfl,trivial⟩,hal,hw.drop⟩
 have hkn:n4≤k:=by have:=of_decide_eq_false h;omega
 clear h;rw[allE (by omega)]at hal
 rw[hal,Bool.true_and];clear hk hρ;refine byG ?_;refine W_loop (fun μ ρ w=>∃(k:Nat),μ+k=n5∧Has ρ [(1,.pointer (some ⟨b1,0,none⟩)),(5,.int .i64 k)]∧H.Devs.all (devAB)=(H.Devs.drop k).all (devAB)∧Wd Γ (.blk b1 (hwC H a1 n1 c1 a2 n2 c2 a3 n3 c3 a4 n4 c4 a5 n5 c5)::S) w) n5 ⟨0,by omega,⟨rfl,rfl,trivial⟩,rfl,hw⟩ ?_
 clear hw hal;rintro μ ρ w ⟨k,hk,hρ,hal,hw⟩
 rw[hρ.eq];refine byG ?_;refine W_cond rfl (fun h=>?_) (fun h=>?_)
 ·have hkn:k<n5:=by have:=of_decide_eq_true h;omega
  clear h;obtain⟨x,hx⟩:=get_lt (l:=H.Devs) (k:=k) (by omega)
  rw[allD hx]at hal;refine byG ?_;refine lAlloc ?_;intro b6 w hw;refine lStore ?_;intro w hw;have hw:Wd Γ (.blk b6 (.cells (enc x).toArray 85)::.blk b1 (hwC H a1 n1 c1 a2 n2 c2 a3 n3 c3 a4 n4 c4 a5 n5 c5)::S) w:=hw
  refine byG ?_;refine W_cond rfl (fun h=>?_) (fun h=>?_)
  ·have h:(decide (x.Base.tmod 4096≠0)||decide (x.Size.tmod 4096≠0))=true:=h
   have hz:devAB x=false:=by
    unfold devAB;simp only[Bool.or_eq_true,decide_eq_true_eq]at h
    rw[Bool.and_eq_false_iff,decide_eq_false_iff_not,decide_eq_false_iff_not];exact h
   refine byG ?_;refine⟨_,rfl,ret_b rfl ?_,hw.ds [0,0]⟩
   rw[hal,hz];rfl
  ·have h:(decide (x.Base.tmod 4096≠0)||decide (x.Size.tmod 4096≠0))=false:=h
   have hz:devAB x=true:=by
    unfold devAB;simp only[Bool.or_eq_false_iff,decide_eq_false_iff_not,Decidable.not_not]at h
    rw[Bool.and_eq_true,decide_eq_true_eq,decide_eq_true_eq];exact h
   rw[hz,Bool.true_and]at hal;refine byG ?_;exact⟨μ-1,by omega,k+1,by omega,⟨rfl,rfl,trivial⟩,hal,hw.drop⟩
 have hkn:n5≤k:=by have:=of_decide_eq_false h;omega
 clear h;rw[allE (by omega)]at hal
 rw[hal];clear hk hρ;refine byG ?_;exact⟨_,rfl,rfl,hw.drop⟩
theorem pow_of_and:∀(n:Nat),0<n→n &&& (n-1)=0→∃e,n=2 ^ e:=by
 intro n;induction n using Nat.strongRecOn with
 | ind n ih=>
  intro h0 h;have h1:(n / 2) &&& ((n-1) / 2)=0:=by rw[←Nat.and_div_two,h]
  by_cases e:n%2=0
  ·have h2:(n-1) / 2=n / 2-1:=by omega
   rw[h2]at h1;obtain⟨e1,he⟩:=ih (n / 2) (by omega) (by omega) h1
   exact⟨e1+1,by rw[Nat.pow_succ,←he];omega⟩
  ·have h2:(n-1) / 2=n / 2:=by omega
   rw[h2,Nat.and_self]at h1;exact⟨0,by omega⟩
def u64I(n:Int):Prop:=0≤n∧n<18446744073709551616
theorem bitsU{a b:Int}(ha:u64I a)(hb:u64I b):bitsZ .and .u64 a b=((a.toNat &&& b.toNat:Nat):Int):=by
 unfold u64I at ha hb;have h1:(BitVec.ofInt 64 a).toNat=a.toNat:=by rw[BitVec.toNat_ofInt];omega
 have h2:(BitVec.ofInt 64 b).toNat=b.toNat:=by rw[BitVec.toNat_ofInt];omega
 have h3:(BitVec.ofInt 64 a &&& BitVec.ofInt 64 b).toNat=a.toNat &&& b.toNat:=by rw[BitVec.toNat_and,h1,h2]
 have h4:a.toNat &&& b.toNat≤a.toNat:=Nat.and_le_left
 show IntKind.u64.wrap ((BitVec.ofInt 64 a &&& BitVec.ofInt 64 b).toNat:Nat)=_
 rw[h3];simp[IntKind.wrap,IntKind.bits,IntKind.signed]
 omega
theorem align_eq{b s:Int}(hb:u64I b)(hs:4096≤s∧s≤1099511627776) :
  (powB s&&decide (b.tmod s=0))=(decide (bitsZ .and .u64 s (IntKind.u64.wrap (s-1))=0)&&decide (bitsZ .and .u64 b (IntKind.u64.wrap (s-1))=0)):=by
 have hw:IntKind.u64.wrap (s-1)=s-1:=by simp[IntKind.wrap,IntKind.bits,IntKind.signed];omega
 have hs1:u64I s:=by unfold u64I;omega
 have hs2:u64I (s-1):=by unfold u64I;omega
 unfold powB;rw[hw,bitsU hs1 hs2,bitsU hb hs2,decide_eq_true (show 0<s by omega),Bool.true_and]
 by_cases e:((s.toNat &&& (s-1).toNat:Nat):Int)=0
 ·rw[decide_eq_true e,Bool.true_and,Bool.true_and];have e0:s.toNat &&& (s.toNat-1)=0:=by
   have:(s-1).toNat=s.toNat-1:=by omega
   rw[this]at e;omega
  obtain⟨p,hp⟩:=pow_of_and s.toNat (by omega) e0
  have h1:(s-1).toNat=2 ^ p-1:=by omega
  rw[h1,Nat.and_two_pow_sub_one_eq_mod,←hp];unfold u64I at hb;rw[Int.tmod_eq_emod_of_nonneg hb.1];congr 1
  apply propext
  have h2:b%s=((b.toNat%s.toNat:Nat):Int):=by
   rw[Int.natCast_emod];congr 1 <;> omega
  rw[h2]
 ·rw[decide_eq_false e,Bool.false_and,Bool.false_and]
def MemWide(H:HwT):Prop:=∀x∈H.Mems,u64I x.Base
theorem align_ref{H:HwT}(hw:MemWide H)(hr:regionsRB H=true):(H.Mems.all memAR&&H.Devs.all devAB)=alignRB H:=by
 have:H.Mems.all memAR=H.Mems.all memAB:=by
  unfold regionsRB at hr;simp only[Bool.and_eq_true,List.all_eq_true]at hr
  rw[Bool.eq_iff_iff,List.all_eq_true,List.all_eq_true];have key:∀x∈H.Mems,memAR x=memAB x:=fun x hx=>by
   have h1:=hr.1 x hx
   simp only[memRB,inSpaceB,Bool.and_eq_true,decide_eq_true_eq]at h1
   exact align_eq (hw x hx) (by omega)
  exact⟨fun h x hx=>by rw[←key x hx];exact h x hx,fun h x hx=>by rw[key x hx];exact h x hx⟩
 unfold alignRB;rw[this]
end Go.Proofs.YtfoggcgogafocaaGreat
end
section
open Go Mk
namespace Go.Proofs.YtfoggcgogafocaaGreat
def methF(P:Program)(t:TypeId)(name:String):Option (Nat×Bool):=
 match P.info? t with
 | some i=>match i.methods.find? (·.name == name) with
  | some m=>if m.path.isEmpty then m.func else none
  | none=>none
 | none=>none
class MetP(P:Program)(t:TypeId)(name:String)(f:outParam Nat):Prop where
 h:methF P t name=some (f,true)
 e:∃u,P.underlying t=some (.pointer u)
class MetV(P:Program)(t:TypeId)(name:String)(f:outParam Nat)(u:outParam TypeId):Prop where
 h:methF P t name=some (f,false)
 e:P.underlying t=some (.pointer u)
section
variable {P:Program}{t u:TypeId}{name:String}{f:Nat}{w:World}
theorem methF_spec{b:Bool}(h:methF P t name=some (f,b)):∃i m,P.info? t=some i∧i.methods.find? (·.name == name)=some m∧m.path = #[]∧m.func=some (f,b):=by
 unfold methF at h;cases hi:P.info? t with
 | none=>simp[hi]at h
 | some i=>
  simp only[hi]at h
  cases hm:i.methods.find? (·.name == name) with
  | none=>simp[hm]at h
  | some m=>
   simp only[hm]at h
   by_cases hp:m.path.isEmpty=true
   ·rw[if_pos hp]at h;exact⟨i,m,rfl,hm,by simpa using hp,h⟩
   ·rw[if_neg hp]at h;cases h
theorem depth_succ:∃k,P.types.size+Made.depth=k+1:=⟨P.types.size+Made.depth-1,by unfold Made.depth;omega⟩
theorem run_metP[hm:MetP P t name f]{v:Value}:(method (P.types.size+Made.depth) t v name).run P w=.ok (f,v) w:=by
 obtain⟨u,hu⟩:=hm.e;obtain⟨i,m,hi,hf,hp,hg⟩:=methF_spec hm.h
 obtain⟨k,hk⟩:=depth_succ (P:=P)
 rw[hk];unfold method;simp only[Sem.run_bind,typeInfo]
 simp[hi,hf,hp,hg,follow,receiverAt,run_underlying hu,Place.get]
theorem run_wrapNil{T U:TypeId}{a:Addr}{s m:String}:(Builtin.ssaWrapNilChk_ #[T] U #[.pointer (some a),strVal s,strVal m]).run P w=.ok (.pointer (some a)) w:=rfl
theorem run_metV[hm:MetV P t name f u]{a:Addr}{x:Value}(hl:(loadVar u a).run P w=.ok x w):(method (P.types.size+Made.depth) t (.pointer (some a)) name).run P w=.ok (f,x) w:=by
 obtain⟨i,m,hi,hf,hp,hg⟩:=methF_spec hm.h
 obtain⟨k,hk⟩:=depth_succ (P:=P)
 rw[hk];unfold method;simp only[Sem.run_bind,typeInfo]
 simp[hi,hf,hp,hg,follow,receiverAt,run_underlying hm.e,Place.get,run_wrapNil,asAddr,hl]
variable {n:Nat}{opa:Array Oper}{QQ:Exit→Fr→World→Prop}{ρ:Fr}{rest:List Oper}{K:Value→World→Prop}
variable {d:Option Tmp}{ty:TypeId}{pos:String}{es:Array Edge}{args:List Operand}{tys:Array TypeId}{vs:List Value}{r:Operand}{g:Option (Nat×Bool)}
theorem s_inv{v:Value}{x:Value}[FnOk P f](hr:ev ρ r=.iface t v)(hm:(method (P.types.size+Made.depth) t v name).run P w=.ok (f,x) w)(ha:args.toArray.map (ev ρ)=vs.toArray)(hc:Calls P f (x::vs).toArray w fun e w'=>∃v,e=.returned v∧K v w') :
  Step P ⟨d,.call { callee:=.invoke r name,args:=args.toArray,argTypes:=tys },ty,pos,es,g⟩ ρ w K:=by
 have hx:(#[x]++vs.toArray:Array Value)=(x::vs).toArray:=by simp
 have hr:(execOp (ev ρ) ⟨d,.call { callee:=.invoke r name,args:=args.toArray,argTypes:=tys },ty,pos,es,g⟩).run P w=.ok (.enter f (x::vs).toArray) w:=by
  have hq:∀l:Array Value,(#[Value.iface t v]++l)[0]? = some (Value.iface t v):=fun l=>by rw[Array.getElem?_append_left (by simp)];rfl
  have hq2:∀l:Array Value,(#[Value.iface t v]++l).extract 1 (#[Value.iface t v]++l).size=l:=fun l=>by
   apply Array.ext' ; simp
  simp only[execOp,resolve,ha,hr,Sem.run_bind,Sem.run_pure,Result.andThen_ok,invoke]
  simp only[hq,hq2,callMethod,Sem.run_bind,run_program,Result.andThen_ok,hm]
  simp only[hx]
  simp[run_callFunc]
 unfold Step;rw[hr];exact hc
theorem lInv{v:Value}[MetP P t name f][FnOk P f](hc:Calls P f (v::vs).toArray w fun e w'=>∃v,e=.returned v∧L P n opa QQ rest (putO ρ d v) w')(hr:ev ρ r=.iface t v:=by exact rfl)(ha:EvL ρ args vs:=by exact byEV)(hd:okDst n d=true:=by exact rfl) :
  L P n opa QQ (⟨d,.call { callee:=.invoke r name,args:=args.toArray,argTypes:=tys },ty,pos,es,none⟩::rest) ρ w:=L_step rfl hd (s_inv hr run_metP ha.eqA hc)
theorem lInvV{a:Addr}{x:Value}[MetV P t name f u][FnOk P f](hl:(loadVar u a).run P w=.ok x w)(hc:Calls P f (x::vs).toArray w fun e w'=>∃v,e=.returned v∧L P n opa QQ rest (putO ρ d v) w')(hr:ev ρ r=.iface t (.pointer (some a)):=by exact rfl)(ha:EvL ρ args vs:=by exact byEV)(hd:okDst n d=true:=by exact rfl) :
  L P n opa QQ (⟨d,.call { callee:=.invoke r name,args:=args.toArray,argTypes:=tys },ty,pos,es,none⟩::rest) ρ w:=L_step rfl hd (s_inv hr (run_metV hl) ha.eqA hc)
theorem loadVar_cell{b:Nat}{o:Nat}{x:Value}{Γ:Gho}{S:List Res}{i:Nat}{cs:Array Value}{E:TypeId}[hs:TS P u](hw:Wd Γ S w)(hi:S[i]? = some (.blk b (.cells cs E)))(hc:cs[o]? = some x):(loadVar u ⟨b,o,none⟩).run P w=.ok x w:=by
 have:=cell_of (hw.at_blk hi) hc
 simp[loadVar,go_sem,scal_isAgg hs.h,this]
theorem y_assert{T U:TypeId}{v:Value}{fs:Array Field}{xx:Operand}(hu:P.underlying U=some (.struct fs))(hx:ev ρ xx=.iface U v):Mk.Yields P ⟨d,.typeAssert xx T U false,ty,pos,es,g⟩ ρ w v:=by
 unfold Mk.Yields;simp[execOp,hx,Instr.typeAssert,run_underlying hu,Sem.run_bind,Sem.run_pure,Result.andThen]
theorem lInvP{Γ:Gho}{S Y:List Res}{a:Addr}{x v:Value}[MetV P t name f u][FnOk P f](hp:PS P Γ S f (x::vs) v)(hl:(loadVar u a).run P w=.ok x w)(h:∀w',Wd Γ (S++Y) w'→L P n opa QQ rest (putO ρ d v) w')(hw:Wd Γ (S++Y) w:=by exact hw)(hd:okDst n d=true:=by exact rfl)(hr:ev ρ r=.iface t (.pointer (some a)):=by exact rfl)(ha:EvL ρ args vs:=by exact byEV) :
  L P n opa QQ (⟨d,.call { callee:=.invoke r name,args:=args.toArray,argTypes:=tys },ty,pos,es,none⟩::rest) ρ w:=
 L_step rfl hd (s_inv hr (run_metV hl) ha.eqA ((hp.h Y w hw).mono fun _ w' ⟨h1,h2⟩=>⟨v,h1,h w' h2⟩))
theorem lInvPG{Γ:Gho}{S Y:List Res}{a:Addr}{x v:Value}{j dj:Nat}{want c:Bool}[MetV P t name f u][FnOk P f](hp:c=true→PS P Γ S f (x::vs) v)(hl:(loadVar u a).run P w=.ok x w)(h:∀w',Wd Γ (S++Y) w'→L P n opa QQ rest (putO ρ d (gv c v)) w')(hw:Wd Γ (S++Y) w:=by exact hw)(hj:(opa[j]?).bind (·.dst)=some dj:=by exact rfl)(hjn:okDst n (some dj)=true:=by exact rfl)(hc:GuardIs (ρ dj) want c:=by exact byGC)(hd:okDst n d=true:=by exact rfl)(hr:c=true→ev ρ r=.iface t (.pointer (some a)):=by intro hc;exact byOP)(ha:c=true→EvL ρ args vs:=by intro hc;exact byEVG) :
  L P n opa QQ (⟨d,.call { callee:=.invoke r name,args:=args.toArray,argTypes:=tys },ty,pos,es,some (j,want)⟩::rest) ρ w:=
 lGC hj hjn hd hc (fun hct=>lInvP (hp hct) hl (fun w' hw'=>by have:=h w' hw';rwa [gvT hct rfl]at this) hw hd (hr hct) (ha hct)) (fun hcf=>by have:=h w hw;rwa [show gv c v=undef from by rw[hcf];unfold gv;rfl]at this)
def concT(P:Program)(T:TypeId):Bool:=match P.underlying T with
 | some (.interface _)=>false
 | some _=>true
 | none=>false
class TCo(P:Program)(T:TypeId):Prop where h:concT P T=true
theorem y_mkI{T:TypeId}{v:Value}{xx:Operand}[hc:TCo P T](hx:ev ρ xx=v):Mk.Yields P ⟨d,.makeInterface T xx,ty,pos,es,g⟩ ρ w (.iface T v):=by
 have h:=hc.h
 unfold concT at h;unfold Mk.Yields;cases hu:P.underlying T with
 | none=>simp[hu]at h
 | some t=>
  cases t <;> first|(simp[hu]at h;done)|simp[execOp,hx,Instr.makeInterface,run_underlying hu,Sem.run_bind,Sem.run_pure,Result.andThen]
end
end Go.Proofs.YtfoggcgogafocaaGreat
end
section
namespace Go.Proofs.YtfoggcgogafocaaGreat
abbrev Pl:=Int×Int
def hk(l:List Pl)(i:Nat):Int:=(l.getD i (0,0)).2
theorem hk_of{l:List Pl}{i:Nat}{x:Pl}(h:l[i]? = some x):hk l i=x.2:=by unfold hk;rw[List.getD_eq_getElem?_getD,h];rfl
def swp(l:List Pl)(i j:Nat):List Pl:=(l.set i (l.getD j (0,0))).set j (l.getD i (0,0))
theorem swp_len(l:List Pl)(i j:Nat):(swp l i j).length=l.length:=by simp[swp]
theorem swp_get{l:List Pl}{i j:Nat}(hi:i<l.length)(hj:j<l.length)(k:Nat):(swp l i j)[k]? = if k=j then l[i]? else if k=i then l[j]? else l[k]?:=by
 unfold swp;rw[List.getElem?_set];by_cases h1:j=k
 ·subst h1;rw[if_pos rfl,if_pos (by simpa using hj),if_pos rfl]
  rw[List.getD_eq_getElem?_getD,List.getElem?_eq_getElem hi];rfl
 ·rw[if_neg h1,if_neg (Ne.symm h1),List.getElem?_set];by_cases h2:i=k
  ·subst h2;rw[if_pos rfl,if_pos hi,if_pos rfl,List.getD_eq_getElem?_getD,List.getElem?_eq_getElem hj];rfl
  ·rw[if_neg h2,if_neg (Ne.symm h2)]
theorem swp_hk{l:List Pl}{i j:Nat}(hi:i<l.length)(hj:j<l.length)(k:Nat):hk (swp l i j) k=if k=j then hk l i else if k=i then hk l j else hk l k:=by
 unfold hk;simp only[List.getD_eq_getElem?_getD,swp_get hi hj]
 split
 ·rfl
 ·split <;> rfl
theorem swp_perm{l:List Pl}{i j:Nat}(hi:i<l.length)(hj:j<l.length):(swp l i j).Perm l:=by
 rw[List.perm_iff_count];intro a;have e1:l.getD i (0,0)=l[i]:=by rw[List.getD_eq_getElem?_getD,List.getElem?_eq_getElem hi];rfl
 have e2:l.getD j (0,0)=l[j]:=by rw[List.getD_eq_getElem?_getD,List.getElem?_eq_getElem hj];rfl
 unfold swp;rw[e1,e2];by_cases e:i=j
 ·subst e;rw[List.set_set];simp
 ·rw[List.count_set (by simpa using hj),List.count_set hi]
  rw[List.getElem_set_ne e];have h1:(if l[i] == a then 1 else 0)≤l.count a:=by
   split
   ·rename_i h;exact List.one_le_count_iff.2 (by rw[←eq_of_beq h];exact List.getElem_mem ..)
   ·omega
  have h2:(if l[j] == a then 1 else 0)≤l.count a:=by
   split
   ·rename_i h;exact List.one_le_count_iff.2 (by rw[←eq_of_beq h];exact List.getElem_mem ..)
   ·omega
  omega
def HeapN(l:List Pl)(n:Nat):Prop:=∀k,0<k→k<n→hk l ((k-1) / 2)≤hk l k
def UpL(l:List Pl)(j:Nat):Prop:=(∀k,0<k→k<l.length→k≠j→hk l ((k-1) / 2)≤hk l k)∧(0<j→∀k,0<k→k<l.length→(k-1) / 2=j→hk l ((j-1) / 2)≤hk l k)
def DownL(l:List Pl)(i n:Nat):Prop:=(∀k,0<k→k<n→(k-1) / 2≠i→hk l ((k-1) / 2)≤hk l k)∧(0<i→∀k,0<k→k<n→(k-1) / 2=i→hk l ((i-1) / 2)≤hk l k)
theorem up_step{l:List Pl}{j:Nat}(h:UpL l j)(h0:0<j)(hj:j<l.length)(hlt:hk l j<hk l ((j-1) / 2)):UpL (swp l ((j-1) / 2) j) ((j-1) / 2):=by
 have hi:(j-1) / 2<l.length:=by omega
 refine⟨fun k k0 kn ki=>?_,fun i0 k k0 kn kp=>?_⟩
 ·rw[swp_len]at kn;rw[swp_hk hi hj,swp_hk hi hj];by_cases e:k=j
  ·subst e;rw[if_neg (by omega),if_pos rfl,if_pos rfl];omega
  ·rw[if_neg e,if_neg ki];have hd:=h.1 k k0 kn e
   by_cases e2:(k-1) / 2=j
   ·rw[if_pos e2];exact h.2 h0 k k0 kn e2
   ·rw[if_neg e2];by_cases e3:(k-1) / 2=(j-1) / 2
    ·rw[if_pos e3];rw[e3]at hd;omega
    ·rw[if_neg e3];exact hd
 ·rw[swp_len]at kn;rw[swp_hk hi hj,swp_hk hi hj];rw[if_neg (by omega),if_neg (by omega)]
  have hd:=h.1 _ i0 hi (by omega)
  by_cases e:k=j
  ·rw[if_pos e];exact hd
  ·rw[if_neg e,if_neg (by omega)]
   have:=h.1 k k0 kn e
   rw[kp]at this;omega
theorem up_stop{l:List Pl}{j:Nat}(h:UpL l j)(hs:j=0∨hk l ((j-1) / 2)≤hk l j):HeapN l l.length:=fun k k0 kn=>by
 by_cases e:k=j
 ·subst e;exact hs.resolve_left (by omega)
 ·exact h.1 k k0 kn e
theorem up_init{l:List Pl}{x:Pl}(h:HeapN l l.length):UpL (l++[x]) l.length:=by
 have hq:∀k,k<l.length→hk (l++[x]) k=hk l k:=fun k hk'=>by
  unfold hk;rw[List.getD_eq_getElem?_getD,List.getD_eq_getElem?_getD,List.getElem?_append_left hk']
 refine⟨fun k k0 kn ki=>?_,fun i0 k k0 kn kp=>?_⟩
 ·simp only[List.length_append,List.length_singleton]at kn
  rw[hq k (by omega),hq _ (by omega)];exact h k k0 (by omega)
 ·simp only[List.length_append,List.length_singleton]at kn;omega
theorem down_step{l:List Pl}{i j n:Nat}(h:DownL l i n)(hn:n≤l.length)(hj:j<n)(h0:0<j)(hp:(j-1) / 2=i)(hlt:hk l j<hk l i)(hmin:∀k,0<k→k<n→(k-1) / 2=i→hk l j≤hk l k):DownL (swp l i j) j n:=by
 have hi':i<l.length:=by omega
 have hj':j<l.length:=by omega
 refine⟨fun k k0 kn kp=>?_,fun _ k k0 kn kp=>?_⟩
 ·rw[swp_hk hi' hj',swp_hk hi' hj',if_neg kp];by_cases e:(k-1) / 2=i
  ·rw[if_pos e];by_cases e2:k=j
   ·rw[if_pos e2];omega
   ·rw[if_neg e2,if_neg (by omega)];exact hmin k k0 kn e
  ·rw[if_neg e,if_neg (fun e2=>e (by rw[e2];exact hp))]
   by_cases e2:k=i
   ·rw[if_pos e2];subst e2;exact h.2 k0 j h0 hj hp
   ·rw[if_neg e2];exact h.1 k k0 kn e
 ·rw[swp_hk hi' hj',swp_hk hi' hj',hp,if_neg (by omega),if_pos rfl,if_neg (by omega),if_neg (by omega)]
  have:=h.1 k k0 kn (by omega)
  rw[kp]at this;exact this
theorem down_stop{l:List Pl}{i n:Nat}(h:DownL l i n)(hs:∀k,0<k→k<n→(k-1) / 2=i→hk l i≤hk l k):HeapN l n:=fun k k0 kn=>by
 by_cases e:(k-1) / 2=i
 ·rw[e];exact hs k k0 kn e
 ·exact h.1 k k0 kn e
theorem down_init{l:List Pl}{n:Nat}(h:HeapN l l.length)(hn:l.length=n+1):DownL (swp l 0 n) 0 n:=by
 refine⟨fun k k0 kn kp=>?_,fun h0=>absurd h0 (by omega)⟩
 rw[swp_hk (by omega) (by omega),swp_hk (by omega) (by omega),if_neg (by omega),if_neg kp,if_neg (by omega),if_neg (by omega)]
 exact h k k0 (by omega)
theorem heap_root{l:List Pl}{n:Nat}(h:HeapN l n):∀k,k<n→hk l 0≤hk l k:=by
 intro k;induction k using Nat.strongRecOn with
 | ind k ih=>
  intro hk';by_cases e:k=0
  ·subst e;exact Int.le_refl _
  ·have:=h k (by omega) hk'
   have:=ih ((k-1) / 2) (by omega) (by omega)
   omega
theorem heap_take{l:List Pl}{n:Nat}(h:HeapN l n)(hn:n≤l.length):HeapN (l.take n) (l.take n).length:=fun k k0 kn=>by
 simp only[List.length_take]at kn
 have hq:∀m,m<n→hk (l.take n) m=hk l m:=fun m hm=>by
  unfold hk;rw[List.getD_eq_getElem?_getD,List.getD_eq_getElem?_getD,List.getElem?_take_of_lt hm]
 rw[hq k (by omega),hq _ (by omega)]
 exact h k k0 (by omega)
theorem heap_min{l:List Pl}{x:Pl}(h:HeapN l l.length)(hx:l[0]? = some x):∀y∈l,x.2≤y.2:=fun y hy=>by
 obtain⟨k,hk2⟩:=List.mem_iff_getElem?.1 hy
 have hk1:=(List.getElem?_eq_some_iff.1 hk2).1
 have:=heap_root h k hk1
 rw[hk_of hx,hk_of hk2]at this;exact this
theorem perm_take{l L:List Pl}{n:Nat}{x:Pl}(hp:L.Perm l)(hn:L.length=n+1)(hx:L[n]? = some x):(x::L.take n).Perm l:=by
 have h1:L.take n++[x]=L:=by
  have:=List.take_append_drop n L
  obtain⟨hlt,he⟩:=List.getElem?_eq_some_iff.1 hx
  rw[List.drop_eq_getElem_cons hlt,he,List.drop_eq_nil_of_le (by omega)]at this
  exact this
 refine(List.Perm.trans ?_ hp)
 have h2:(x::L.take n).Perm (L.take n++[x]):=List.perm_append_comm (l₁:=[x])
 rw[h1]at h2;exact h2
end Go.Proofs.YtfoggcgogafocaaGreat
end
section
open Go Mk
namespace Go.Proofs.YtfoggcgogafocaaGreat
set_option maxHeartbeats 4000000
attribute [local irreducible] Calls
instance:MetP Tryz.prog 166 "multikernel/route.add" 270:=⟨by kernel_rfl,⟨_,TPtr.h⟩⟩
instance:MetP Tryz.prog 166 "multikernel/route.take" 272:=⟨by kernel_rfl,⟨_,TPtr.h⟩⟩
instance:MetP Tryz.prog 166 "multikernel/route.empty" 271:=⟨by kernel_rfl,⟨_,TPtr.h⟩⟩
instance:MetP Tryz.prog 166 "Push" 282:=⟨by kernel_rfl,⟨_,TPtr.h⟩⟩
instance:MetP Tryz.prog 166 "Pop" 281:=⟨by kernel_rfl,⟨_,TPtr.h⟩⟩
instance:MetV Tryz.prog 166 "Len" 269 167:=⟨by kernel_rfl,TPtr.h⟩
instance:MetV Tryz.prog 166 "Less" 277 167:=⟨by kernel_rfl,TPtr.h⟩
instance:MetV Tryz.prog 166 "Swap" 278 167:=⟨by kernel_rfl,TPtr.h⟩
instance:TCo Tryz.prog 166:=⟨by kernel_rfl⟩
instance:TCo Tryz.prog 122:=⟨by kernel_rfl⟩
def plV(p:Pl):List Value:=[.int .i64 p.1,.int .i64 p.2]
abbrev hpO(a:Option Addr)(n c:Nat)(xs:List Pl):Res:=.own (.slice a n c) 122 2 (xs.map plV)
abbrev hpB(b:Nat)(v:Value):Res:=.blk b (.cells #[v] 167)
abbrev hpI(b:Nat):Value:=.iface 166 (.pointer (some ⟨b,0,none⟩))
theorem pl_get{xs:List Pl}{k:Nat}{x:Pl}(h:xs[k]? = some x):(xs.map plV)[k]? = some (plV x):=by rw[List.getElem?_map,h];rfl
theorem len_any{Γ:Gho}{S:List Res}{w:World}{a:Option Addr}{n c:Nat}(hw:Wd Γ S w) :
  Calls Tryz.prog 269 #[.slice a n c] w fun e w'=>e=.returned (.int .i64 n)∧Wd Γ S w':=by
 refine calls_of_W Tryz.func269 rfl rfl ?_
 repeat first|refine byW ?_|refine byV ?_;intro w hw
 exact⟨_,rfl,rfl,hw⟩
theorem less_any{Γ:Gho}{S:List Res}{w:World}{a:Option Addr}{n c:Nat}{xs:List Pl}{i j:Nat}(hi:i<xs.length)(hj:j<xs.length)(hw:Wd Γ (hpO a n c xs::S) w) :
  Calls Tryz.prog 277 #[.slice a n c,.int .i64 i,.int .i64 j] w fun e w'=>e=.returned (.bool (decide (hk xs i<hk xs j)))∧Wd Γ (hpO a n c xs::S) w':=by
 obtain⟨a',n',c',e,hn,hnc,-⟩:=hw.own_shape (i:=0) rfl
 cases e
 simp only[List.length_map]at hn
 obtain⟨x,hx⟩:=get_lt (l:=xs) (k:=i) (by omega)
 obtain⟨y,hy⟩:=get_lt (l:=xs) (k:=j) (by omega)
 have hx':=pl_get hx
 have hy':=pl_get hy
 rw[hk_of hx,hk_of hy];refine calls_of_W Tryz.func277 rfl rfl ?_
 repeat first|refine byW ?_|refine byV ?_;intro w hw
 refine W_quiet (by kernel_rfl) (by kernel_rfl) hw ?_
 refine byQ ?_;intro w hw;repeat first|refine byW ?_|refine byV ?_;intro w hw
 exact⟨_,rfl,rfl,hw⟩
theorem swap_any{Γ:Gho}{S:List Res}{w:World}{a:Option Addr}{n c:Nat}{xs:List Pl}{i j:Nat}(hi:i<xs.length)(hj:j<xs.length)(hw:Wd Γ (hpO a n c xs::S) w) :
  Calls Tryz.prog 278 #[.slice a n c,.int .i64 i,.int .i64 j] w fun e w'=>e=.returned (.tuple #[])∧Wd Γ (hpO a n c (swp xs i j)::S) w':=by
 obtain⟨a',n',c',e,hn,hnc,-⟩:=hw.own_shape (i:=0) rfl
 cases e
 simp only[List.length_map]at hn
 obtain⟨x,hx⟩:=get_lt (l:=xs) (k:=i) (by omega)
 obtain⟨y,hy⟩:=get_lt (l:=xs) (k:=j) (by omega)
 have hx':=pl_get hx
 have hy':=pl_get hy
 have hsw:swp xs i j=(xs.set i y).set j x:=by unfold swp;rw[List.getD_eq_getElem?_getD,hy,List.getD_eq_getElem?_getD,hx];rfl
 refine calls_of_W Tryz.func278 rfl rfl ?_
 repeat first|refine byW ?_|refine byV ?_;intro w hw
 refine W_mix1 [] _ [[],[],[],[],[],[],[],[],[],[],[],[],[],[0],[],[0]] [[],[],[],[],[],[],[0],[0],[],[],[0],[0],[0],[0],[0],[0]] hw ?_
 repeat(first|refine mY ?_|refine mP ?_|refine mEndAt ?_|refine mEnd0 ?_|refine mEnd ?_)
 refine mStoreE (k:=i) (r:=plV y) ?_
 repeat(first|refine mY ?_|refine mP ?_|refine mEndAt ?_|refine mEnd0 ?_|refine mEnd ?_)
 refine mStoreE (k:=j) (r:=plV x) ?_
 repeat(first|refine mY ?_|refine mP ?_|refine mEndAt ?_|refine mEnd0 ?_|refine mEnd ?_)
 intro w hw;have hw:=Wd.left (S:=Res.own _ _ _ _::_) hw
 have hw:Wd Γ (.own (.slice a n c) 122 2 (((xs.map plV).set i (plV y)).set j (plV x))::S) w:=hw
 rw[←List.map_set,←List.map_set,←hsw]at hw;exact⟨_,rfl,rfl,hw⟩
theorem push_any{Γ:Gho}{S:List Res}{w:World}{b:Nat}{v:Value}{xs:List Pl}{x:Pl}(hN:xs.length≤1000000)(hw:Wd Γ (hpB b v::.own v 122 2 (xs.map plV)::S) w) :
  Calls Tryz.prog 282 #[.pointer (some ⟨b,0,none⟩),.iface 122 (.agg (plV x).toArray)] w fun e w'=>e=.returned (.tuple #[])∧∃v',Wd Γ (hpB b v'::.own v' 122 2 ((xs++[x]).map plV)::S) w':=by
 obtain⟨a,n,c,rfl,hn,hnc,-⟩:=hw.own_shape (i:=1) rfl
 simp only[List.length_map]at hn
 refine calls_of_W Tryz.func282 rfl rfl ?_
 repeat first|refine byW ?_|refine byV ?_;intro w hw
 refine W_mix2 [] _ [[],[],[],[],[],[],[1],[0],[],[0]] [[],[],[],[0],[],[],[1],[0,1],[],[0]] [[11],[10]] hw ?_
 repeat(first|refine mY ?_|refine mP ?_|refine mEndAt ?_|refine mEnd0 ?_|refine mEnd ?_)
 refine mY (v:=.agg (plV x).toArray) ?_ (hy:=fun Y w g hw=>y_assert Tryz.underlying122 rfl)
 repeat(first|refine mY ?_|refine mP ?_|refine mEndAt ?_|refine mEnd0 ?_|refine mEnd ?_)
 refine mBuild [plV x] ?_
 refine mApp ?_
 repeat(first|refine mY ?_|refine mP ?_|refine mEndAt ?_|refine mEnd0 ?_|refine mEnd ?_)
 refine mStoreV ?_
 refine mEnd fun w g hw=>?_
 have hw:=Wd.dropEnd hw
 have hw:Wd Γ (hpB b (g 11)::.own (g 11) 122 2 (xs.map plV++[plV x])::S) w:=hw
 rw[show xs.map plV++[plV x]=(xs++[x]).map plV from by simp]at hw
 exact⟨_,rfl,rfl,_,hw⟩
theorem hp_load'{Γ:Gho}{S:List Res}{w:World}{b:Nat}{v:Value}(hw:Wd Γ (hpB b v::S) w):(loadVar 167 ⟨b,0,none⟩).run Tryz.prog w=.ok v w:=
 loadVar_cell (i:=0) hw rfl rfl
theorem ps_less{Γ:Gho}{b:Nat}{a:Option Addr}{n c:Nat}{xs:List Pl}{i j:Nat}(hi:i<xs.length)(hj:j<xs.length) :
  PS Tryz.prog Γ [hpB b (.slice a n c),hpO a n c xs] 277 [.slice a n c,.int .i64 i,.int .i64 j] (.bool (decide (hk xs i<hk xs j))):=
 ⟨fun Y w hw=>(less_any hi hj (S:=hpB b (.slice a n c)::Y) (Wd.ps [1] hw)).mono fun e w' ⟨h1,h2⟩=>⟨h1,Wd.ps [1] h2⟩⟩
theorem half_par{j:Nat}(h:j≤1000000):IntKind.i64.wrap (((j:Int)-1).tdiv 2)=(((j-1) / 2:Nat):Int):=by
 by_cases e:j=0
 ·subst e;rfl
 ·obtain⟨k,rfl⟩:∃k,j=k+1:=⟨j-1,by omega⟩
  rw[show ((k+1:Nat):Int)-1=(k:Int) from by omega,Nat.add_sub_cancel,Int.tdiv_eq_ediv_of_nonneg (by omega)]
  rw[show (k:Int) / 2=((k / 2:Nat):Int) from by omega]
  exact wrap_i64 (by omega) (by omega)
theorem up_any{Γ:Gho}{S:List Res}{w:World}{b:Nat}{a:Option Addr}{n c:Nat}{xs:List Pl}{j:Nat}(hN:xs.length≤1000000)(hj:j<xs.length)(hu:UpL xs j)(hw:Wd Γ (hpB b (.slice a n c)::hpO a n c xs::S) w) :
  Calls Tryz.prog 275 #[hpI b,.int .i64 j] w fun e w'=>e=.returned (.tuple #[])∧∃ys,ys.Perm xs∧HeapN ys ys.length∧Wd Γ (hpB b (.slice a n c)::hpO a n c ys::S) w':=by
 refine calls_of_W Tryz.func275 rfl rfl ?_
 repeat first|refine byW ?_|refine byV ?_;intro w hw
 refine W_loop (fun μ ρ w=>∃(ys:List Pl),μ<ys.length∧ys.Perm xs∧UpL ys μ∧Has ρ [(0,hpI b),(1,.int .i64 μ)]∧Wd Γ (hpB b (.slice a n c)::hpO a n c ys::S) w) j ⟨xs,hj,.refl _,hu,⟨rfl,rfl,trivial⟩,hw⟩ ?_
 clear hw hu hj;rintro j ρ w ⟨ys,hj,hp,hu,hρ,hw⟩
 have hl:=hp.length_eq
 rw[hρ.eq];clear hρ;refine W_block ?_
 refine W_cut (fun ρ w=>Has ρ [(0,hpI b),(1,.int .i64 j),(4,.int .i64 ((j-1) / 2:Nat))]∧Wd Γ (hpB b (.slice a n c)::hpO a n c ys::S) w) ?_ ?_
 ·repeat first|refine byW ?_|refine byV ?_;intro w hw
  exact⟨⟨rfl,rfl,congrArg (Value.int .i64) (half_par (by omega)),trivial⟩,hw⟩
 clear hw;rintro ρ w ⟨hρ,hw⟩
 rw[hρ.eq];clear hρ;repeat first|refine byW ?_|refine byV ?_;intro w hw
 refine lInvPG (fun _=>ps_less (j:=(j-1) / 2) hj (by omega)) (hp_load' hw) ?_
 intro w hw;repeat first|refine byW ?_|refine byV ?_;intro w hw
 refine W_cond rfl (fun h=>?_) (fun h=>?_)
 ·have h:(decide (((((j-1) / 2:Nat)):Int)=j) || !decide (hk ys j<hk ys ((j-1) / 2)))=true:=h
  have hs:j=0∨hk ys ((j-1) / 2)≤hk ys j:=by
   rcases Bool.or_eq_true_iff.1 h with h|h
   ·have:=of_decide_eq_true h;omega
   ·have:¬hk ys j<hk ys ((j-1) / 2):=by simpa using h
    omega
  have hw:Wd Γ (hpB b (.slice a n c)::hpO a n c ys::S) w:=hw
  repeat first|refine byW ?_|refine byV ?_;intro w hw
  exact⟨_,rfl,rfl,ys,hp,up_stop hu hs,hw⟩
 ·have h:(decide (((((j-1) / 2:Nat)):Int)=j) || !decide (hk ys j<hk ys ((j-1) / 2)))=false:=h
  obtain⟨h1,h2⟩:=Bool.or_eq_false_iff.1 h
  have h1:=of_decide_eq_false h1
  have h2:hk ys j<hk ys ((j-1) / 2):=by simpa using h2
  have hw:Wd Γ (hpB b (.slice a n c)::hpO a n c ys::S) w:=hw
  repeat first|refine byW ?_|refine byV ?_;intro w hw
  refine lInvV (hp_load' hw) ((swap_any (i:=(j-1) / 2) (j:=j) (by omega) hj (Wd.ps [1] hw)).mono fun e w hh=>?_)
  obtain⟨rfl,hw⟩:=hh;refine⟨_,rfl,?_⟩;have hw:Wd Γ (hpB b (.slice a n c)::hpO a n c (swp ys ((j-1) / 2) j)::S) w:=Wd.ps [1] hw
  repeat first|refine byW ?_|refine byV ?_;intro w hw
  exact⟨(j-1) / 2,by omega,swp ys ((j-1) / 2) j,by rw[swp_len];omega,(swp_perm (by omega) hj).trans hp,up_step hu (by omega) hj h2,⟨rfl,rfl,trivial⟩,hw⟩
theorem down_any{Γ:Gho}{S:List Res}{w:World}{b:Nat}{a:Option Addr}{n c:Nat}{xs:List Pl}{m:Nat}(hN:xs.length≤1000000)(hm:m+1=xs.length)(hu:DownL xs 0 m)(hw:Wd Γ (hpB b (.slice a n c)::hpO a n c xs::S) w) :
  Calls Tryz.prog 276 #[hpI b,.int .i64 0,.int .i64 m] w fun e w'=>∃r,e=.returned (.bool r)∧∃ys,ys.Perm xs∧ys[m]? = xs[m]?∧HeapN ys m∧Wd Γ (hpB b (.slice a n c)::hpO a n c ys::S) w':=by
 refine calls_of_W Tryz.func276 rfl rfl ?_
 repeat first|refine byW ?_|refine byV ?_;intro w hw
 refine W_loop (fun μ ρ w=>∃(i:Nat) (ys:List Pl),μ=m-i∧i≤m∧ys.Perm xs∧ys[m]? = xs[m]?∧DownL ys i m∧Has ρ [(0,hpI b),(1,.int .i64 0),(2,.int .i64 m),(6,.bool false),(7,.int .i64 i)]∧Wd Γ (hpB b (.slice a n c)::hpO a n c ys::S) w) m ⟨0,xs,by omega,by omega,.refl _,rfl,hu,⟨rfl,rfl,rfl,rfl,rfl,trivial⟩,hw⟩ ?_
 clear hw hu;rintro μ ρ w ⟨i,ys,hμ,hi,hp,hx,hu,hρ,hw⟩
 have hl:=hp.length_eq
 rw[hρ.eq];clear hρ;repeat first|refine byW ?_|refine byV ?_;intro w hw
 refine W_cond rfl (fun h=>?_) (fun h=>?_)
 ·have h:(decide ((2*(i:Int)+1)≥m)||decide ((2*(i:Int)+1)<0))=true:=h
  have hs:m≤2*i+1:=by
   rcases Bool.or_eq_true_iff.1 h with h|h
   ·have:=of_decide_eq_true h;omega
   ·have:=of_decide_eq_true h;omega
  repeat first|refine byW ?_|refine byV ?_;intro w hw
  exact⟨_,rfl,_,rfl,ys,hp,hx,down_stop hu (fun k k0 kn kp=>by omega),hw⟩
 ·have h:(decide ((2*(i:Int)+1)≥m)||decide ((2*(i:Int)+1)<0))=false:=h
  have hs:2*i+1<m:=by
   have:=of_decide_eq_false (Bool.or_eq_false_iff.1 h).1;omega
  clear h;iterate 7 (first|refine byW ?_|(refine byV ?_;intro w hw))
  refine W_cutT (fun ρ w=>∃j:Nat,j<m∧0<j∧(j-1) / 2=i∧(∀k,0<k→k<m→(k-1) / 2=i→hk ys j≤hk ys k)∧Has ρ [(0,hpI b),(1,.int .i64 0),(2,.int .i64 m),(6,.bool false),(7,.int .i64 i),(9,.int .i64 j)]∧Wd Γ (hpB b (.slice a n c)::hpO a n c ys::S) w) ?_ ?_
  ·repeat first|refine byW ?_|refine byV ?_;intro w hw
   refine lInvPG (c:=decide (2*(i:Int)+1+1<m)) (fun hc=>ps_less (xs:=ys) (i:=2*i+2) (j:=2*i+1) (by have:=of_decide_eq_true hc;omega) (by omega)) (hp_load' hw) ?_
   intro w hw;have hw:Wd Γ (hpB b (.slice a n c)::hpO a n c ys::S) w:=hw
   repeat first|refine byW ?_|refine byV ?_;intro w hw
   refine W_cond rfl (fun h=>?_) (fun h=>?_)
   ·have h:(decide (2*(i:Int)+1+1<m)&&decide (hk ys (2*i+2)<hk ys (2*i+1)))=true:=h
    obtain⟨h1,h2⟩:=Bool.and_eq_true_iff.1 h
    have h1:=of_decide_eq_true h1
    have h2:=of_decide_eq_true h2
    repeat first|refine byW ?_|refine byV ?_;intro w hw
    refine⟨2*i+2,by omega,by omega,by omega,fun k k0 kn kp=>?_,⟨rfl,rfl,rfl,rfl,rfl,rfl,trivial⟩,hw⟩
    rcases (show k=2*i+1∨k=2*i+2 by omega) with rfl|rfl
    ·omega
    ·omega
   ·have h:(decide (2*(i:Int)+1+1<m)&&decide (hk ys (2*i+2)<hk ys (2*i+1)))=false:=h
    repeat first|refine byW ?_|refine byV ?_;intro w hw
    refine⟨2*i+1,by omega,by omega,by omega,fun k k0 kn kp=>?_,⟨rfl,rfl,rfl,rfl,rfl,rfl,trivial⟩,hw⟩
    rcases (show k=2*i+1∨k=2*i+2 by omega) with rfl|rfl
    ·omega
    ·rw[decide_eq_true (show 2*(i:Int)+1+1<m by omega),Bool.true_and]at h
     have:=of_decide_eq_false h
     omega
  ·clear hw;rintro ρ w ⟨j,hjm,hj0,hjp,hmin,hρ,hw⟩
   rw[hρ.eq];clear hρ;repeat first|refine byW ?_|refine byV ?_;intro w hw
   refine lInvP (ps_less (xs:=ys) (i:=j) (j:=i) (by omega) (by omega)) (hp_load' hw) ?_
   intro w hw;have hw:Wd Γ (hpB b (.slice a n c)::hpO a n c ys::S) w:=hw
   repeat first|refine byW ?_|refine byV ?_;intro w hw
   refine W_cond rfl (fun h=>?_) (fun h=>?_)
   ·have h:(!decide (hk ys j<hk ys i))=true:=h
    have h:¬hk ys j<hk ys i:=by simpa using h
    repeat first|refine byW ?_|refine byV ?_;intro w hw
    refine⟨_,rfl,_,rfl,ys,hp,hx,down_stop hu (fun k k0 kn kp=>?_),hw⟩
    have:=hmin k k0 kn kp
    omega
   ·have h:(!decide (hk ys j<hk ys i))=false:=h
    have h:hk ys j<hk ys i:=by simpa using h
    repeat first|refine byW ?_|refine byV ?_;intro w hw
    refine lInvV (hp_load' hw) ((swap_any (i:=i) (j:=j) (by omega) (by omega) (Wd.ps [1] hw)).mono fun e w hh=>?_)
    obtain⟨rfl,hw⟩:=hh;refine⟨_,rfl,?_⟩;have hw:Wd Γ (hpB b (.slice a n c)::hpO a n c (swp ys i j)::S) w:=Wd.ps [1] hw
    repeat first|refine byW ?_|refine byV ?_;intro w hw
    refine⟨m-j,by omega,j,swp ys i j,rfl,by omega,(swp_perm (by omega) (by omega)).trans hp,?_,down_step hu (by omega) hjm hj0 hjp h hmin,⟨rfl,rfl,rfl,rfl,rfl,trivial⟩,hw⟩
    rw[swp_get (by omega) (by omega),if_neg (by omega),if_neg (by omega)];exact hx
theorem popm_any{Γ:Gho}{S:List Res}{w:World}{b:Nat}{a:Option Addr}{n c:Nat}{xs:List Pl}{m:Nat}{x:Pl}(hN:xs.length≤1000000)(hm:m+1=xs.length)(hx:xs[m]? = some x)(hw:Wd Γ (hpB b (.slice a n c)::hpO a n c xs::S) w) :
  Calls Tryz.prog 281 #[.pointer (some ⟨b,0,none⟩)] w fun e w'=>e=.returned (.iface 122 (.agg (plV x).toArray))∧∃v',Wd Γ (hpB b v'::.own v' 122 2 ((xs.take m).map plV)::S) w':=by
 obtain⟨a',n',c',e,hn,hnc,-⟩:=hw.own_shape (i:=1) rfl
 cases e
 simp only[List.length_map]at hn
 have hx':xs[((n:Int)-1).toNat]? = some x:=by rw[show ((n:Int)-1).toNat=m from by omega];exact hx
 refine calls_of_W Tryz.func281 rfl rfl ?_
 repeat first|refine byW ?_|refine byV ?_;intro w hw
 refine W_mixed [hpB b (.slice a n c),hpO a n c xs] [fun _=>[],fun _=>S] [[],[],[],[],[],[],[],[],[],[],[0],[0]] [[],[],[],[],[],[],[],[],[],[],[0],[0]] [[3],[]] (by have:=hw;simpa[List.range,List.range.loop,ML] using this) ?_
 refine byM ?_;refine mAlloc ?_
 refine mStoreAt ?_
 refine mEnd fun w g hw=>?_
 have hw:Wd Γ (hpB b (.slice a n c)::hpO a n c xs::atP (g 3) _::(S++[])) w:=hw
 rw[List.append_nil]at hw;obtain⟨b3,hg3,hw⟩:=(Wd.ps [2] hw).openAt
 have hw:Wd Γ (.blk b3 (.cells (plV x).toArray 122)::hpB b (.slice a n c)::hpO a n c xs::S) w:=hw
 refine W_has (l:=[(0,.pointer (some ⟨b,0,none⟩)),(3,.pointer (some ⟨b3,0,none⟩))]) ⟨rfl,hg3,trivial⟩ fun ρ' hρ'=>?_
 rw[hρ'.eq];clear hρ' hg3;repeat first|refine byW ?_|refine byV ?_;intro w hw
 refine W_mix1 [.blk b3 (.cells (plV x).toArray 122)] _ [[],[],[],[],[],[],[],[],[],[],[],[0]] [[],[],[],[0],[],[],[0],[],[],[],[],[0]] hw ?_
 refine byM ?_;refine mStoreC (j:=0) (vs:=[.slice a ((n:Int)-1).toNat c]) ?_
 repeat(first|refine mY ?_|refine mP ?_|refine mEndAt ?_|refine mEnd0 ?_|refine mEnd ?_)
 intro w hw;rw[show ((n:Int)-1).toNat=m from by omega]at hw
 have hw:Wd Γ (.blk b3 (.cells (plV x).toArray 122)::((hpB b (.slice a m c)::hpO a n c xs::S)++[])) w:=hw
 rw[List.append_nil]at hw;have hw:=Wd.own_take (i:=2) (m:=m) hw rfl (by omega)
 rw[←List.map_take]at hw;have hw:Wd Γ (.blk b3 (.cells (plV x).toArray 122)::hpB b (.slice a m c)::hpO a m c (xs.take m)::S) w:=hw
 repeat first|refine byW ?_|refine byV ?_;intro w hw
 refine lY (v:=.iface 122 (.agg (plV x).toArray)) ?_ (hy:=y_mkI rfl)
 repeat first|refine byW ?_|refine byV ?_;intro w hw
 exact⟨_,rfl,rfl,_,hw.drop⟩
theorem hpush_any{Γ:Gho}{S:List Res}{w:World}{b:Nat}{v:Value}{xs:List Pl}{x:Pl}(hN:xs.length+1≤1000000)(hh:HeapN xs xs.length)(hw:Wd Γ (hpB b v::.own v 122 2 (xs.map plV)::S) w) :
  Calls Tryz.prog 273 #[hpI b,.iface 122 (.agg (plV x).toArray)] w fun e w'=>e=.returned (.tuple #[])∧∃v' ys,ys.Perm (x::xs)∧HeapN ys ys.length∧Wd Γ (hpB b v'::.own v' 122 2 (ys.map plV)::S) w':=by
 refine calls_of_W Tryz.func273 rfl rfl ?_
 repeat first|refine byW ?_|refine byV ?_;intro w hw
 refine lInv ((push_any (by omega) hw).mono fun e w hh'=>?_)
 obtain⟨rfl,v',hw⟩:=hh';obtain⟨a,n,c,rfl,hn,hnc,-⟩:=hw.own_shape (i:=1) rfl
 simp only[List.length_map,List.length_append,List.length_singleton]at hn
 refine⟨_,rfl,?_⟩;repeat first|refine byW ?_|refine byV ?_;intro w hw
 refine lInvV (hp_load' hw) ((len_any hw).mono fun e w hh'=>?_)
 obtain⟨rfl,hw⟩:=hh';refine⟨_,rfl,?_⟩;have e1:((n:Int)-1)=(xs.length:Nat):=by omega
 repeat first|refine byW ?_|refine byV ?_;intro w hw
 rw[e1];refine lCall ((up_any (j:=xs.length) (by simp;omega) (by simp) (up_init hh) hw).mono fun e w hh'=>?_)
 obtain⟨rfl,ys,hp,hy,hw⟩:=hh';refine⟨_,rfl,?_⟩;repeat first|refine byW ?_|refine byV ?_;intro w hw
 exact⟨_,rfl,rfl,_,ys,hp.trans List.perm_append_comm,hy,hw⟩
theorem hpop_any{Γ:Gho}{S:List Res}{w:World}{b:Nat}{v:Value}{xs:List Pl}(hN:xs.length≤1000000)(h0:xs≠[])(hh:HeapN xs xs.length)(hw:Wd Γ (hpB b v::.own v 122 2 (xs.map plV)::S) w) :
  Calls Tryz.prog 274 #[hpI b] w fun e w'=>∃x v' ys,e=.returned (.iface 122 (.agg (plV x).toArray))∧(x::ys).Perm xs∧(∀y∈xs,x.2≤y.2)∧HeapN ys ys.length∧Wd Γ (hpB b v'::.own v' 122 2 (ys.map plV)::S) w':=by
 obtain⟨a,n,c,rfl,hn,hnc,-⟩:=hw.own_shape (i:=1) rfl
 simp only[List.length_map]at hn
 obtain⟨m,hm⟩:∃m,xs.length=m+1:=⟨xs.length-1,by have:=List.length_pos_iff.2 h0;omega⟩
 obtain⟨x,hx⟩:=get_lt (l:=xs) (k:=0) (by omega)
 have e1:((n:Int)-1)=(m:Nat):=by omega
 refine calls_of_W Tryz.func274 rfl rfl ?_
 repeat first|refine byW ?_|refine byV ?_;intro w hw
 refine lInvV (hp_load' hw) ((len_any hw).mono fun e w hh'=>?_)
 obtain⟨rfl,hw⟩:=hh';refine⟨_,rfl,?_⟩;repeat first|refine byW ?_|refine byV ?_;intro w hw
 rw[e1];refine lInvV (hp_load' hw) ((swap_any (i:=0) (j:=m) (by omega) (by omega) (Wd.ps [1] hw)).mono fun e w hh'=>?_)
 obtain⟨rfl,hw⟩:=hh';refine⟨_,rfl,?_⟩;have hw:Wd Γ (hpB b (.slice a n c)::hpO a n c (swp xs 0 m)::S) w:=Wd.ps [1] hw
 repeat first|refine byW ?_|refine byV ?_;intro w hw
 refine lCall ((down_any (m:=m) (by rw[swp_len];omega) (by rw[swp_len];omega) (down_init hh hm) hw).mono fun e w hh'=>?_)
 obtain⟨r,rfl,ys,hp,hy,hz,hw⟩:=hh';rw[swp_get (by omega) (by omega),if_pos rfl,hx]at hy
 have hl:=hp.length_eq
 rw[swp_len]at hl;refine⟨_,rfl,?_⟩;repeat first|refine byW ?_|refine byV ?_;intro w hw
 refine lInv ((popm_any (m:=m) (by omega) (by omega) hy hw).mono fun e w hh'=>?_)
 obtain⟨rfl,v',hw⟩:=hh';refine⟨_,rfl,?_⟩;repeat first|refine byW ?_|refine byV ?_;intro w hw
 exact⟨_,rfl,x,v',ys.take m,rfl,(perm_take hp (by omega) hy).trans (swp_perm (by omega) (by omega)),heap_min hh hx,heap_take hz (by omega),hw⟩
theorem qadd_any{Γ:Gho}{S:List Res}{w:World}{b:Nat}{v:Value}{xs:List Pl}{n d:Int}(hN:xs.length+1≤1000000)(hh:HeapN xs xs.length)(hw:Wd Γ (hpB b v::.own v 122 2 (xs.map plV)::S) w) :
  Calls Tryz.prog 270 #[.pointer (some ⟨b,0,none⟩),.int .i64 n,.int .i64 d] w fun e w'=>e=.returned (.tuple #[])∧∃v' ys,ys.Perm ((n,d)::xs)∧HeapN ys ys.length∧Wd Γ (hpB b v'::.own v' 122 2 (ys.map plV)::S) w':=by
 refine calls_of_W Tryz.func270 rfl rfl ?_
 repeat first|refine byW ?_|refine byV ?_;intro w hw
 refine lY (v:=hpI b) ?_ (hy:=y_mkI rfl)
 repeat first|refine byW ?_|refine byV ?_;intro w hw
 refine lY (v:=.iface 122 (.agg (plV (n,d)).toArray)) ?_ (hy:=y_mkI rfl)
 repeat first|refine byW ?_|refine byV ?_;intro w hw
 refine lCall ((hpush_any hN hh hw).mono fun e w hh'=>?_)
 obtain⟨rfl,h⟩:=hh';refine⟨_,rfl,?_⟩;repeat first|refine byW ?_|refine byV ?_;intro w hw
 exact⟨_,rfl,rfl,h⟩
theorem qempty_any{Γ:Gho}{S:List Res}{w:World}{b:Nat}{v:Value}{xs:List Pl}(hw:Wd Γ (hpB b v::.own v 122 2 (xs.map plV)::S) w) :
  Calls Tryz.prog 271 #[.pointer (some ⟨b,0,none⟩)] w fun e w'=>e=.returned (.bool (decide ((xs.length:Int)=0)))∧Wd Γ (hpB b v::.own v 122 2 (xs.map plV)::S) w':=by
 obtain⟨a,n,c,rfl,hn,hnc,-⟩:=hw.own_shape (i:=1) rfl
 simp only[List.length_map]at hn
 subst hn;refine calls_of_W Tryz.func271 rfl rfl ?_
 repeat first|refine byW ?_|refine byV ?_;intro w hw
 exact⟨_,rfl,rfl,hw⟩
theorem qtake_any{Γ:Gho}{S:List Res}{w:World}{b:Nat}{v:Value}{xs:List Pl}(hN:xs.length≤1000000)(h0:xs≠[])(hh:HeapN xs xs.length)(hw:Wd Γ (hpB b v::.own v 122 2 (xs.map plV)::S) w) :
  Calls Tryz.prog 272 #[.pointer (some ⟨b,0,none⟩)] w fun e w'=>∃(x:Pl) (v':Value) (ys:List Pl),e=.returned (.tuple #[.int .i64 x.1,.int .i64 x.2])∧(x::ys).Perm xs∧(∀y∈xs,x.2≤y.2)∧HeapN ys ys.length∧Wd Γ (hpB b v'::.own v' 122 2 (ys.map plV)::S) w':=by
 refine calls_of_W Tryz.func272 rfl rfl ?_
 repeat first|refine byW ?_|refine byV ?_;intro w hw
 refine lY (v:=hpI b) ?_ (hy:=y_mkI rfl)
 repeat first|refine byW ?_|refine byV ?_;intro w hw
 refine lCall ((hpop_any hN h0 hh hw).mono fun e w hh'=>?_)
 obtain⟨x,v',ys,rfl,h1,h2,h3,hw⟩:=hh';refine⟨_,rfl,?_⟩;repeat first|refine byW ?_|refine byV ?_;intro w hw
 refine lY (v:=.agg (plV x).toArray) ?_ (hy:=y_assert Tryz.underlying122 rfl)
 refine lAlloc ?_;intro b4 w hw;refine lStore ?_;intro w hw;have hw:Wd Γ (.blk b4 (.cells (plV x).toArray 122)::hpB b v'::.own v' 122 2 (ys.map plV)::S) w:=hw
 repeat first|refine byW ?_|refine byV ?_;intro w hw
 refine W_quiet (by kernel_rfl) (by kernel_rfl) hw ?_
 refine byQ ?_;intro w hw;repeat first|refine byW ?_|refine byV ?_;intro w hw
 exact⟨_,rfl,x,v',ys,rfl,h1,h2,h3,hw.drop⟩
end Go.Proofs.YtfoggcgogafocaaGreat
end
