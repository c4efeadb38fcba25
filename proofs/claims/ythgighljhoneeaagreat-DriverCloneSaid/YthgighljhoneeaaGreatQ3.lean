/- Texts of this proof, one behind another. -/
import Derived.Test.YthgighljhoneeaaGreatQ2
import Derived.Test.YthgighljhoneeaaGreatRows
import Derived.ProofKit
import Derived.OpenShut
import Derived.Deep.Slices
import Derived.ReadAgain
import Derived.Laws.MakeOwn
import Derived.Lib.UnsafeStr
import Derived.Lib.Builder
import Derived.Below
set_option linter.unusedVariables false
set_option linter.unusedSimpArgs false
section
open Go Mk
namespace Go.Proofs.YthgighljhoneeaaGreat
set_option maxHeartbeats 8000000
attribute [local irreducible] Calls
theorem own_len{Γ:Gho}{S:List Res}{w:World}{i e sz n c:Nat}{a:Option Addr}{rows:List (List Value)}(hw:Wd Γ S w)(hi:S[i]? = some (.own (.slice a n c) e sz rows)):n=rows.length:=by
 obtain⟨_,_,_,h1,h2,-,-⟩:=hw.own_shape hi;cases h1;exact h2
def linkKey(l:LinkT):Int×Int:=(if l.B<l.A then l.B else l.A,if l.A<l.B then l.B else l.A)
def uniqueB(H:HwT):Bool:=(H.Caches.all fun c=>decide c.Cores.Nodup)&&(decide (H.Cores.map (·.ID)).Nodup&&decide (H.Caches.map (·.Name)).Nodup&&decide (H.Mems.map (·.Name)).Nodup&&decide (H.Devs.map (·.Name)).Nodup&&decide (H.Devs.map (·.IRQ)).Nodup&&decide (H.Links.map linkKey).Nodup)
theorem all_cuniq(cs:List CacheH):((cs.map CacheH.T).all fun c=>decide c.Cores.Nodup)=cs.all fun c=>decide c.Cores.Nodup:=by rw[List.all_map];rfl
theorem counts_le{H:HwT}(h:countsB H=true):1≤H.Cores.length∧H.Cores.length≤32∧H.Caches.length≤64∧H.Links.length≤256∧H.Mems.length≤64∧H.Devs.length≤32:=by
 unfold countsB at h;simp only[Bool.and_eq_true,decide_eq_true_eq]at h
 omega
instance:TBA Tryz.prog 188 1 [.int .i64 0,.int .i64 0]:=⟨by kernel_rfl,by kernel_rfl⟩
section
attribute [local semireducible] gv
theorem lCallGd{P:Program}{n:Nat}{opa:Array Oper}{QQ:Exit→Fr→World→Prop}{rest:List Oper}{ρ:Fr}{w:World}{Γ:Gho}{S:List Res}{d:Option Tmp}{ty:TypeId}{pos:String}{es:Array Edge}{f j dj:Nat}{want c:Bool}{args:List Operand}{tys:Array TypeId}{vs:List Value}{v:Value}[FnOk P f]
  (hcall:c=true→Calls P f vs.toArray w fun e w'=>e=.returned v∧Wd Γ S w') (h:∀w',Wd Γ S w'→L P n opa QQ rest (putO ρ d (gv c v)) w') (hw:Wd Γ S w:=by exact hw) (hj:(opa[j]?).bind (·.dst)=some dj:=by exact rfl) (hjn:okDst n (some dj)=true:=by exact rfl) (hc:GuardIs (ρ dj) want c:=by exact byGC) (hd:okDst n d=true:=by exact rfl) (ha:c=true→EvL ρ args vs:=by intro hc;exact byEVG) :
  L P n opa QQ (⟨d,.call { callee:=.value (.func f),args:=args.toArray,argTypes:=tys },ty,pos,es,some (j,want)⟩::rest) ρ w:=
 lGC hj hjn hd hc (fun hct=>lCall ((hcall hct).mono fun e w' ⟨h1,h2⟩=>⟨v,h1,by have:=h w' h2;rw[hct]at this;exact this⟩) (ha hct) hd) (fun hcf=>by have:=h w hw;rw[hcf]at this;exact this)
end
theorem rows_snocI{α:Type}{f:α→Int}{l:List α}{k:Nat}{x:α}(hx:l[k]? = some x):intRows ((l.take k).map f)++[[.int .i64 (f x)]]=intRows ((l.take (k+1)).map f):=by rw[take_succ_of hx];simp[intRows]
theorem rows_snocS{α:Type}{f:α→ByteArray}{l:List α}{k:Nat}{x:α}(hx:l[k]? = some x):strRows ((l.take k).map f)++[[.string (f x)]]=strRows ((l.take (k+1)).map f):=by rw[take_succ_of hx];simp[strRows]
theorem rows_snocP{α:Type}{f:α→Int×Int}{l:List α}{k:Nat}{x:α}(hx:l[k]? = some x):pairRows ((l.take k).map f)++[[.int .i64 (f x).1,.int .i64 (f x).2]]=pairRows ((l.take (k+1)).map f):=by rw[take_succ_of hx];simp[pairRows]
theorem unique_any{Γ:Gho}{S:List Res}{w:World}{u:Value}{H:HwT}[hh:HwR Γ u H](hcnt:countsB H=true)(hw:Wd Γ S w):Calls Tryz.prog 103 #[u] w fun e w'=>e=.returned (.bool (uniqueB H))∧Wd Γ S w':=by
 obtain⟨-,l1,l2,l3,l4,l5⟩:=counts_le hcnt
 obtain⟨a1,n1,c1,a2,n2,c2,a3,n3,c3,a4,n4,c4,a5,n5,c5,cs,rfl,hcs,hok,hsz,r1,r2,r3,r4,r5⟩:=hh.h;obtain⟨hn1,hm1,hx1⟩:=rep_facts r1
 obtain⟨hn2,hm2,hx2⟩:=rep_facts r2
 obtain⟨hn3,hm3,hx3⟩:=rep_facts r3
 obtain⟨hn4,hm4,hx4⟩:=rep_facts r4
 obtain⟨hn5,hm5,hx5⟩:=rep_facts r5
 simp only[List.length_map]at hn1 hn2 hn3 hn4 hn5
 have hcl:cs.length=H.Caches.length:=by rw[←hcs];simp
 refine calls_of_W Tryz.func103 rfl rfl ?_
 refine byG ?_;refine lBox ?_;intro b1 w hw;have hw:Wd Γ (.blk b1 (.cells #[.string H.Name,.slice a1 n1 c1,.slice a2 n2 c2,.slice a3 n3 c3,.slice a4 n4 c4,.slice a5 n5 c5] 38)::S) w:=hw
 have hw:Wd Γ (.own (.slice none 0 0) 3 1 (intRows [])::.own (.slice none 0 0) 3 1 (intRows [])::.own (.slice none 0 0) 9 1 (strRows [])::.own (.slice none 0 0) 9 1 (strRows [])::.own (.slice none 0 0) 9 1 (strRows [])::.own (.slice none 0 0) 188 2 (pairRows [])::.blk b1 (.cells #[.string H.Name,.slice a1 n1 c1,.slice a2 n2 c2,.slice a3 n3 c3,.slice a4 n4 c4,.slice a5 n5 c5] 38)::S) w:=Wd.addNil (Wd.addNil (Wd.addNil (Wd.addNil (Wd.addNil (Wd.addNil (hw))))))
 refine byG ?_;refine W_loop (fun μ ρ w=>∃(k:Nat) (q3:Option Addr) (m3 d3:Nat),μ+k=n1∧Has ρ [(1,.pointer (some ⟨b1,0,none⟩)),(3,.slice q3 m3 d3),(4,.slice none 0 0),(5,.slice none 0 0),(6,.slice none 0 0),(7,.slice none 0 0),(8,.slice none 0 0),(20,.slice a1 n1 c1),(21,.int .i64 n1),(22,.int .i64 k)]∧Wd Γ (.own (.slice q3 m3 d3) 3 1 (intRows ((H.Cores.take k).map (fun c=>c.ID)))::.own (.slice none 0 0) 3 1 (intRows [])::.own (.slice none 0 0) 9 1 (strRows [])::.own (.slice none 0 0) 9 1 (strRows [])::.own (.slice none 0 0) 9 1 (strRows [])::.own (.slice none 0 0) 188 2 (pairRows [])::.blk b1 (.cells #[.string H.Name,.slice a1 n1 c1,.slice a2 n2 c2,.slice a3 n3 c3,.slice a4 n4 c4,.slice a5 n5 c5] 38)::S) w) n1 ⟨0,none,0,0,by omega,⟨rfl,rfl,rfl,rfl,rfl,rfl,rfl,rfl,rfl,rfl,trivial⟩,hw⟩ ?_
 clear hw;rintro μ ρ w ⟨k,q3,m3,d3,hk,hρ,hw⟩
 have hm3:=own_len (i:=0) hw rfl
 simp only[intRows,strRows,pairRows,List.length_map,List.length_take]at hm3
 rw[hρ.eq];refine byG ?_;refine W_cond rfl (fun h=>?_) (fun h=>?_)
 ·have hkn:k<n1:=by simpa using h
  obtain⟨x,hx⟩:=get_lt (l:=H.Cores) (k:=k) (by omega)
  refine byG ?_;refine lAlloc ?_;intro b9 w hw;refine lStore ?_;intro w hw;have hw:Wd Γ (.blk b9 (.cells (enc x).toArray 69)::.own (.slice q3 m3 d3) 3 1 (intRows ((H.Cores.take k).map (fun c=>c.ID)))::.own (.slice none 0 0) 3 1 (intRows [])::.own (.slice none 0 0) 9 1 (strRows [])::.own (.slice none 0 0) 9 1 (strRows [])::.own (.slice none 0 0) 9 1 (strRows [])::.own (.slice none 0 0) 188 2 (pairRows [])::.blk b1 (.cells #[.string H.Name,.slice a1 n1 c1,.slice a2 n2 c2,.slice a3 n3 c3,.slice a4 n4 c4,.slice a5 n5 c5] 38)::S) w:=hw
  refine byG ?_;refine lBuildSlice [[.int .i64 x.ID]] ?_
  intro ab w hw;refine lApp (i:=2) (rows2:=[[.int .i64 x.ID]]) ?_ (Wd.own_rd (i:=0) hw rfl)
  intro v' w hw;obtain⟨q3',m3',d3',rfl,-,-,-⟩:=hw.own_shape (i:=2) rfl
  have hw:=hw.drop
  have hw:Wd Γ (.blk b9 (.cells (enc x).toArray 69)::.own (.slice q3' m3' d3') 3 1 (intRows ((H.Cores.take (k+1)).map (fun c=>c.ID)))::.own (.slice none 0 0) 3 1 (intRows [])::.own (.slice none 0 0) 9 1 (strRows [])::.own (.slice none 0 0) 9 1 (strRows [])::.own (.slice none 0 0) 9 1 (strRows [])::.own (.slice none 0 0) 188 2 (pairRows [])::.blk b1 (.cells #[.string H.Name,.slice a1 n1 c1,.slice a2 n2 c2,.slice a3 n3 c3,.slice a4 n4 c4,.slice a5 n5 c5] 38)::S) w:=by
   rw[←rows_snocI hx];exact hw
  refine byG ?_;exact⟨μ-1,by omega,k+1,_,_,_,by omega,⟨rfl,rfl,rfl,rfl,rfl,rfl,rfl,rfl,rfl,rfl,trivial⟩,hw.drop⟩
 have hkn:¬k<n1:=by simpa using h
 rw[List.take_of_length_le (l:=H.Cores) (by omega)]at hw
 clear h hkn hρ hk hm3;refine byG ?_;refine W_loop (fun μ ρ w=>∃(k:Nat) (q5:Option Addr) (m5 d5:Nat),μ+k=n2∧Has ρ [(1,.pointer (some ⟨b1,0,none⟩)),(3,.slice q3 m3 d3),(4,.slice none 0 0),(5,.slice q5 m5 d5),(6,.slice none 0 0),(7,.slice none 0 0),(8,.slice none 0 0),(33,.slice a2 n2 c2),(34,.int .i64 n2),(35,.int .i64 k)]∧(∀i x,i<k→cs[i]? = some x→(fun c:CacheH=>decide c.Cores.Nodup) x=true)∧Wd Γ (.own (.slice q3 m3 d3) 3 1 (intRows (H.Cores.map (fun c=>c.ID)))::.own (.slice none 0 0) 3 1 (intRows [])::.own (.slice q5 m5 d5) 9 1 (strRows ((cs.take k).map (fun c=>c.Name)))::.own (.slice none 0 0) 9 1 (strRows [])::.own (.slice none 0 0) 9 1 (strRows [])::.own (.slice none 0 0) 188 2 (pairRows [])::.blk b1 (.cells #[.string H.Name,.slice a1 n1 c1,.slice a2 n2 c2,.slice a3 n3 c3,.slice a4 n4 c4,.slice a5 n5 c5] 38)::S) w) n2 ⟨0,none,0,0,by omega,⟨rfl,rfl,rfl,rfl,rfl,rfl,rfl,rfl,rfl,rfl,trivial⟩,fun i x h=>by omega,hw⟩ ?_
 clear hw;rintro μ ρ w ⟨k,q5,m5,d5,hk,hρ,hall,hw⟩
 have hm5:=own_len (i:=2) hw rfl
 simp only[intRows,strRows,pairRows,List.length_map,List.length_take]at hm5
 rw[hρ.eq];refine byG ?_;refine W_cond rfl (fun h=>?_) (fun h=>?_)
 ·have hkn:k<n2:=by simpa using h
  obtain⟨x,hx⟩:=get_lt (l:=cs) (k:=k) (by omega)
  refine byG ?_;refine lAlloc ?_;intro b9 w hw;refine lStore ?_;intro w hw;have hw:Wd Γ (.blk b9 (.cells (cC x).toArray 125)::.own (.slice q3 m3 d3) 3 1 (intRows (H.Cores.map (fun c=>c.ID)))::.own (.slice none 0 0) 3 1 (intRows [])::.own (.slice q5 m5 d5) 9 1 (strRows ((cs.take k).map (fun c=>c.Name)))::.own (.slice none 0 0) 9 1 (strRows [])::.own (.slice none 0 0) 9 1 (strRows [])::.own (.slice none 0 0) 188 2 (pairRows [])::.blk b1 (.cells #[.string H.Name,.slice a1 n1 c1,.slice a2 n2 c2,.slice a3 n3 c3,.slice a4 n4 c4,.slice a5 n5 c5] 38)::S) w:=hw
  refine byG ?_;refine lBuildSlice [[.string x.Name]] ?_
  intro ab w hw;refine lApp (i:=4) (rows2:=[[.string x.Name]]) ?_ (Wd.own_rd (i:=0) hw rfl)
  intro v' w hw;obtain⟨q5',m5',d5',rfl,-,-,-⟩:=hw.own_shape (i:=4) rfl
  have hw:=hw.drop
  have hw:Wd Γ (.blk b9 (.cells (cC x).toArray 125)::.own (.slice q3 m3 d3) 3 1 (intRows (H.Cores.map (fun c=>c.ID)))::.own (.slice none 0 0) 3 1 (intRows [])::.own (.slice q5' m5' d5') 9 1 (strRows ((cs.take (k+1)).map (fun c=>c.Name)))::.own (.slice none 0 0) 9 1 (strRows [])::.own (.slice none 0 0) 9 1 (strRows [])::.own (.slice none 0 0) 188 2 (pairRows [])::.blk b1 (.cells #[.string H.Name,.slice a1 n1 c1,.slice a2 n2 c2,.slice a3 n3 c3,.slice a4 n4 c4,.slice a5 n5 c5] 38)::S) w:=by
   rw[←rows_snocS hx];exact hw
  refine byG ?_;refine lCall ?_;refine(distinct_int_any (RepS.rdS (hok x (List.mem_of_getElem? hx))) hw).mono ?_
  rintro r w ⟨rfl,hw⟩
  refine⟨_,rfl,?_⟩;refine byG ?_;refine W_cond rfl (fun h2=>?_) (fun h2=>?_)
  ·have hf:(fun c:CacheH=>decide c.Cores.Nodup) x=false:=by simpa using h2
   refine byG ?_;exact⟨_,rfl,ret_b rfl (by rw[uniqueB,←hcs,all_cuniq];exact(and_no1 (all_no hx hf)).symm),hw.ds [0,0,0,0,0,0,0,0]⟩
  ·have ht:(fun c:CacheH=>decide c.Cores.Nodup) x=true:=by simpa using h2
   refine byG ?_;exact⟨μ-1,by omega,k+1,_,_,_,by omega,⟨rfl,rfl,rfl,rfl,rfl,rfl,rfl,rfl,rfl,rfl,trivial⟩,all_step hall hx ht,hw.drop⟩
 have hkn:¬k<n2:=by simpa using h
 rw[List.take_of_length_le (l:=cs) (by omega)]at hw
 have hA:=all_end hall (by omega)
 clear h hkn hρ hk hall hm5;refine byG ?_;refine W_loop (fun μ ρ w=>∃(k:Nat) (q6:Option Addr) (m6 d6:Nat),μ+k=n4∧Has ρ [(1,.pointer (some ⟨b1,0,none⟩)),(3,.slice q3 m3 d3),(4,.slice none 0 0),(5,.slice q5 m5 d5),(6,.slice q6 m6 d6),(7,.slice none 0 0),(8,.slice none 0 0),(50,.slice a4 n4 c4),(51,.int .i64 n4),(52,.int .i64 k)]∧Wd Γ (.own (.slice q3 m3 d3) 3 1 (intRows (H.Cores.map (fun c=>c.ID)))::.own (.slice none 0 0) 3 1 (intRows [])::.own (.slice q5 m5 d5) 9 1 (strRows (cs.map (fun c=>c.Name)))::.own (.slice q6 m6 d6) 9 1 (strRows ((H.Mems.take k).map (fun c=>c.Name)))::.own (.slice none 0 0) 9 1 (strRows [])::.own (.slice none 0 0) 188 2 (pairRows [])::.blk b1 (.cells #[.string H.Name,.slice a1 n1 c1,.slice a2 n2 c2,.slice a3 n3 c3,.slice a4 n4 c4,.slice a5 n5 c5] 38)::S) w) n4 ⟨0,none,0,0,by omega,⟨rfl,rfl,rfl,rfl,rfl,rfl,rfl,rfl,rfl,rfl,trivial⟩,hw⟩ ?_
 clear hw;rintro μ ρ w ⟨k,q6,m6,d6,hk,hρ,hw⟩
 have hm6:=own_len (i:=3) hw rfl
 simp only[intRows,strRows,pairRows,List.length_map,List.length_take]at hm6
 rw[hρ.eq];refine byG ?_;refine W_cond rfl (fun h=>?_) (fun h=>?_)
 ·have hkn:k<n4:=by simpa using h
  obtain⟨x,hx⟩:=get_lt (l:=H.Mems) (k:=k) (by omega)
  refine byG ?_;refine lAlloc ?_;intro b9 w hw;refine lStore ?_;intro w hw;have hw:Wd Γ (.blk b9 (.cells (enc x).toArray 123)::.own (.slice q3 m3 d3) 3 1 (intRows (H.Cores.map (fun c=>c.ID)))::.own (.slice none 0 0) 3 1 (intRows [])::.own (.slice q5 m5 d5) 9 1 (strRows (cs.map (fun c=>c.Name)))::.own (.slice q6 m6 d6) 9 1 (strRows ((H.Mems.take k).map (fun c=>c.Name)))::.own (.slice none 0 0) 9 1 (strRows [])::.own (.slice none 0 0) 188 2 (pairRows [])::.blk b1 (.cells #[.string H.Name,.slice a1 n1 c1,.slice a2 n2 c2,.slice a3 n3 c3,.slice a4 n4 c4,.slice a5 n5 c5] 38)::S) w:=hw
  refine byG ?_;refine lBuildSlice [[.string x.Name]] ?_
  intro ab w hw;refine lApp (i:=5) (rows2:=[[.string x.Name]]) ?_ (Wd.own_rd (i:=0) hw rfl)
  intro v' w hw;obtain⟨q6',m6',d6',rfl,-,-,-⟩:=hw.own_shape (i:=5) rfl
  have hw:=hw.drop
  have hw:Wd Γ (.blk b9 (.cells (enc x).toArray 123)::.own (.slice q3 m3 d3) 3 1 (intRows (H.Cores.map (fun c=>c.ID)))::.own (.slice none 0 0) 3 1 (intRows [])::.own (.slice q5 m5 d5) 9 1 (strRows (cs.map (fun c=>c.Name)))::.own (.slice q6' m6' d6') 9 1 (strRows ((H.Mems.take (k+1)).map (fun c=>c.Name)))::.own (.slice none 0 0) 9 1 (strRows [])::.own (.slice none 0 0) 188 2 (pairRows [])::.blk b1 (.cells #[.string H.Name,.slice a1 n1 c1,.slice a2 n2 c2,.slice a3 n3 c3,.slice a4 n4 c4,.slice a5 n5 c5] 38)::S) w:=by
   rw[←rows_snocS hx];exact hw
  refine byG ?_;exact⟨μ-1,by omega,k+1,_,_,_,by omega,⟨rfl,rfl,rfl,rfl,rfl,rfl,rfl,rfl,rfl,rfl,trivial⟩,hw.drop⟩
 have hkn:¬k<n4:=by simpa using h
 rw[List.take_of_length_le (l:=H.Mems) (by omega)]at hw
 clear h hkn hρ hk hm6;refine byG ?_;refine W_loop (fun μ ρ w=>∃(k:Nat) (q7:Option Addr) (m7 d7:Nat) (q4:Option Addr) (m4 d4:Nat),μ+k=n5∧Has ρ [(1,.pointer (some ⟨b1,0,none⟩)),(3,.slice q3 m3 d3),(4,.slice q4 m4 d4),(5,.slice q5 m5 d5),(6,.slice q6 m6 d6),(7,.slice q7 m7 d7),(8,.slice none 0 0),(63,.slice a5 n5 c5),(64,.int .i64 n5),(65,.int .i64 k)]∧Wd Γ (.own (.slice q3 m3 d3) 3 1 (intRows (H.Cores.map (fun c=>c.ID)))::.own (.slice q4 m4 d4) 3 1 (intRows ((H.Devs.take k).map (fun c=>c.IRQ)))::.own (.slice q5 m5 d5) 9 1 (strRows (cs.map (fun c=>c.Name)))::.own (.slice q6 m6 d6) 9 1 (strRows (H.Mems.map (fun c=>c.Name)))::.own (.slice q7 m7 d7) 9 1 (strRows ((H.Devs.take k).map (fun c=>c.Name)))::.own (.slice none 0 0) 188 2 (pairRows [])::.blk b1 (.cells #[.string H.Name,.slice a1 n1 c1,.slice a2 n2 c2,.slice a3 n3 c3,.slice a4 n4 c4,.slice a5 n5 c5] 38)::S) w) n5 ⟨0,none,0,0,none,0,0,by omega,⟨rfl,rfl,rfl,rfl,rfl,rfl,rfl,rfl,rfl,rfl,trivial⟩,hw⟩ ?_
 clear hw;rintro μ ρ w ⟨k,q7,m7,d7,q4,m4,d4,hk,hρ,hw⟩
 have hm7:=own_len (i:=4) hw rfl
 simp only[intRows,strRows,pairRows,List.length_map,List.length_take]at hm7
 have hm4:=own_len (i:=1) hw rfl
 simp only[intRows,strRows,pairRows,List.length_map,List.length_take]at hm4
 rw[hρ.eq];refine byG ?_;refine W_cond rfl (fun h=>?_) (fun h=>?_)
 ·have hkn:k<n5:=by simpa using h
  obtain⟨x,hx⟩:=get_lt (l:=H.Devs) (k:=k) (by omega)
  refine byG ?_;refine lAlloc ?_;intro b9 w hw;refine lStore ?_;intro w hw;have hw:Wd Γ (.blk b9 (.cells (enc x).toArray 72)::.own (.slice q3 m3 d3) 3 1 (intRows (H.Cores.map (fun c=>c.ID)))::.own (.slice q4 m4 d4) 3 1 (intRows ((H.Devs.take k).map (fun c=>c.IRQ)))::.own (.slice q5 m5 d5) 9 1 (strRows (cs.map (fun c=>c.Name)))::.own (.slice q6 m6 d6) 9 1 (strRows (H.Mems.map (fun c=>c.Name)))::.own (.slice q7 m7 d7) 9 1 (strRows ((H.Devs.take k).map (fun c=>c.Name)))::.own (.slice none 0 0) 188 2 (pairRows [])::.blk b1 (.cells #[.string H.Name,.slice a1 n1 c1,.slice a2 n2 c2,.slice a3 n3 c3,.slice a4 n4 c4,.slice a5 n5 c5] 38)::S) w:=hw
  refine byG ?_;refine lBuildSlice [[.string x.Name]] ?_
  intro ab w hw;refine lApp (i:=6) (rows2:=[[.string x.Name]]) ?_ (Wd.own_rd (i:=0) hw rfl)
  intro v' w hw;obtain⟨q7',m7',d7',rfl,-,-,-⟩:=hw.own_shape (i:=6) rfl
  have hw:=hw.drop
  have hw:Wd Γ (.blk b9 (.cells (enc x).toArray 72)::.own (.slice q3 m3 d3) 3 1 (intRows (H.Cores.map (fun c=>c.ID)))::.own (.slice q4 m4 d4) 3 1 (intRows ((H.Devs.take k).map (fun c=>c.IRQ)))::.own (.slice q5 m5 d5) 9 1 (strRows (cs.map (fun c=>c.Name)))::.own (.slice q6 m6 d6) 9 1 (strRows (H.Mems.map (fun c=>c.Name)))::.own (.slice q7' m7' d7') 9 1 (strRows ((H.Devs.take (k+1)).map (fun c=>c.Name)))::.own (.slice none 0 0) 188 2 (pairRows [])::.blk b1 (.cells #[.string H.Name,.slice a1 n1 c1,.slice a2 n2 c2,.slice a3 n3 c3,.slice a4 n4 c4,.slice a5 n5 c5] 38)::S) w:=by
   rw[←rows_snocS hx];exact hw
  refine byG ?_;refine lBuildSlice [[.int .i64 x.IRQ]] ?_
  intro ab w hw;refine lApp (i:=3) (rows2:=[[.int .i64 x.IRQ]]) ?_ (Wd.own_rd (i:=0) hw rfl)
  intro v' w hw;obtain⟨q4',m4',d4',rfl,-,-,-⟩:=hw.own_shape (i:=3) rfl
  have hw:=hw.drop
  have hw:Wd Γ (.blk b9 (.cells (enc x).toArray 72)::.own (.slice q3 m3 d3) 3 1 (intRows (H.Cores.map (fun c=>c.ID)))::.own (.slice q4' m4' d4') 3 1 (intRows ((H.Devs.take (k+1)).map (fun c=>c.IRQ)))::.own (.slice q5 m5 d5) 9 1 (strRows (cs.map (fun c=>c.Name)))::.own (.slice q6 m6 d6) 9 1 (strRows (H.Mems.map (fun c=>c.Name)))::.own (.slice q7' m7' d7') 9 1 (strRows ((H.Devs.take (k+1)).map (fun c=>c.Name)))::.own (.slice none 0 0) 188 2 (pairRows [])::.blk b1 (.cells #[.string H.Name,.slice a1 n1 c1,.slice a2 n2 c2,.slice a3 n3 c3,.slice a4 n4 c4,.slice a5 n5 c5] 38)::S) w:=by
   rw[←rows_snocI hx];exact hw
  refine byG ?_;exact⟨μ-1,by omega,k+1,_,_,_,_,_,_,by omega,⟨rfl,rfl,rfl,rfl,rfl,rfl,rfl,rfl,rfl,rfl,trivial⟩,hw.drop⟩
 have hkn:¬k<n5:=by simpa using h
 rw[List.take_of_length_le (l:=H.Devs) (by omega)]at hw
 clear h hkn hρ hk hm7 hm4;refine byG ?_;refine W_loop (fun μ ρ w=>∃(k:Nat) (q8:Option Addr) (m8 d8:Nat),μ+k=n3∧Has ρ [(1,.pointer (some ⟨b1,0,none⟩)),(3,.slice q3 m3 d3),(4,.slice q4 m4 d4),(5,.slice q5 m5 d5),(6,.slice q6 m6 d6),(7,.slice q7 m7 d7),(8,.slice q8 m8 d8),(81,.slice a3 n3 c3),(82,.int .i64 n3),(83,.int .i64 k)]∧Wd Γ (.own (.slice q3 m3 d3) 3 1 (intRows (H.Cores.map (fun c=>c.ID)))::.own (.slice q4 m4 d4) 3 1 (intRows (H.Devs.map (fun c=>c.IRQ)))::.own (.slice q5 m5 d5) 9 1 (strRows (cs.map (fun c=>c.Name)))::.own (.slice q6 m6 d6) 9 1 (strRows (H.Mems.map (fun c=>c.Name)))::.own (.slice q7 m7 d7) 9 1 (strRows (H.Devs.map (fun c=>c.Name)))::.own (.slice q8 m8 d8) 188 2 (pairRows ((H.Links.take k).map linkKey))::.blk b1 (.cells #[.string H.Name,.slice a1 n1 c1,.slice a2 n2 c2,.slice a3 n3 c3,.slice a4 n4 c4,.slice a5 n5 c5] 38)::S) w) n3 ⟨0,none,0,0,by omega,⟨rfl,rfl,rfl,rfl,rfl,rfl,rfl,rfl,rfl,rfl,trivial⟩,hw⟩ ?_
 clear hw;rintro μ ρ w ⟨k,q8,m8,d8,hk,hρ,hw⟩
 have hm8:=own_len (i:=5) hw rfl
 simp only[intRows,strRows,pairRows,List.length_map,List.length_take]at hm8
 rw[hρ.eq];refine byG ?_;refine W_cond rfl (fun h=>?_) (fun h=>?_)
 ·have hkn:k<n3:=by simpa using h
  obtain⟨x,hx⟩:=get_lt (l:=H.Links) (k:=k) (by omega)
  refine byG ?_;refine lAlloc ?_;intro b9 w hw;refine lStore ?_;intro w hw;have hw:Wd Γ (.blk b9 (.cells (enc x).toArray 120)::.own (.slice q3 m3 d3) 3 1 (intRows (H.Cores.map (fun c=>c.ID)))::.own (.slice q4 m4 d4) 3 1 (intRows (H.Devs.map (fun c=>c.IRQ)))::.own (.slice q5 m5 d5) 9 1 (strRows (cs.map (fun c=>c.Name)))::.own (.slice q6 m6 d6) 9 1 (strRows (H.Mems.map (fun c=>c.Name)))::.own (.slice q7 m7 d7) 9 1 (strRows (H.Devs.map (fun c=>c.Name)))::.own (.slice q8 m8 d8) 188 2 (pairRows ((H.Links.take k).map linkKey))::.blk b1 (.cells #[.string H.Name,.slice a1 n1 c1,.slice a2 n2 c2,.slice a3 n3 c3,.slice a4 n4 c4,.slice a5 n5 c5] 38)::S) w:=hw
  refine byG ?_;refine lBuildSlice [[.int .i64 (linkKey x).1,.int .i64 (linkKey x).2]] ?_
  intro ab w hw;refine lApp (i:=7) (rows2:=[[.int .i64 (linkKey x).1,.int .i64 (linkKey x).2]]) ?_ (Wd.own_rd (i:=0) hw rfl)
  intro v' w hw;obtain⟨q8',m8',d8',rfl,-,-,-⟩:=hw.own_shape (i:=7) rfl
  have hw:=hw.drop
  have hw:Wd Γ (.blk b9 (.cells (enc x).toArray 120)::.own (.slice q3 m3 d3) 3 1 (intRows (H.Cores.map (fun c=>c.ID)))::.own (.slice q4 m4 d4) 3 1 (intRows (H.Devs.map (fun c=>c.IRQ)))::.own (.slice q5 m5 d5) 9 1 (strRows (cs.map (fun c=>c.Name)))::.own (.slice q6 m6 d6) 9 1 (strRows (H.Mems.map (fun c=>c.Name)))::.own (.slice q7 m7 d7) 9 1 (strRows (H.Devs.map (fun c=>c.Name)))::.own (.slice q8' m8' d8') 188 2 (pairRows ((H.Links.take (k+1)).map linkKey))::.blk b1 (.cells #[.string H.Name,.slice a1 n1 c1,.slice a2 n2 c2,.slice a3 n3 c3,.slice a4 n4 c4,.slice a5 n5 c5] 38)::S) w:=by
   rw[←rows_snocP hx];exact hw
  refine byG ?_;exact⟨μ-1,by omega,k+1,_,_,_,by omega,⟨rfl,rfl,rfl,rfl,rfl,rfl,rfl,rfl,rfl,rfl,trivial⟩,hw.drop⟩
 have hkn:¬k<n3:=by simpa using h
 rw[List.take_of_length_le (l:=H.Links) (by omega)]at hw
 clear h hkn hρ hk hm8;refine byG ?_;refine lCall ?_;refine(distinct_int_any (RdS.own (i:=0) hw rfl) hw).mono ?_
 rintro r w ⟨rfl,hw⟩
 refine⟨_,rfl,?_⟩;refine byG ?_;refine lCallGd (fun _=>distinct_string_any (RdS.own (i:=2) hw rfl) hw) ?_
 clear hw;intro w hw;refine byG ?_;refine lCallGd (fun _=>distinct_string_any (RdS.own (i:=3) hw rfl) hw) ?_
 clear hw;intro w hw;refine byG ?_;refine lCallGd (fun _=>distinct_string_any (RdS.own (i:=4) hw rfl) hw) ?_
 clear hw;intro w hw;refine byG ?_;refine lCallGd (fun _=>distinct_int_any (RdS.own (i:=1) hw rfl) hw) ?_
 clear hw;intro w hw;refine byG ?_;refine lCallGd (fun _=>distinct_pairint_any (RdS.own (i:=5) hw rfl) hw) ?_
 clear hw;intro w hw;refine byG ?_;refine⟨_,rfl,ret_b rfl ?_,hw.ds [0,0,0,0,0,0,0]⟩
 have e1:(cs.map fun c=>c.Name)=H.Caches.map fun c=>c.Name:=by rw[←hcs,List.map_map];rfl
 unfold uniqueB;rw[show (H.Caches.all fun c=>decide c.Cores.Nodup)=true from by rw[←hcs,all_cuniq];exact hA,←e1]
 rfl
section
variable {Γ:Gho}{S:List Res}{w:World}{a:Option Addr}{n c:Nat}{xs:List CoreT}
theorem IndexFunc_any(p:CoreT→Bool)(f:Nat)(fst cap:List Value)[FnOk Tryz.prog f](hr:RdS Γ S (.slice a n c) 4 (xs.map enc))
  (hf:∀x w,Wd Γ S w→Calls Tryz.prog f (fst++[Value.agg (enc x).toArray]++cap).toArray w fun e w'=>e=.returned (.bool (p x))∧Wd Γ S w') (hw:Wd Γ S w) :
  Calls Tryz.prog 95 #[.slice a n c,.func (.func f) fst.toArray cap.toArray] w fun e w'=>∃i:Int,e=.returned (.int .i64 i)∧decide (0≤i)=xs.any p∧Wd Γ S w':=by
 obtain⟨_,_,_,he,hn,hnc,hc⟩:=hr.shape;cases he
 have hnr:=hn
 simp only[List.length_map]at hn
 refine calls_of_W Tryz.func95 rfl rfl ?_
 refine byG ?_;refine W_loop (fun μ ρ w=>∃(k:Nat),μ+k=n∧Has ρ [(0,.slice a n c),(1,.func (.func f) fst.toArray cap.toArray),(7,.int .i64 n),(8,.int .i64 k)]∧(∀i x,i<k→xs[i]? = some x→(!p x)=true)∧Wd Γ S w) n ⟨0,by omega,⟨rfl,rfl,rfl,rfl,trivial⟩,fun i x h=>by omega,hw⟩ ?_
 clear hw;rintro μ ρ w ⟨k,hk,hρ,hall,hw⟩
 rw[hρ.eq];refine byG ?_;refine W_cond rfl (fun h=>?_) (fun h=>?_)
 ·have hkn:k<n:=by simpa using h
  obtain⟨x,hx⟩:=get_lt (l:=xs) (k:=k) (by omega)
  refine byG ?_;refine lCallv (fst:=fst) (cap:=cap) (vs:=[.agg (enc x).toArray]) ?_
  refine(hf x w hw).mono ?_
  rintro r w ⟨rfl,hw⟩
  refine⟨_,rfl,?_⟩;refine byG ?_;refine W_cond rfl (fun h2=>?_) (fun h2=>?_)
  ·refine byG ?_;exact⟨_,rfl,k,rfl,by rw[decide_eq_true (show (0:Int)≤k by omega)];exact(List.any_eq_true.2 ⟨x,List.mem_of_getElem? hx,h2⟩).symm,hw⟩
  ·refine byG ?_;exact⟨μ-1,by omega,k+1,by omega,⟨rfl,rfl,rfl,rfl,trivial⟩,all_step hall hx (by rw[h2];rfl),hw⟩
 ·have hkn:¬k<n:=by simpa using h
  refine byG ?_;refine⟨_,rfl,-1,rfl,?_,hw⟩
  have:=all_end hall (by omega)
  rw[decide_eq_false (show ¬(0:Int)≤-1 by decide)]
  rw[List.all_eq_true]at this;exact(List.any_eq_false.2 fun x hx=>by simpa using this x hx).symm
theorem ContainsFunc_any(p:CoreT→Bool)(f:Nat)(fst cap:List Value)[FnOk Tryz.prog f](hr:RdS Γ S (.slice a n c) 4 (xs.map enc))
  (hf:∀x w,Wd Γ S w→Calls Tryz.prog f (fst++[Value.agg (enc x).toArray]++cap).toArray w fun e w'=>e=.returned (.bool (p x))∧Wd Γ S w') (hw:Wd Γ S w) :
  Calls Tryz.prog 63 #[.slice a n c,.func (.func f) fst.toArray cap.toArray] w fun e w'=>e=.returned (.bool (xs.any p))∧Wd Γ S w':=by
 refine calls_of_W Tryz.func63 rfl rfl ?_
 refine byG ?_;refine lCall ?_;refine(IndexFunc_any p f fst cap hr hf hw).mono ?_
 rintro r w ⟨i,rfl,hi,hw⟩
 refine⟨_,rfl,?_⟩;refine byG ?_;exact⟨_,rfl,ret_b rfl hi,hw⟩
theorem known1_any{b6 i:Nat}{id:Int}(x:CoreT)(hi:S[i]? = some (.blk b6 (.cells #[.int .i64 id] 3)))(hw:Wd Γ S w) :
  Calls Tryz.prog 139 #[.agg (enc x).toArray,.pointer (some ⟨b6,0,none⟩)] w fun e w'=>e=.returned (.bool (decide (x.ID=id)))∧Wd Γ S w':=by
 refine calls_of_W Tryz.func139 rfl rfl ?_
 refine byG ?_;refine lBox ?_;intro b2 w hw;have hw:Wd Γ (.blk b2 (.cells (enc x).toArray 69)::S) w:=hw
 refine byG ?_;have hi2:(Res.blk b2 (.cells (enc x).toArray 69)::S)[i+1]? = some (.blk b6 (.cells #[.int .i64 id] 3)):=by simpa using hi
 refine lY (v:=.int .i64 id) ?_ (hy:=y_l1b (i:=i+1) hw rfl hi2 rfl)
 refine byG ?_;exact⟨_,rfl,rfl,hw.drop⟩
end
def knownB(H:HwT):Bool:=H.Caches.all fun c=>c.Cores.all fun id=>H.Cores.any fun x=>decide (x.ID=id)
def knownH(H:HwT)(c:CacheH):Bool:=c.Cores.all fun id=>H.Cores.any fun x=>decide (x.ID=id)
theorem all_known(H:HwT)(cs:List CacheH):((cs.map CacheH.T).all fun c=>c.Cores.all fun id=>H.Cores.any fun x=>decide (x.ID=id))=cs.all (knownH H):=by rw[List.all_map];rfl
abbrev hwC(H:HwT)(a1:Option Addr)(n1 c1:Nat)(a2:Option Addr)(n2 c2:Nat)(a3:Option Addr)(n3 c3:Nat)(a4:Option Addr)(n4 c4:Nat)(a5:Option Addr)(n5 c5:Nat):Obj:=.cells #[.string H.Name,.slice a1 n1 c1,.slice a2 n2 c2,.slice a3 n3 c3,.slice a4 n4 c4,.slice a5 n5 c5] 38
instance pg_knownOK{Γ:Gho}{u:Value}{H:HwT}[hh:HwR Γ u H]:PG Tryz.prog Γ 104 [u] (.bool (knownB H)):=⟨fun S w hw=>by
 obtain⟨a1,n1,c1,a2,n2,c2,a3,n3,c3,a4,n4,c4,a5,n5,c5,cs,rfl,hcs,hok,hsz,r1,r2,r3,r4,r5⟩:=hh.h;obtain⟨hn1,hm1,hx1⟩:=rep_facts r1
 obtain⟨hn2,hm2,hx2⟩:=rep_facts r2
 simp only[List.length_map]at hn1 hn2
 refine calls_of_W Tryz.func104 rfl rfl ?_
 refine byG ?_;refine lBox ?_;intro b1 w hw;have hw:Wd Γ (.blk b1 (hwC H a1 n1 c1 a2 n2 c2 a3 n3 c3 a4 n4 c4 a5 n5 c5)::S) w:=hw
 refine byG ?_;refine W_loop (fun μ ρ w=>∃(k:Nat),μ+k=n2∧Has ρ [(1,.pointer (some ⟨b1,0,none⟩)),(8,.slice a2 n2 c2),(9,.int .i64 n2),(10,.int .i64 k)]∧(∀i x,i<k→cs[i]? = some x→knownH H x=true)∧Wd Γ (.blk b1 (hwC H a1 n1 c1 a2 n2 c2 a3 n3 c3 a4 n4 c4 a5 n5 c5)::S) w) n2 ⟨0,by omega,⟨rfl,rfl,rfl,rfl,trivial⟩,fun i x h=>by omega,hw⟩ ?_
 clear hw;rintro μ ρ w ⟨k,hk,hρ,hall,hw⟩
 rw[hρ.eq];refine byG ?_;refine W_cond rfl (fun h=>?_) (fun h=>?_)
 ·have hkn:k<n2:=by simpa using h
  obtain⟨x,hx⟩:=get_lt (l:=cs) (k:=k) (by omega)
  have hcok:=hok x (List.mem_of_getElem? hx)
  obtain⟨hxn,hxm,hxc⟩:=hcok.facts;unfold COk at hcok;refine byG ?_;refine lAlloc ?_;intro b9 w hw;refine lStore ?_;intro w hw;have hw:Wd Γ (.blk b9 (.cells (cC x).toArray 125)::.blk b1 (hwC H a1 n1 c1 a2 n2 c2 a3 n3 c3 a4 n4 c4 a5 n5 c5)::S) w:=hw
  refine byG ?_;refine W_loop (fun μ2 ρ w=>∃(j:Nat),μ2+j=x.N∧Has ρ [(1,.pointer (some ⟨b1,0,none⟩)),(8,.slice a2 n2 c2),(9,.int .i64 n2),(10,.int .i64 k),(15,.slice x.A x.N x.C),(16,.int .i64 x.N),(17,.int .i64 j)]∧(∀i id,i<j→x.Cores[i]? = some id→(H.Cores.any fun y=>decide (y.ID=id))=true)∧Wd Γ (.blk b9 (.cells (cC x).toArray 125)::.blk b1 (hwC H a1 n1 c1 a2 n2 c2 a3 n3 c3 a4 n4 c4 a5 n5 c5)::S) w) x.N ⟨0,by omega,⟨rfl,rfl,rfl,rfl,rfl,rfl,rfl,trivial⟩,fun i x h=>by omega,hw⟩ ?_
  clear hw;rintro μ2 ρ w ⟨j,hj,hρ,hall2,hw⟩
  rw[hρ.eq];refine byG ?_;refine W_cond rfl (fun h2=>?_) (fun h2=>?_)
  ·have hjn:j<x.N:=by simpa using h2
   obtain⟨id,hid⟩:=get_lt (l:=x.Cores) (k:=j) (by omega)
   refine byG ?_;refine lAlloc ?_;intro b6 w hw;refine lStore ?_;intro w hw;have hw:Wd Γ (.blk b6 (.cells #[.int .i64 id] 3)::.blk b9 (.cells (cC x).toArray 125)::.blk b1 (hwC H a1 n1 c1 a2 n2 c2 a3 n3 c3 a4 n4 c4 a5 n5 c5)::S) w:=hw
   refine byG ?_;refine lCall ?_;refine(ContainsFunc_any (fun y=>decide (y.ID=id)) 139 [] [.pointer (some ⟨b6,0,none⟩)] r1.rdS (fun y w hw=>known1_any y (i:=0) rfl hw) hw).mono ?_
   rintro r w ⟨rfl,hw⟩
   refine⟨_,rfl,?_⟩;refine byG ?_;refine W_cond rfl (fun h3=>?_) (fun h3=>?_)
   ·have hf:(H.Cores.any fun y=>decide (y.ID=id))=false:=by simpa using h3
    refine byG ?_;refine⟨_,rfl,ret_b rfl ?_,hw.drop.drop.drop⟩
    have hf2:knownH H x=false:=all_no hid hf
    unfold knownB;rw[←hcs,all_known];exact(all_no hx hf2).symm
   ·have ht:(H.Cores.any fun y=>decide (y.ID=id))=true:=by simpa using h3
    refine byG ?_;exact⟨μ2-1,by omega,j+1,by omega,⟨rfl,rfl,rfl,rfl,rfl,rfl,rfl,trivial⟩,all_step hall2 hid ht,hw.drop⟩
  ·have hjn:¬j<x.N:=by simpa using h2
   have ht:knownH H x=true:=all_end hall2 (by omega)
   refine byG ?_;exact⟨μ-1,by omega,k+1,by omega,⟨rfl,rfl,rfl,rfl,trivial⟩,all_step hall hx ht,hw.drop⟩
 ·have hkn:¬k<n2:=by simpa using h
  refine byG ?_;refine⟨_,rfl,ret_b rfl ?_,hw.drop⟩
  unfold knownB;rw[←hcs,all_known];exact(all_end hall (by omega)).symm⟩
def sortedP(l:List Int):Prop:=∀i a b,l[i]? = some a→l[i+1]? = some b→a≤b
noncomputable def decP(p:Prop):Bool:=@decide p (Classical.propDecidable p)
theorem decP_t{p:Prop}(h:p):decP p=true:=@decide_eq_true p (Classical.propDecidable p) h
theorem decP_f{p:Prop}(h:¬p):decP p=false:=@decide_eq_false p (Classical.propDecidable p) h
theorem decP_iff{p:Prop}:decP p=true↔p:=@decide_eq_true_iff p (Classical.propDecidable p)
noncomputable def sortedB(l:List Int):Bool:=decP (sortedP l)
instance pc_isNaN(x:Int):PC Tryz.prog 79 [.int .i64 x] (.bool false):=⟨fun w=>by
 refine calls_of_W Tryz.func79 rfl rfl ?_
 refine byG ?_;exact⟨_,rfl,ret_b rfl (by simp),rfl⟩⟩
instance pc_Less(x y:Int):PC Tryz.prog 128 [.int .i64 x,.int .i64 y] (.bool (decide (x<y))):=⟨fun w=>by
 refine calls_of_W Tryz.func128 rfl rfl ?_
 repeat(first|(first|refine W_seq ?_|refine W_block ?_|refine W_region ?_|refine W_skip ?_|refine W_ret ?_|refine W_exit ?_)|((first|apply L_bin|apply L_notop);first|(refine lT ?_ ?_;(first|exact rfl|exact decide_eq_true rfl|(simp;done)))|(refine lF ?_ ?_;(first|exact rfl|exact decide_eq_true rfl|(simp;done))))|(first|refine L_nil ?_|(apply L_plain;first|(apply L_go;first|refine lP ?_|(refine lPg ?_;intro w hw))|(apply L_mf;refine lMakeFunc ?_)|refine lY ?_)|(apply L_guarded;first|refine lGT ?_ (hct:=rfl)|refine lGF ?_ (hct:=rfl)|(apply L_go;first|refine lPG ?_|(refine lPgG ?_;intro w hw))|refine lG ?_))|(refine lAlloc ?_;intro _ w hw)|(refine lBox ?_;intro _ w hw)|(refine lStore ?_;intro w hw))
 exact⟨_,rfl,ret_b rfl (by simp),rfl⟩⟩
section
variable {Γ:Gho}{S:List Res}{w:World}{xs:List Int}{v:Value}
theorem IsSorted_any(hr:RdS Γ S v 1 (intRows xs))(hw:Wd Γ S w):Calls Tryz.prog 140 #[v] w fun e w'=>e=.returned (.bool (sortedB xs))∧Wd Γ S w':=by
 obtain⟨a,n,c,rfl,hn,hnc,hc⟩:=hr.shape;have hnr:=hn
 simp only[intRows,List.length_map]at hn
 refine calls_of_W Tryz.func140 rfl rfl ?_
 refine byG ?_;refine W_loop (fun μ ρ w=>∃(m:Nat),μ=m∧m≤n∧Has ρ [(0,.slice a n c),(3,.int .i64 ((m:Int)-1))]∧(∀i a b,m≤i+1→xs[i]? = some a→xs[i+1]? = some b→a≤b)∧Wd Γ S w) n ⟨n,rfl,Nat.le_refl _,⟨rfl,rfl,trivial⟩,fun i a b h1 h2 h3=>by have:=(List.getElem?_eq_some_iff.1 h3).1;omega,hw⟩ ?_
 clear hw;rintro μ ρ w ⟨m,rfl,hm,hρ,hall,hw⟩
 rw[hρ.eq];refine byG ?_;refine W_cond rfl (fun h=>?_) (fun h=>?_)
 ·have hm2:2≤μ:=by have:=of_decide_eq_true h;omega
  obtain⟨x,hx⟩:=get_lt (l:=xs) (k:=μ-1) (by omega)
  obtain⟨y,hy⟩:=get_lt (l:=xs) (k:=μ-2) (by omega)
  have e1:((μ:Int)-1).toNat=μ-1:=by omega
  have e2:((μ:Int)-1-1).toNat=μ-2:=by omega
  have hx':xs[((μ:Int)-1).toNat]? = some x:=by rw[e1];exact hx
  have hy':xs[((μ:Int)-1-1).toNat]? = some y:=by rw[e2];exact hy
  refine byG ?_;refine W_quiet (by kernel_rfl) (by kernel_rfl) hw ?_
  refine byQ ?_;intro w hw;refine W_cond rfl (fun h2=>?_) (fun h2=>?_)
  ·have h2:x<y:=of_decide_eq_true h2
   refine byG ?_;refine⟨_,rfl,ret_b rfl ?_,hw⟩
   exact(decP_f fun hs=>by have:=hs (μ-2) y x hy (by rw[show μ-2+1=μ-1 by omega];exact hx);omega).symm
  ·have h2:¬x<y:=of_decide_eq_false h2
   refine byG ?_;refine⟨μ-1,by omega,μ-1,rfl,by omega,⟨rfl,?_,trivial⟩,fun i p q h3 h4 h5=>?_,hw⟩
   ·show Value.int .i64 ((μ:Int)-1-1)=_
    congr 1;omega
   ·by_cases e:μ≤i+1
    ·exact hall i p q e h4 h5
    ·have:i=μ-2:=by omega
     subst this;rw[show μ-2+1=μ-1 by omega,hx]at h5
     rw[hy]at h4;cases h4;cases h5;omega
 ·have hm2:¬2≤μ:=by have:=of_decide_eq_false h;omega
  refine byG ?_;refine⟨_,rfl,ret_b rfl ?_,hw⟩
  exact(decP_t fun i p q h1 h2=>hall i p q (by omega) h1 h2).symm
def memI(x:Int)(xs:List Int):Bool:=xs.any fun y=>decide (x=y)
theorem ContainsI_any(hr:RdS Γ S v 1 (intRows xs))(x:Int)(hw:Wd Γ S w):Calls Tryz.prog 65 #[v,.int .i64 x] w fun e w'=>e=.returned (.bool (memI x xs))∧Wd Γ S w':=by
 have hI:∀w,Wd Γ S w→Calls Tryz.prog 71 #[v,.int .i64 x] w fun e w'=>∃i:Int,e=.returned (.int .i64 i)∧(decide (0≤i)=memI x xs)∧Wd Γ S w':=by
  intro w hw;obtain⟨a,n,c,rfl,hn,hnc,hc⟩:=hr.shape;have hnr:=hn
  simp only[intRows,List.length_map]at hn
  refine calls_of_W Tryz.func71 rfl rfl ?_
  refine byG ?_;refine W_loop (fun μ ρ w=>∃(k:Nat),μ+k=n∧Has ρ [(0,.slice a n c),(1,.int .i64 x),(7,.int .i64 n),(8,.int .i64 k)]∧(∀i y,i<k→xs[i]? = some y→(!decide (x=y))=true)∧Wd Γ S w) n ⟨0,by omega,⟨rfl,rfl,rfl,rfl,trivial⟩,fun i x h=>by omega,hw⟩ ?_
  clear hw;rintro μ ρ w ⟨k,hk,hρ,hno,hw⟩
  rw[hρ.eq];refine byG ?_;refine W_cond rfl (fun h=>?_) (fun h=>?_)
  ·have hkn:k<n:=by simpa using h
   obtain⟨y,hy⟩:=get_lt (l:=xs) (k:=k) (by omega)
   refine byG ?_;refine W_cond rfl (fun h2=>?_) (fun h2=>?_)
   ·refine byG ?_;exact⟨_,rfl,k,rfl,by rw[decide_eq_true (show (0:Int)≤k by omega)];exact(List.any_eq_true.2 ⟨y,List.mem_of_getElem? hy,h2⟩).symm,hw⟩
   ·refine byG ?_;exact⟨μ-1,by omega,k+1,by omega,⟨rfl,rfl,rfl,rfl,trivial⟩,all_step hno hy (by rw[h2];rfl),hw⟩
  ·have hkn:¬k<n:=by simpa using h
   refine byG ?_;refine⟨_,rfl,-1,rfl,?_,hw⟩
   have:=all_end hno (by omega)
   rw[decide_eq_false (show ¬(0:Int)≤-1 by decide)]
   rw[List.all_eq_true]at this;exact(List.any_eq_false.2 fun y hy=>by simpa using this y hy).symm
 refine calls_of_W Tryz.func65 rfl rfl ?_
 refine byG ?_;refine lCall ?_;refine(hI w hw).mono ?_
 rintro e w ⟨i,rfl,hd,hw⟩
 refine⟨_,rfl,?_⟩;refine byG ?_;exact⟨_,rfl,ret_b rfl hd,hw⟩
end
instance pg_ContainsI{Γ:Gho}{v:Value}{xs:List Int}[hr:SlC Γ v 1 (intRows xs)](x:Int):PG Tryz.prog Γ 65 [v,.int .i64 x] (.bool (memI x xs)):=⟨fun S w hw=>ContainsI_any hr.h.rdS x hw⟩
noncomputable instance pg_IsSorted {Γ:Gho} {v:Value} {xs:List Int} [hr:SlC Γ v 1 (intRows xs)]:PG Tryz.prog Γ 140 [v] (.bool (sortedB xs)):=⟨fun S w hw=>IsSorted_any hr.h.rdS hw⟩
def sharedN(a b:List Int):Nat:=(a.filter fun v=>memI v b).length
def pairB(i k:Nat)(a b:CacheT):Bool:=decide (i=k)||decide (b.Level<a.Level) || !(decide (0<sharedN a.Cores b.Cores)&&(decide (a.Level=b.Level)||decide (sharedN a.Cores b.Cores<a.Cores.length)))
def HierP(l:List CacheT):Prop:=(∀c∈l,sortedP c.Cores)∧∀(i k:Nat) (a b:CacheT),l[i]? = some a→l[k]? = some b→pairB i k a b=true
noncomputable def hierB(H:HwT):Bool:=decP (HierP H.Caches)
theorem allI_step{α:Type}{l:List α}{p:Nat→α→Bool}{k:Nat}{x:α}(h:∀i x,i<k→l[i]? = some x→p i x=true)(hx:l[k]? = some x)(ht:p k x=true):∀i x,i<k+1→l[i]? = some x→p i x=true:=fun i y hi hy=>by
 by_cases e:i=k
 ·subst e;rw[hx]at hy;cases hy;exact ht
 ·exact h i y (by omega) hy
instance pg_hierarchyOK{Γ:Gho}{u:Value}{H:HwT}[hh:HwR Γ u H]:PG Tryz.prog Γ 105 [u] (.bool (hierB H)):=⟨fun S w hw=>by
 obtain⟨a1,n1,c1,a2,n2,c2,a3,n3,c3,a4,n4,c4,a5,n5,c5,cs,rfl,hcs,hok,hsz,r1,r2,r3,r4,r5⟩:=hh.h;obtain⟨hn2,hm2,hx2⟩:=rep_facts r2
 simp only[List.length_map]at hn2
 have hget:∀(i:Nat) (x:CacheH),cs[i]? = some x→H.Caches[i]? = some x.T:=fun i x h=>by rw[←hcs];simp[h]
 refine calls_of_W Tryz.func105 rfl rfl ?_
 refine byG ?_;refine lBox ?_;intro b1 w hw;have hw:Wd Γ (.blk b1 (hwC H a1 n1 c1 a2 n2 c2 a3 n3 c3 a4 n4 c4 a5 n5 c5)::S) w:=hw
 refine byG ?_;refine W_loop (fun μ ρ w=>∃(k:Nat),μ+k=n2∧Has ρ [(1,.pointer (some ⟨b1,0,none⟩)),(13,.slice a2 n2 c2),(14,.int .i64 n2),(15,.int .i64 k)]∧(∀(i:Nat) (x:CacheH),i<k→cs[i]? = some x→sortedB x.Cores=true)∧Wd Γ (.blk b1 (hwC H a1 n1 c1 a2 n2 c2 a3 n3 c3 a4 n4 c4 a5 n5 c5)::S) w) n2 ⟨0,by omega,⟨rfl,rfl,rfl,rfl,trivial⟩,fun i x h=>by omega,hw⟩ ?_
 clear hw;rintro μ ρ w ⟨k,hk,hρ,hall,hw⟩
 rw[hρ.eq];refine byG ?_;refine W_cond rfl (fun h=>?_) (fun h=>?_)
 ·have hkn:k<n2:=by simpa using h
  obtain⟨x,hx⟩:=get_lt (l:=cs) (k:=k) (by omega)
  haveI:SlC Γ (.slice x.A x.N x.C) 1 (intRows x.Cores):=⟨hok x (List.mem_of_getElem? hx)⟩
  refine byG ?_;refine lAlloc ?_;intro b9 w hw;refine lStore ?_;intro w hw;have hw:Wd Γ (.blk b9 (.cells (cC x).toArray 125)::.blk b1 (hwC H a1 n1 c1 a2 n2 c2 a3 n3 c3 a4 n4 c4 a5 n5 c5)::S) w:=hw
  repeat first|refine byW ?_|refine byV ?_;intro w hw
  refine W_cond rfl (fun h2=>?_) (fun h2=>?_)
  ·have hf:sortedB x.Cores=false:=by simpa using h2
   refine byG ?_;refine⟨_,rfl,ret_b rfl ?_,hw.drop.drop⟩
   refine(decP_f fun hP=>?_).symm
   have:=hP.1 x.T (List.mem_of_getElem? (hget k x hx))
   rw[show sortedB x.Cores=true from decP_t this]at hf;cases hf
  ·have ht:sortedB x.Cores=true:=by simpa using h2
   refine byG ?_;exact⟨μ-1,by omega,k+1,by omega,⟨rfl,rfl,rfl,rfl,trivial⟩,all_step hall hx ht,hw.drop⟩
 have hkn:¬k<n2:=by simpa using h
 have hsort:∀(i:Nat) (x:CacheH),cs[i]? = some x→sortedP x.Cores:=fun i x hx=>decP_iff.1 (hall i x (by have:=(List.getElem?_eq_some_iff.1 hx).1;omega) hx)
 clear h hkn hall hρ hk;refine byG ?_;refine W_loop (fun μ ρ w=>∃(k:Nat),μ+k=n2∧Has ρ [(1,.pointer (some ⟨b1,0,none⟩)),(25,.slice a2 n2 c2),(26,.int .i64 n2),(27,.int .i64 k)]∧(∀(i j:Nat) (a b:CacheH),i<k→cs[i]? = some a→cs[j]? = some b→pairB i j a.T b.T=true)∧Wd Γ (.blk b1 (hwC H a1 n1 c1 a2 n2 c2 a3 n3 c3 a4 n4 c4 a5 n5 c5)::S) w) n2 ⟨0,by omega,⟨rfl,rfl,rfl,rfl,trivial⟩,fun i j a b h=>by omega,hw⟩ ?_
 clear hw;rintro μ ρ w ⟨i,hi,hρ,hall,hw⟩
 rw[hρ.eq];refine byG ?_;refine W_cond rfl (fun h=>?_) (fun h=>?_)
 ·have hin:i<n2:=by simpa using h
  obtain⟨x,hx⟩:=get_lt (l:=cs) (k:=i) (by omega)
  have hcx:=hok x (List.mem_of_getElem? hx)
  obtain⟨hxn,hxm,hxc⟩:=hcx.facts;unfold COk at hcx;refine byG ?_;refine lAlloc ?_;intro b6 w hw;refine byG ?_;refine lStore ?_;intro w hw;have hw:Wd Γ (.blk b6 (.cells (cC x).toArray 125)::.blk b1 (hwC H a1 n1 c1 a2 n2 c2 a3 n3 c3 a4 n4 c4 a5 n5 c5)::S) w:=hw
  refine byG ?_;refine W_loop (fun μ2 ρ w=>∃(k:Nat),μ2+k=n2∧Has ρ [(1,.pointer (some ⟨b1,0,none⟩)),(5,.int .i64 i),(6,.pointer (some ⟨b6,0,none⟩)),(25,.slice a2 n2 c2),(26,.int .i64 n2),(27,.int .i64 i),(33,.slice a2 n2 c2),(34,.int .i64 n2),(35,.int .i64 k)]∧(∀(j:Nat) (b:CacheH),j<k→cs[j]? = some b→pairB i j x.T b.T=true)∧Wd Γ (.blk b6 (.cells (cC x).toArray 125)::.blk b1 (hwC H a1 n1 c1 a2 n2 c2 a3 n3 c3 a4 n4 c4 a5 n5 c5)::S) w) n2 ⟨0,by omega,⟨rfl,rfl,rfl,rfl,rfl,rfl,rfl,rfl,rfl,trivial⟩,fun j b h=>by omega,hw⟩ ?_
  clear hw;rintro μ2 ρ w ⟨k,hk,hρ,hall2,hw⟩
  rw[hρ.eq];refine byG ?_;refine W_cond rfl (fun h2=>?_) (fun h2=>?_)
  ·have hkn:k<n2:=by simpa using h2
   obtain⟨y,hy⟩:=get_lt (l:=cs) (k:=k) (by omega)
   have hcy:=hok y (List.mem_of_getElem? hy)
   haveI:SlC Γ (.slice y.A y.N y.C) 1 (intRows y.Cores):=⟨hcy⟩
   refine byG ?_;refine lAlloc ?_;intro b8 w hw;refine byG ?_;refine lStore ?_;intro w hw;have hw:Wd Γ (.blk b8 (.cells (cC y).toArray 125)::.blk b6 (.cells (cC x).toArray 125)::.blk b1 (hwC H a1 n1 c1 a2 n2 c2 a3 n3 c3 a4 n4 c4 a5 n5 c5)::S) w:=hw
   refine byG ?_;refine W_cond rfl (fun h3=>?_) (fun h3=>?_)
   ·have hp:pairB i k x.T y.T=true:=by
     have h3:(decide ((i:Int)=k)||decide (y.Level<x.Level))=true:=h3
     unfold pairB CacheH.T;rw[show decide (i=k)=decide ((i:Int)=k) from decide_eq_decide.2 (by omega)]
     rw[h3];rfl
    refine byG ?_;exact⟨μ2-1,by omega,k+1,by omega,⟨rfl,rfl,rfl,rfl,rfl,rfl,rfl,rfl,rfl,trivial⟩,allI_step (p:=fun j b=>pairB i j x.T b.T) hall2 hy hp,hw.drop⟩
   ·have h3:(decide ((i:Int)=k)||decide (y.Level<x.Level))=false:=h3
    refine byG ?_;refine W_loop (fun μ3 ρ w=>∃(j:Nat),μ3+j=x.N∧Has ρ [(1,.pointer (some ⟨b1,0,none⟩)),(5,.int .i64 i),(6,.pointer (some ⟨b6,0,none⟩)),(8,.pointer (some ⟨b8,0,none⟩)),(9,.int .i64 (sharedN (x.Cores.take j) y.Cores)),(25,.slice a2 n2 c2),(26,.int .i64 n2),(27,.int .i64 i),(33,.slice a2 n2 c2),(34,.int .i64 n2),(35,.int .i64 k),(51,.slice x.A x.N x.C),(52,.int .i64 x.N),(53,.int .i64 j)]∧Wd Γ (.blk b8 (.cells (cC y).toArray 125)::.blk b6 (.cells (cC x).toArray 125)::.blk b1 (hwC H a1 n1 c1 a2 n2 c2 a3 n3 c3 a4 n4 c4 a5 n5 c5)::S) w) x.N ⟨0,by omega,⟨rfl,rfl,rfl,rfl,rfl,rfl,rfl,rfl,rfl,rfl,rfl,rfl,rfl,rfl,trivial⟩,hw⟩ ?_
    clear hw;rintro μ3 ρ w ⟨j,hj,hρ,hw⟩
    rw[hρ.eq];have hle:sharedN (x.Cores.take j) y.Cores≤j:=Nat.le_trans (List.length_filter_le _ _) (by simp;omega)
    refine byG ?_;refine W_cond rfl (fun h4=>?_) (fun h4=>?_)
    ·have hjn:j<x.N:=by simpa using h4
     obtain⟨v,hv⟩:=get_lt (l:=x.Cores) (k:=j) (by omega)
     have hst:sharedN (x.Cores.take (j+1)) y.Cores=sharedN (x.Cores.take j) y.Cores+(if memI v y.Cores=true then 1 else 0):=by
      unfold sharedN;rw[take_succ_of hv,List.filter_append,List.length_append];congr 1
      by_cases e:memI v y.Cores=true <;> simp[e]
     repeat first|refine byW ?_|refine byV ?_;intro w hw
     refine W_cond rfl (fun h5=>?_) (fun h5=>?_)
     ·rw[if_pos h5]at hst;refine byG ?_;exact⟨μ3-1,by omega,j+1,by omega,⟨rfl,rfl,rfl,rfl,by rw[hst];rfl,rfl,rfl,rfl,rfl,rfl,rfl,rfl,rfl,rfl,trivial⟩,hw⟩
     ·rw[if_neg (by rw[h5];simp)]at hst
      refine byG ?_;exact⟨μ3-1,by omega,j+1,by omega,⟨rfl,rfl,rfl,rfl,by rw[hst];rfl,rfl,rfl,rfl,rfl,rfl,rfl,rfl,rfl,rfl,trivial⟩,hw⟩
    ·have hjn:¬j<x.N:=by simpa using h4
     rw[List.take_of_length_le (by omega)]
     refine byG ?_;have key:pairB i k x.T y.T = !(decide ((0:Int)<(sharedN x.Cores y.Cores:Nat))&&(decide (x.Level=y.Level)||decide (((sharedN x.Cores y.Cores:Nat):Int)<x.N))):=by
      unfold pairB CacheH.T;rw[show decide (i=k)=decide ((i:Int)=k) from decide_eq_decide.2 (by omega),h3]
      rw[show decide (0<sharedN x.Cores y.Cores)=decide ((0:Int)<(sharedN x.Cores y.Cores:Nat)) from decide_eq_decide.2 (by omega)]
      rw[show decide (sharedN x.Cores y.Cores<x.Cores.length)=decide (((sharedN x.Cores y.Cores:Nat):Int)<x.N) from decide_eq_decide.2 (by omega)]
      rfl
     refine W_cond rfl (fun h6=>?_) (fun h6=>?_)
     ·have hp:pairB i k x.T y.T=false:=key.trans (congrArg (fun b=>!b) h6)
      refine byG ?_;refine⟨_,rfl,ret_b rfl ?_,hw.drop.drop.drop⟩
      refine(decP_f fun hP=>?_).symm
      rw[hP.2 i k x.T y.T (hget i x hx) (hget k y hy)]at hp;cases hp
     ·have hp:pairB i k x.T y.T=true:=key.trans (congrArg (fun b=>!b) h6)
      refine byG ?_;exact⟨μ2-1,by omega,k+1,by omega,⟨rfl,rfl,rfl,rfl,rfl,rfl,rfl,rfl,rfl,trivial⟩,allI_step (p:=fun j b=>pairB i j x.T b.T) hall2 hy hp,hw.drop⟩
  ·have hkn:¬k<n2:=by simpa using h2
   refine byG ?_;refine⟨μ-1,by omega,i+1,by omega,⟨rfl,rfl,rfl,rfl,trivial⟩,fun i' j a b h1 ha hb=>?_,hw.drop⟩
   by_cases e:i'=i
   ·subst e;rw[hx]at ha;cases ha
    exact hall2 j b (by have:=(List.getElem?_eq_some_iff.1 hb).1;omega) hb
   ·exact hall i' j a b (by omega) ha hb
 ·have hin:¬i<n2:=by simpa using h
  refine byG ?_;refine⟨_,rfl,ret_b rfl ?_,hw.drop⟩
  refine(decP_t ⟨fun c hc=>?_,fun p q a b ha hb=>?_⟩).symm
  ·rw[←hcs]at hc;obtain⟨x,hx,rfl⟩:=List.mem_map.1 hc
   obtain⟨q,hq,he⟩:=List.getElem_of_mem hx
   exact hsort q x (by rw[List.getElem?_eq_getElem hq,he])
  ·rw[←hcs,List.getElem?_map]at ha hb
   obtain⟨x,hx,rfl⟩:=Option.map_eq_some_iff.1 ha
   obtain⟨y,hy,rfl⟩:=Option.map_eq_some_iff.1 hb
   exact hall p q x y (by have:=(List.getElem?_eq_some_iff.1 hx).1;omega) hx hy⟩
abbrev blkRows(l:List (Int×Int)):List (List Value):=l.map fun p=>[.int .u64 p.1,.int .u64 p.2]
def memBlk(m:MemT):Int×Int:=(m.Base,IntKind.u64.wrap (m.Base+m.Size))
def devBlk(m:DevT):Int×Int:=(m.Base,IntKind.u64.wrap (m.Base+m.Size))
def regs(H:HwT):List (Int×Int):=H.Mems.map memBlk++H.Devs.map devBlk
def apartB(x y:Int×Int):Bool:=!(decide (x.1<y.2)&&decide (y.1<x.2))
def DisjP(H:HwT):Prop:=∀(i k:Nat) (a b:Int×Int),k<i→(regs H)[i]? = some a→(regs H)[k]? = some b→apartB a b=true
noncomputable def disjB(H:HwT):Bool:=decP (DisjP H)
theorem rows_snocB{α:Type}{f:α→Int×Int}{l:List α}{L:List (Int×Int)}{k:Nat}{x:α}(hx:l[k]? = some x):blkRows (L++(l.take k).map f)++[[.int .u64 (f x).1,.int .u64 (f x).2]]=blkRows (L++(l.take (k+1)).map f):=by rw[take_succ_of hx];simp[blkRows]
theorem rows_snocN{α:Type}{f:α→Int}{l:List α}{L:List Int}{k:Nat}{x:α}(hx:l[k]? = some x):intRows (L++(l.take k).map f)++[[.int .i64 (f x)]]=intRows (L++(l.take (k+1)).map f):=by rw[take_succ_of hx];simp[intRows]
theorem disjoint_any{Γ:Gho}{S:List Res}{w:World}{u:Value}{H:HwT}[hh:HwR Γ u H](hcnt:countsB H=true)(hw:Wd Γ S w):Calls Tryz.prog 106 #[u] w fun e w'=>e=.returned (.bool (disjB H))∧Wd Γ S w':=by
 obtain⟨-,l1,l2,l3,l4,l5⟩:=counts_le hcnt
 obtain⟨a1,n1,c1,a2,n2,c2,a3,n3,c3,a4,n4,c4,a5,n5,c5,cs,rfl,hcs,hok,hsz,r1,r2,r3,r4,r5⟩:=hh.h;obtain⟨hn1,hm1,hx1⟩:=rep_facts r1
 obtain⟨hn2,hm2,hx2⟩:=rep_facts r2
 obtain⟨hn3,hm3,hx3⟩:=rep_facts r3
 obtain⟨hn4,hm4,hx4⟩:=rep_facts r4
 obtain⟨hn5,hm5,hx5⟩:=rep_facts r5
 simp only[List.length_map]at hn1 hn2 hn3 hn4 hn5
 refine calls_of_W Tryz.func106 rfl rfl ?_
 refine byG ?_;refine lBox ?_;intro b1 w hw;have hw:Wd Γ (.blk b1 (.cells #[.string H.Name,.slice a1 n1 c1,.slice a2 n2 c2,.slice a3 n3 c3,.slice a4 n4 c4,.slice a5 n5 c5] 38)::S) w:=hw
 obtain⟨q,m,d,hq⟩:∃(q:Option Addr) (m d:Nat),(.slice none 0 0:Value)=.slice q m d:=⟨_,_,_,rfl⟩
 have hw:Wd Γ (.own (.slice none 0 0) 193 2 (blkRows [])::.blk b1 (.cells #[.string H.Name,.slice a1 n1 c1,.slice a2 n2 c2,.slice a3 n3 c3,.slice a4 n4 c4,.slice a5 n5 c5] 38)::S) w:=Wd.addNil hw
 refine byG ?_;rw[hq] at *
 clear hq;rw[show ([]:List (Int×Int))=(([]:List (Int×Int))++(H.Mems.take 0).map memBlk) from by simp]at hw
 refine byG ?_;refine W_loop (fun μ ρ w=>∃(k:Nat) (q:Option Addr) (m d:Nat),μ+k=n4∧Has ρ [(1,.pointer (some ⟨b1,0,none⟩)),(3,.slice q m d),(11,.slice a4 n4 c4),(12,.int .i64 n4),(13,.int .i64 k)]∧Wd Γ (.own (.slice q m d) 193 2 (blkRows (([]:List (Int×Int))++(H.Mems.take k).map memBlk))::.blk b1 (.cells #[.string H.Name,.slice a1 n1 c1,.slice a2 n2 c2,.slice a3 n3 c3,.slice a4 n4 c4,.slice a5 n5 c5] 38)::S) w) n4 ⟨0,q,m,d,by omega,⟨rfl,rfl,rfl,rfl,rfl,trivial⟩,hw⟩ ?_
 clear hw;rintro μ ρ w ⟨k,q,m,d,hk,hρ,hw⟩
 have hm:=own_len (i:=0) hw rfl
 simp only[blkRows,List.length_map,List.length_append,List.length_nil,List.length_take]at hm
 rw[hρ.eq];refine byG ?_;refine W_cond rfl (fun h=>?_) (fun h=>?_)
 ·have hkn:k<n4:=by simpa using h
  obtain⟨x,hx⟩:=get_lt (l:=H.Mems) (k:=k) (by omega)
  refine byG ?_;refine lAlloc ?_;intro b9 w hw;refine lStore ?_;intro w hw;have hw:Wd Γ (.blk b9 (.cells (enc x).toArray 123)::.own (.slice q m d) 193 2 (blkRows (([]:List (Int×Int))++(H.Mems.take k).map memBlk))::.blk b1 (.cells #[.string H.Name,.slice a1 n1 c1,.slice a2 n2 c2,.slice a3 n3 c3,.slice a4 n4 c4,.slice a5 n5 c5] 38)::S) w:=hw
  refine byG ?_;refine lBuildSlice [[.int .u64 (memBlk x).1,.int .u64 (memBlk x).2]] ?_
  intro ab w hw;refine lApp (i:=2) (rows2:=[[.int .u64 (memBlk x).1,.int .u64 (memBlk x).2]]) ?_ (Wd.own_rd (i:=0) hw rfl)
  intro v' w hw;obtain⟨q',m',d',rfl,-,-,-⟩:=hw.own_shape (i:=2) rfl
  have hw:Wd Γ (.own (.slice q' m' d') 193 2 (blkRows (([]:List (Int×Int))++(H.Mems.take (k+1)).map memBlk))::.blk b1 (.cells #[.string H.Name,.slice a1 n1 c1,.slice a2 n2 c2,.slice a3 n3 c3,.slice a4 n4 c4,.slice a5 n5 c5] 38)::S) w:=by
   rw[←rows_snocB hx];exact hw.drop.drop
  refine byG ?_;exact⟨μ-1,by omega,k+1,_,_,_,by omega,⟨rfl,rfl,rfl,rfl,rfl,trivial⟩,hw⟩
 have hkn:¬k<n4:=by simpa using h
 rw[List.take_of_length_le (l:=H.Mems) (by omega)]at hw
 clear h hkn hρ hk hm;rw[List.nil_append]at hw;rw[show H.Mems.map memBlk=(H.Mems.map memBlk++(H.Devs.take 0).map devBlk) from by simp]at hw
 refine byG ?_;refine W_loop (fun μ ρ w=>∃(k:Nat) (q:Option Addr) (m d:Nat),μ+k=n5∧Has ρ [(1,.pointer (some ⟨b1,0,none⟩)),(3,.slice q m d),(30,.slice a5 n5 c5),(31,.int .i64 n5),(32,.int .i64 k)]∧Wd Γ (.own (.slice q m d) 193 2 (blkRows (H.Mems.map memBlk++(H.Devs.take k).map devBlk))::.blk b1 (.cells #[.string H.Name,.slice a1 n1 c1,.slice a2 n2 c2,.slice a3 n3 c3,.slice a4 n4 c4,.slice a5 n5 c5] 38)::S) w) n5 ⟨0,q,m,d,by omega,⟨rfl,rfl,rfl,rfl,rfl,trivial⟩,hw⟩ ?_
 clear hw;rintro μ ρ w ⟨k,q,m,d,hk,hρ,hw⟩
 have hm:=own_len (i:=0) hw rfl
 simp only[blkRows,List.length_map,List.length_append,List.length_nil,List.length_take]at hm
 rw[hρ.eq];refine byG ?_;refine W_cond rfl (fun h=>?_) (fun h=>?_)
 ·have hkn:k<n5:=by simpa using h
  obtain⟨x,hx⟩:=get_lt (l:=H.Devs) (k:=k) (by omega)
  refine byG ?_;refine lAlloc ?_;intro b9 w hw;refine lStore ?_;intro w hw;have hw:Wd Γ (.blk b9 (.cells (enc x).toArray 72)::.own (.slice q m d) 193 2 (blkRows (H.Mems.map memBlk++(H.Devs.take k).map devBlk))::.blk b1 (.cells #[.string H.Name,.slice a1 n1 c1,.slice a2 n2 c2,.slice a3 n3 c3,.slice a4 n4 c4,.slice a5 n5 c5] 38)::S) w:=hw
  refine byG ?_;refine lBuildSlice [[.int .u64 (devBlk x).1,.int .u64 (devBlk x).2]] ?_
  intro ab w hw;refine lApp (i:=2) (rows2:=[[.int .u64 (devBlk x).1,.int .u64 (devBlk x).2]]) ?_ (Wd.own_rd (i:=0) hw rfl)
  intro v' w hw;obtain⟨q',m',d',rfl,-,-,-⟩:=hw.own_shape (i:=2) rfl
  have hw:Wd Γ (.own (.slice q' m' d') 193 2 (blkRows (H.Mems.map memBlk++(H.Devs.take (k+1)).map devBlk))::.blk b1 (.cells #[.string H.Name,.slice a1 n1 c1,.slice a2 n2 c2,.slice a3 n3 c3,.slice a4 n4 c4,.slice a5 n5 c5] 38)::S) w:=by
   rw[←rows_snocB hx];exact hw.drop.drop
  refine byG ?_;exact⟨μ-1,by omega,k+1,_,_,_,by omega,⟨rfl,rfl,rfl,rfl,rfl,trivial⟩,hw⟩
 have hkn:¬k<n5:=by simpa using h
 rw[List.take_of_length_le (l:=H.Devs) (by omega)]at hw
 clear h hkn hρ hk hm;have hw:Wd Γ (.own (.slice q m d) 193 2 (blkRows (regs H))::.blk b1 (.cells #[.string H.Name,.slice a1 n1 c1,.slice a2 n2 c2,.slice a3 n3 c3,.slice a4 n4 c4,.slice a5 n5 c5] 38)::S) w:=hw
 have hm:=own_len (i:=0) hw rfl
 simp only[blkRows,List.length_map]at hm
 have hmb:m≤96:=by rw[hm];simp[regs];omega
 refine byG ?_;refine W_loop (fun μ ρ w=>∃(i:Nat),μ+i=m∧Has ρ [(3,.slice q m d),(49,.int .i64 m),(50,.int .i64 i)]∧(∀(i' k:Nat) (a b:Int×Int),i'<i→k<i'→(regs H)[i']? = some a→(regs H)[k]? = some b→apartB a b=true)∧Wd Γ (.own (.slice q m d) 193 2 (blkRows (regs H))::.blk b1 (.cells #[.string H.Name,.slice a1 n1 c1,.slice a2 n2 c2,.slice a3 n3 c3,.slice a4 n4 c4,.slice a5 n5 c5] 38)::S) w) m ⟨0,by omega,⟨rfl,rfl,rfl,trivial⟩,fun i' k a b h=>by omega,hw⟩ ?_
 clear hw;rintro μ ρ w ⟨i,hi,hρ,hall,hw⟩
 rw[hρ.eq];refine byG ?_;refine W_cond rfl (fun h=>?_) (fun h=>?_)
 ·have hin:i<m:=by simpa using h
  obtain⟨x,hx⟩:=get_lt (l:=regs H) (k:=i) (by omega)
  refine byG ?_;refine W_loop (fun μ2 ρ w=>∃(k:Nat),μ2+k=i∧Has ρ [(3,.slice q m d),(8,.int .i64 i),(9,.int .i64 k),(49,.int .i64 m),(50,.int .i64 i)]∧(∀(j:Nat) (b:Int×Int),j<k→(regs H)[j]? = some b→apartB x b=true)∧Wd Γ (.own (.slice q m d) 193 2 (blkRows (regs H))::.blk b1 (.cells #[.string H.Name,.slice a1 n1 c1,.slice a2 n2 c2,.slice a3 n3 c3,.slice a4 n4 c4,.slice a5 n5 c5] 38)::S) w) i ⟨0,by omega,⟨rfl,rfl,rfl,rfl,rfl,trivial⟩,fun j b h=>by omega,hw⟩ ?_
  clear hw;rintro μ2 ρ w ⟨k,hk,hρ,hall2,hw⟩
  rw[hρ.eq];refine byG ?_;refine W_cond rfl (fun h2=>?_) (fun h2=>?_)
  ·have hki:k<i:=by simpa using h2
   obtain⟨y,hy⟩:=get_lt (l:=regs H) (k:=k) (by omega)
   refine byG ?_;refine W_quiet (by kernel_rfl) (by kernel_rfl) hw ?_
   refine byQ ?_;intro w hw;refine W_cond rfl (fun h3=>?_) (fun h3=>?_)
   ·have hp:apartB x y=false:=by unfold apartB;exact congrArg (fun b=>!b) h3
    refine byG ?_;refine⟨_,rfl,ret_b rfl ?_,hw.drop.drop⟩
    refine(decP_f fun hP=>?_).symm
    rw[hP i k x y hki hx hy]at hp;cases hp
   ·have hp:apartB x y=true:=by unfold apartB;exact congrArg (fun b=>!b) h3
    refine byG ?_;exact⟨μ2-1,by omega,k+1,by omega,⟨rfl,rfl,rfl,rfl,rfl,trivial⟩,all_step hall2 hy hp,hw⟩
  ·have hki:¬k<i:=by simpa using h2
   refine byG ?_;refine⟨μ-1,by omega,i+1,by omega,⟨rfl,rfl,rfl,trivial⟩,fun i' j a b h1 h3 ha hb=>?_,hw⟩
   by_cases e:i'=i
   ·subst e;rw[hx]at ha;cases ha
    exact hall2 j b (by omega) hb
   ·exact hall i' j a b (by omega) h3 ha hb
 ·have hin:¬i<m:=by simpa using h
  refine byG ?_;refine⟨_,rfl,ret_b rfl ?_,hw.drop.drop⟩
  exact(decP_t fun p q a b hpq ha hb=>hall p q a b (by have:=(List.getElem?_eq_some_iff.1 ha).1;omega) hpq ha hb).symm
inductive Reach (ls:List LinkT) (s:Int):Int→Prop
 | refl:Reach ls s s
 | ab {l:LinkT}:l∈ls→Reach ls s l.A→Reach ls s l.B
 | ba {l:LinkT}:l∈ls→Reach ls s l.B→Reach ls s l.A
def usedN(H:HwT):List Int:=(H.Cores.map (fun c=>c.Node)++H.Mems.map (fun c=>c.Node))++H.Devs.map (fun c=>c.Node)
def ConnP(H:HwT):Prop:=∀n∈usedN H,Reach H.Links ((usedN H).headD 0) n
noncomputable def connB(H:HwT):Bool:=decP (ConnP H)
theorem head_used{H:HwT}{s0:Int}(h:(usedN H)[0]? = some s0):(usedN H).headD 0=s0:=by
 cases hu:usedN H with
 | nil=>rw[hu]at h;cases h
 | cons a l=>rw[hu]at h;simpa using h
theorem nodes_in{H:HwT}(h1:coresRB H=true)(h2:regionsRB H=true):(∀n∈usedN H,0≤n∧n<64)∧∀l∈H.Links,0≤l.A∧l.A<64∧0≤l.B∧l.B<64:=by
 unfold coresRB at h1;unfold regionsRB at h2;simp only[Bool.and_eq_true,List.all_eq_true]at h1 h2
 obtain⟨hc,-,hl⟩:=h1;obtain⟨hm,hd⟩:=h2;refine⟨fun n hn=>?_,fun l hl'=>?_⟩
 ·unfold usedN at hn;simp only[List.mem_append,List.mem_map]at hn
  rcases hn with (⟨c,hcm,rfl⟩|⟨c,hcm,rfl⟩)|⟨c,hcm,rfl⟩
  ·have:=hc c hcm;simp[coreRB,isNodeB]at this;omega
  ·have:=hm c hcm;simp[memRB,isNodeB]at this;omega
  ·have:=hd c hcm;simp[devRB,isNodeB]at this;omega
 ·have:=hl l hl';simp[linkRB,isNodeB]at this;omega
structure Known(ls:List LinkT)(s:Int)(R:List Bool):Prop where
 len:R.length=64
 ok:∀(j:Nat),R[j]? = some true→∃n:Int,n.toNat=j∧0≤n∧Reach ls s n
theorem known_start{ls:List LinkT}{s:Int}(h:0≤s∧s<64):Known ls s ((List.replicate 64 false).set s.toNat true):=⟨by simp,fun j hj=>by
 rw[List.getElem?_set]at hj;split at hj
 ·rename_i e;exact⟨s,e,h.1,.refl⟩
 ·rw[List.getElem?_replicate]at hj;split at hj <;> simp at hj⟩
theorem Known.set{ls:List LinkT}{s n:Int}{R:List Bool}(h:Known ls s R)(hn:0≤n)(hr:Reach ls s n):Known ls s (R.set n.toNat true):=⟨by simp[h.len],fun j hj=>by
 rw[List.getElem?_set]at hj;split at hj
 ·rename_i e;exact⟨n,e,hn,hr⟩
 ·exact h.ok j hj⟩
theorem known_iff{ls:List LinkT}{s n:Int}{R:List Bool}(h:Known ls s R)(h0:R[s.toNat]? = some true)(hs:0≤s)(hL:∀l∈ls,0≤l.A∧l.A<64∧0≤l.B∧l.B<64)(hcl:∀l∈ls,R.getD l.A.toNat false=R.getD l.B.toNat false)(hn:0≤n∧n<64):R.getD n.toNat false=true↔Reach ls s n:=by
 constructor
 ·intro hg;rw[List.getD_eq_getElem?_getD]at hg;obtain⟨b,hb⟩:=get_lt (l:=R) (k:=n.toNat) (by rw[h.len];omega)
  rw[hb]at hg;have hg:b=true:=hg
  subst hg;obtain⟨x,hx,hx0,hr⟩:=h.ok _ hb
  have:x=n:=by omega
  subst this;exact hr
 ·intro hr;clear hn;induction hr with
  | refl=>rw[List.getD_eq_getElem?_getD,h0];rfl
  | ab hl _ ih=>rw[←hcl _ hl];exact ih
  | ba hl _ ih=>rw[hcl _ hl];exact ih
theorem set_self{R:List Bool}{k:Nat}{b:Bool}(h:k<R.length):(R.set k b)[k]? = some b:=by rw[List.getElem?_set_self h]
theorem getBool{R:List Bool}{k:Nat}{b:Bool}(h:R[k]? = some b):((R.map Value.bool).toArray)[0+k*1]? = some (.bool b):=by simp[h]
theorem putBool{R:List Bool}{k:Nat}{b:Bool}(h:k<R.length):putCells (R.map Value.bool).toArray (0+k*1) [.bool b]=((R.set k b).map Value.bool).toArray:=by
 unfold putCells;rw[Nat.zero_add,Nat.mul_one,List.set_eq_take_append_cons_drop,if_pos h];simp
theorem y_neqlb{P:Program}{d:Option Tmp}{T U ty:TypeId}{pos:String}{es:Array Edge}{g:Option (Nat×Bool)}{x y:Operand}{ρ:Fr}{w:World}{a b:Bool}(hT:P.underlying T=some .bool)(hx:ev ρ x=.bool a)(hy:ev ρ y=.bool b):Mk.Yields P ⟨d,.binOp .neq T x y U,ty,pos,es,g⟩ ρ w (.bool (a != b)):=by
 unfold Mk.Yields;simp[execOp,go_sem,hx,hy,hT];cases a <;> cases b <;> rfl
theorem count_set_le{R:List Bool}{k:Nat}:(R.set k true).count false≤R.count false:=by
 induction R generalizing k with
 | nil=>simp
 | cons b l ih=>
  cases k with
  | zero=>cases b <;> simp
  | succ k=>simp only[List.set_cons_succ,List.count_cons];have:=ih (k:=k);omega
theorem count_set_lt{R:List Bool}{k:Nat}(h:R[k]? = some false):(R.set k true).count false+1≤R.count false:=by
 induction R generalizing k with
 | nil=>simp at h
 | cons b l ih=>
  cases k with
  | zero=>simp at h;subst h;simp
  | succ k=>simp at h;simp only[List.set_cons_succ,List.count_cons];have:=ih (k:=k) (by simpa using h);omega
theorem connected_any{Γ:Gho}{S:List Res}{w:World}{u:Value}{H:HwT}[hh:HwR Γ u H](hcnt:countsB H=true)(hcr:coresRB H=true)(hrr:regionsRB H=true)(hw:Wd Γ S w):Calls Tryz.prog 107 #[u] w fun e w'=>e=.returned (.bool (connB H))∧Wd Γ S w':=by
 obtain⟨l0,l1,l2,l3,l4,l5⟩:=counts_le hcnt
 obtain⟨hNd,hLk⟩:=nodes_in hcr hrr
 obtain⟨a1,n1,c1,a2,n2,c2,a3,n3,c3,a4,n4,c4,a5,n5,c5,cs,rfl,hcs,hok,hsz,r1,r2,r3,r4,r5⟩:=hh.h;obtain⟨hn1,hm1,hx1⟩:=rep_facts r1
 obtain⟨hn2,hm2,hx2⟩:=rep_facts r2
 obtain⟨hn3,hm3,hx3⟩:=rep_facts r3
 obtain⟨hn4,hm4,hx4⟩:=rep_facts r4
 obtain⟨hn5,hm5,hx5⟩:=rep_facts r5
 simp only[List.length_map]at hn1 hn2 hn3 hn4 hn5
 refine calls_of_W Tryz.func107 rfl rfl ?_
 refine byG ?_;refine lBox ?_;intro b1 w hw;have hw:Wd Γ (.blk b1 (.cells #[.string H.Name,.slice a1 n1 c1,.slice a2 n2 c2,.slice a3 n3 c3,.slice a4 n4 c4,.slice a5 n5 c5] 38)::S) w:=hw
 obtain⟨q,m,d,hq⟩:∃(q:Option Addr) (m d:Nat),(.slice none 0 0:Value)=.slice q m d:=⟨_,_,_,rfl⟩
 have hw:Wd Γ (.own (.slice none 0 0) 3 1 (intRows [])::.blk b1 (.cells #[.string H.Name,.slice a1 n1 c1,.slice a2 n2 c2,.slice a3 n3 c3,.slice a4 n4 c4,.slice a5 n5 c5] 38)::S) w:=Wd.addNil hw
 refine byG ?_;rw[hq] at *
 clear hq;rw[show ([]:List Int)=(([]:List Int)++(H.Cores.take 0).map (fun c=>c.Node)) from by simp]at hw
 refine byG ?_;refine W_loop (fun μ ρ w=>∃(k:Nat) (q:Option Addr) (m d:Nat),μ+k=n1∧Has ρ [(1,.pointer (some ⟨b1,0,none⟩)),(3,.slice q m d),(17,.slice a1 n1 c1),(18,.int .i64 n1),(19,.int .i64 k)]∧Wd Γ (.own (.slice q m d) 3 1 (intRows (([]:List Int)++(H.Cores.take k).map (fun c=>c.Node)))::.blk b1 (.cells #[.string H.Name,.slice a1 n1 c1,.slice a2 n2 c2,.slice a3 n3 c3,.slice a4 n4 c4,.slice a5 n5 c5] 38)::S) w) n1 ⟨0,q,m,d,by omega,⟨rfl,rfl,rfl,rfl,rfl,trivial⟩,hw⟩ ?_
 clear hw;rintro μ ρ w ⟨k,q,m,d,hk,hρ,hw⟩
 have hm:=own_len (i:=0) hw rfl
 simp only[intRows,List.length_map,List.length_append,List.length_nil,List.length_take]at hm
 rw[hρ.eq];refine byG ?_;refine W_cond rfl (fun h=>?_) (fun h=>?_)
 ·have hkn:k<n1:=by simpa using h
  obtain⟨x,hx⟩:=get_lt (l:=H.Cores) (k:=k) (by omega)
  refine byG ?_;refine lAlloc ?_;intro b9 w hw;refine lStore ?_;intro w hw;have hw:Wd Γ (.blk b9 (.cells (enc x).toArray 69)::.own (.slice q m d) 3 1 (intRows (([]:List Int)++(H.Cores.take k).map (fun c=>c.Node)))::.blk b1 (.cells #[.string H.Name,.slice a1 n1 c1,.slice a2 n2 c2,.slice a3 n3 c3,.slice a4 n4 c4,.slice a5 n5 c5] 38)::S) w:=hw
  refine byG ?_;refine lBuildSlice [[.int .i64 x.Node]] ?_
  intro ab w hw;refine lApp (i:=2) (rows2:=[[.int .i64 x.Node]]) ?_ (Wd.own_rd (i:=0) hw rfl)
  intro v' w hw;obtain⟨q',m',d',rfl,-,-,-⟩:=hw.own_shape (i:=2) rfl
  have hw:Wd Γ (.own (.slice q' m' d') 3 1 (intRows (([]:List Int)++(H.Cores.take (k+1)).map (fun c=>c.Node)))::.blk b1 (.cells #[.string H.Name,.slice a1 n1 c1,.slice a2 n2 c2,.slice a3 n3 c3,.slice a4 n4 c4,.slice a5 n5 c5] 38)::S) w:=by
   rw[←rows_snocN (f:=fun c:CoreT=>c.Node) hx];exact hw.drop.drop
  refine byG ?_;exact⟨μ-1,by omega,k+1,_,_,_,by omega,⟨rfl,rfl,rfl,rfl,rfl,trivial⟩,hw⟩
 have hkn:¬k<n1:=by simpa using h
 rw[List.take_of_length_le (l:=H.Cores) (by omega)]at hw
 clear h hkn hρ hk hm;rw[List.nil_append]at hw;rw[show H.Cores.map (fun c=>c.Node)=(H.Cores.map (fun c=>c.Node)++(H.Mems.take 0).map (fun c=>c.Node)) from by simp]at hw
 refine byG ?_;refine W_loop (fun μ ρ w=>∃(k:Nat) (q:Option Addr) (m d:Nat),μ+k=n4∧Has ρ [(1,.pointer (some ⟨b1,0,none⟩)),(3,.slice q m d),(30,.slice a4 n4 c4),(31,.int .i64 n4),(32,.int .i64 k)]∧Wd Γ (.own (.slice q m d) 3 1 (intRows (H.Cores.map (fun c=>c.Node)++(H.Mems.take k).map (fun c=>c.Node)))::.blk b1 (.cells #[.string H.Name,.slice a1 n1 c1,.slice a2 n2 c2,.slice a3 n3 c3,.slice a4 n4 c4,.slice a5 n5 c5] 38)::S) w) n4 ⟨0,q,m,d,by omega,⟨rfl,rfl,rfl,rfl,rfl,trivial⟩,hw⟩ ?_
 clear hw;rintro μ ρ w ⟨k,q,m,d,hk,hρ,hw⟩
 have hm:=own_len (i:=0) hw rfl
 simp only[intRows,List.length_map,List.length_append,List.length_nil,List.length_take]at hm
 rw[hρ.eq];refine byG ?_;refine W_cond rfl (fun h=>?_) (fun h=>?_)
 ·have hkn:k<n4:=by simpa using h
  obtain⟨x,hx⟩:=get_lt (l:=H.Mems) (k:=k) (by omega)
  refine byG ?_;refine lAlloc ?_;intro b9 w hw;refine lStore ?_;intro w hw;have hw:Wd Γ (.blk b9 (.cells (enc x).toArray 123)::.own (.slice q m d) 3 1 (intRows (H.Cores.map (fun c=>c.Node)++(H.Mems.take k).map (fun c=>c.Node)))::.blk b1 (.cells #[.string H.Name,.slice a1 n1 c1,.slice a2 n2 c2,.slice a3 n3 c3,.slice a4 n4 c4,.slice a5 n5 c5] 38)::S) w:=hw
  refine byG ?_;refine lBuildSlice [[.int .i64 x.Node]] ?_
  intro ab w hw;refine lApp (i:=2) (rows2:=[[.int .i64 x.Node]]) ?_ (Wd.own_rd (i:=0) hw rfl)
  intro v' w hw;obtain⟨q',m',d',rfl,-,-,-⟩:=hw.own_shape (i:=2) rfl
  have hw:Wd Γ (.own (.slice q' m' d') 3 1 (intRows (H.Cores.map (fun c=>c.Node)++(H.Mems.take (k+1)).map (fun c=>c.Node)))::.blk b1 (.cells #[.string H.Name,.slice a1 n1 c1,.slice a2 n2 c2,.slice a3 n3 c3,.slice a4 n4 c4,.slice a5 n5 c5] 38)::S) w:=by
   rw[←rows_snocN (f:=fun c:MemT=>c.Node) hx];exact hw.drop.drop
  refine byG ?_;exact⟨μ-1,by omega,k+1,_,_,_,by omega,⟨rfl,rfl,rfl,rfl,rfl,trivial⟩,hw⟩
 have hkn:¬k<n4:=by simpa using h
 rw[List.take_of_length_le (l:=H.Mems) (by omega)]at hw
 clear h hkn hρ hk hm;rw[show (H.Cores.map (fun c=>c.Node)++H.Mems.map (fun c=>c.Node))=((H.Cores.map (fun c=>c.Node)++H.Mems.map (fun c=>c.Node))++(H.Devs.take 0).map (fun c=>c.Node)) from by simp]at hw
 refine byG ?_;refine W_loop (fun μ ρ w=>∃(k:Nat) (q:Option Addr) (m d:Nat),μ+k=n5∧Has ρ [(1,.pointer (some ⟨b1,0,none⟩)),(3,.slice q m d),(43,.slice a5 n5 c5),(44,.int .i64 n5),(45,.int .i64 k)]∧Wd Γ (.own (.slice q m d) 3 1 (intRows ((H.Cores.map (fun c=>c.Node)++H.Mems.map (fun c=>c.Node))++(H.Devs.take k).map (fun c=>c.Node)))::.blk b1 (.cells #[.string H.Name,.slice a1 n1 c1,.slice a2 n2 c2,.slice a3 n3 c3,.slice a4 n4 c4,.slice a5 n5 c5] 38)::S) w) n5 ⟨0,q,m,d,by omega,⟨rfl,rfl,rfl,rfl,rfl,trivial⟩,hw⟩ ?_
 clear hw;rintro μ ρ w ⟨k,q,m,d,hk,hρ,hw⟩
 have hm:=own_len (i:=0) hw rfl
 simp only[intRows,List.length_map,List.length_append,List.length_nil,List.length_take]at hm
 rw[hρ.eq];refine byG ?_;refine W_cond rfl (fun h=>?_) (fun h=>?_)
 ·have hkn:k<n5:=by simpa using h
  obtain⟨x,hx⟩:=get_lt (l:=H.Devs) (k:=k) (by omega)
  refine byG ?_;refine lAlloc ?_;intro b9 w hw;refine lStore ?_;intro w hw;have hw:Wd Γ (.blk b9 (.cells (enc x).toArray 72)::.own (.slice q m d) 3 1 (intRows ((H.Cores.map (fun c=>c.Node)++H.Mems.map (fun c=>c.Node))++(H.Devs.take k).map (fun c=>c.Node)))::.blk b1 (.cells #[.string H.Name,.slice a1 n1 c1,.slice a2 n2 c2,.slice a3 n3 c3,.slice a4 n4 c4,.slice a5 n5 c5] 38)::S) w:=hw
  refine byG ?_;refine lBuildSlice [[.int .i64 x.Node]] ?_
  intro ab w hw;refine lApp (i:=2) (rows2:=[[.int .i64 x.Node]]) ?_ (Wd.own_rd (i:=0) hw rfl)
  intro v' w hw;obtain⟨q',m',d',rfl,-,-,-⟩:=hw.own_shape (i:=2) rfl
  have hw:Wd Γ (.own (.slice q' m' d') 3 1 (intRows ((H.Cores.map (fun c=>c.Node)++H.Mems.map (fun c=>c.Node))++(H.Devs.take (k+1)).map (fun c=>c.Node)))::.blk b1 (.cells #[.string H.Name,.slice a1 n1 c1,.slice a2 n2 c2,.slice a3 n3 c3,.slice a4 n4 c4,.slice a5 n5 c5] 38)::S) w:=by
   rw[←rows_snocN (f:=fun c:DevT=>c.Node) hx];exact hw.drop.drop
  refine byG ?_;exact⟨μ-1,by omega,k+1,_,_,_,by omega,⟨rfl,rfl,rfl,rfl,rfl,trivial⟩,hw⟩
 have hkn:¬k<n5:=by simpa using h
 rw[List.take_of_length_le (l:=H.Devs) (by omega)]at hw
 clear h hkn hρ hk hm;have hw:Wd Γ (.own (.slice q m d) 3 1 (intRows (usedN H))::.blk b1 (.cells #[.string H.Name,.slice a1 n1 c1,.slice a2 n2 c2,.slice a3 n3 c3,.slice a4 n4 c4,.slice a5 n5 c5] 38)::S) w:=hw
 have hm:=own_len (i:=0) hw rfl
 simp only[intRows,List.length_map]at hm
 have hmb:1≤m∧m≤128:=by rw[hm];simp[usedN];omega
 obtain⟨s0,hs0⟩:=get_lt (l:=usedN H) (k:=0) (by omega)
 obtain⟨hs1,hs2⟩:=hNd s0 (List.mem_of_getElem? hs0)
 refine byG ?_;refine lAlloc ?_;intro b10 w hw;have hw:Wd Γ (.blk b10 (.cells ((List.replicate 64 false).map Value.bool).toArray 194)::.own (.slice q m d) 3 1 (intRows (usedN H))::.blk b1 (.cells #[.string H.Name,.slice a1 n1 c1,.slice a2 n2 c2,.slice a3 n3 c3,.slice a4 n4 c4,.slice a5 n5 c5] 38)::S) w:=hw
 refine byG ?_;refine lStore (o:=0+s0.toNat*1) (ho:=by simp;omega) ?_
 intro w hw;have hw:Wd Γ (.blk b10 (.cells (putCells ((List.replicate 64 false).map Value.bool).toArray (0+s0.toNat*1) [.bool true]) 194)::.own (.slice q m d) 3 1 (intRows (usedN H))::.blk b1 (.cells #[.string H.Name,.slice a1 n1 c1,.slice a2 n2 c2,.slice a3 n3 c3,.slice a4 n4 c4,.slice a5 n5 c5] 38)::S) w:=hw
 rw[putBool (by simp;omega)]at hw
 refine byG ?_;have hst:Known H.Links s0 ((List.replicate 64 false).set s0.toNat true):=known_start (by omega)
 refine W_loop (fun μ ρ w=>∃(R:List Bool) (ch:Bool),2*R.count false+(if ch=true then 1 else 0)≤μ∧Known H.Links s0 R∧R[s0.toNat]? = some true∧(ch=false→∀l∈H.Links,R.getD l.A.toNat false=R.getD l.B.toNat false)∧Has ρ [(1,.pointer (some ⟨b1,0,none⟩)),(3,.slice q m d),(10,.pointer (some ⟨b10,0,none⟩)),(11,.bool ch)]∧Wd Γ (.blk b10 (.cells ((R).map Value.bool).toArray 194)::.own (.slice q m d) 3 1 (intRows (usedN H))::.blk b1 (.cells #[.string H.Name,.slice a1 n1 c1,.slice a2 n2 c2,.slice a3 n3 c3,.slice a4 n4 c4,.slice a5 n5 c5] 38)::S) w) 200 ⟨_,true,by have:=List.count_le_length (a:=false) (l:=(List.replicate 64 false).set s0.toNat true);simp at this ⊢;omega,hst,set_self (by simp;omega),(fun h=>by cases h),⟨rfl,rfl,rfl,rfl,trivial⟩,hw⟩ ?_
 clear hw;rintro μ ρ w ⟨R,ch,hμ,hkn,hR0,hcl,hρ,hw⟩
 have hRl:=hkn.len
 rw[hρ.eq];refine byG ?_;refine W_cond rfl (fun h=>?_) (fun h=>?_)
 ·subst h;clear hcl;refine byG ?_;refine W_loop (fun μ2 ρ w=>∃(k:Nat) (R2:List Bool) (ch:Bool),μ2+k=n3∧Known H.Links s0 R2∧R2[s0.toNat]? = some true∧2*R2.count false+(if ch=true then 1 else 0)+1≤2*R.count false+1∧(ch=false→∀(i:Nat) (l:LinkT),i<k→H.Links[i]? = some l→R2.getD l.A.toNat false=R2.getD l.B.toNat false)∧Has ρ [(1,.pointer (some ⟨b1,0,none⟩)),(3,.slice q m d),(10,.pointer (some ⟨b10,0,none⟩)),(11,.bool ch),(61,.slice a3 n3 c3),(62,.int .i64 n3),(63,.int .i64 k)]∧Wd Γ (.blk b10 (.cells ((R2).map Value.bool).toArray 194)::.own (.slice q m d) 3 1 (intRows (usedN H))::.blk b1 (.cells #[.string H.Name,.slice a1 n1 c1,.slice a2 n2 c2,.slice a3 n3 c3,.slice a4 n4 c4,.slice a5 n5 c5] 38)::S) w) n3 ⟨0,R,false,by omega,hkn,hR0,by simp,fun _ i l h=>by omega,⟨rfl,rfl,rfl,rfl,rfl,rfl,rfl,trivial⟩,hw⟩ ?_
  clear hw hkn hR0 hRl;rintro μ2 ρ w ⟨k,R2,ch,hk,hkn,hR0,hcnt2,hcl,hρ,hw⟩
  have hRl:=hkn.len
  rw[hρ.eq];refine byG ?_;refine W_cond rfl (fun h2=>?_) (fun h2=>?_)
  ·have hkn3:k<n3:=by simpa using h2
   obtain⟨x,hx⟩:=get_lt (l:=H.Links) (k:=k) (by omega)
   obtain⟨hA0,hA1,hB0,hB1⟩:=hLk x (List.mem_of_getElem? hx)
   obtain⟨ba,hba⟩:=get_lt (l:=R2) (k:=x.A.toNat) (by omega)
   obtain⟨bb,hbb⟩:=get_lt (l:=R2) (k:=x.B.toNat) (by omega)
   refine byG ?_;refine lAlloc ?_;intro b13 w hw;refine lStore ?_;intro w hw;have hw:Wd Γ (.blk b13 (.cells (enc x).toArray 120)::.blk b10 (.cells ((R2).map Value.bool).toArray 194)::.own (.slice q m d) 3 1 (intRows (usedN H))::.blk b1 (.cells #[.string H.Name,.slice a1 n1 c1,.slice a2 n2 c2,.slice a3 n3 c3,.slice a4 n4 c4,.slice a5 n5 c5] 38)::S) w:=hw
   refine byG ?_;refine W_quiet (by kernel_rfl) (by kernel_rfl) hw ?_
   refine byQ ?_;refine qY (v:=.bool ba) ?_ (hy:=fun w hw=>y_l1b (i:=1) hw rfl rfl (getBool hba))
   refine byQ ?_;refine qY (v:=.bool bb) ?_ (hy:=fun w hw=>y_l1b (i:=1) hw rfl rfl (getBool hbb))
   refine byQ ?_;refine qY (v:=.bool (ba != bb)) ?_ (hy:=fun w hw=>y_neqlb Tryz.underlying4 rfl rfl)
   refine byQ ?_;clear hw;intro w hw;refine W_cond rfl (fun h3=>?_) (fun h3=>?_)
   ·refine byG ?_;refine W_mix1 [.blk b13 _] (.blk b10 _::.own _ _ _ _::.blk b1 _::S) [[],[],[],[],[],[0],[],[0]] [[],[],[],[],[],[0],[],[0]] hw ?_
    refine byM ?_;refine mStoreC (o:=0+x.A.toNat*1) (ho:=by simp;omega) ?_
    refine byM ?_;refine mStoreC (o:=0+x.B.toNat*1) (ho:=by
     show _≤(putCells (R2.map Value.bool).toArray (0+x.A.toNat*1) [.bool true]).size
     rw[putBool (by omega)];simp;omega) ?_
    refine mEnd0 ?_
    clear hw;intro w hw;have hw:Wd Γ ([.blk b13 (.cells (enc x).toArray 120)]++((.blk b10 (.cells (putCells (putCells (R2.map Value.bool).toArray (0+x.A.toNat*1) [.bool true]) (0+x.B.toNat*1) [.bool true]) 194)::.own (.slice q m d) 3 1 (intRows (usedN H))::.blk b1 (.cells #[.string H.Name,.slice a1 n1 c1,.slice a2 n2 c2,.slice a3 n3 c3,.slice a4 n4 c4,.slice a5 n5 c5] 38)::S)++[])) w:=hw
    rw[putBool (by omega),putBool (by simp;omega),List.append_nil]at hw
    have hw:Wd Γ (.blk b10 (.cells (((R2.set x.A.toNat true).set x.B.toNat true).map Value.bool).toArray 194)::.own (.slice q m d) 3 1 (intRows (usedN H))::.blk b1 (.cells #[.string H.Name,.slice a1 n1 c1,.slice a2 n2 c2,.slice a3 n3 c3,.slice a4 n4 c4,.slice a5 n5 c5] 38)::S) w:=hw.drop
    refine byG ?_;have hne:ba≠bb:=by cases ba <;> cases bb <;> simp_all
    have hRA:Reach H.Links s0 x.A∧Reach H.Links s0 x.B:=by
     have hxm:=List.mem_of_getElem? hx
     cases ba with
     | true=>
      obtain⟨n,hn,hn0,hr⟩:=hkn.ok _ hba
      have:n=x.A:=by omega
      subst this;exact⟨hr,.ab hxm hr⟩
     | false=>
      have:bb=true:=by cases bb <;> simp_all
      subst this;obtain⟨n,hn,hn0,hr⟩:=hkn.ok _ hbb
      have:n=x.B:=by omega
      subst this;exact⟨.ba hxm hr,hr⟩
    have hc2:2*((R2.set x.A.toNat true).set x.B.toNat true).count false+2≤2*R2.count false:=by
     cases ba with
     | false=>
      have h1:=count_set_lt hba
      have h2:=count_set_le (R:=R2.set x.A.toNat true) (k:=x.B.toNat)
      omega
     | true=>
      have h5:bb=false:=by cases bb <;> simp_all
      subst h5;have h6:x.A.toNat≠x.B.toNat:=fun e=>by rw[e,hbb]at hba;cases hba
      have h1:=count_set_lt (R:=R2.set x.A.toNat true) (k:=x.B.toNat) (by rw[List.getElem?_set_ne h6];exact hbb)
      have h2:=count_set_le (R:=R2) (k:=x.A.toNat)
      omega
    refine⟨μ2-1,by omega,k+1,_,true,by omega,(hkn.set hA0 hRA.1).set hB0 hRA.2,?_,by simp;omega,(fun h=>by cases h),⟨rfl,rfl,rfl,rfl,rfl,rfl,rfl,trivial⟩,hw⟩
    rw[List.getElem?_set,List.getElem?_set];split
    ·simp;omega
    ·split
     ·simp;omega
     ·exact hR0
   ·have hab:ba=bb:=by cases ba <;> cases bb <;> simp_all
    refine byG ?_;refine⟨μ2-1,by omega,k+1,R2,ch,by omega,hkn,hR0,hcnt2,fun hc i l hi hl=>?_,⟨rfl,rfl,rfl,rfl,rfl,rfl,rfl,trivial⟩,hw.drop⟩
    by_cases e:i=k
    ·subst e;rw[hx]at hl;cases hl
     rw[List.getD_eq_getElem?_getD,List.getD_eq_getElem?_getD,hba,hbb,hab]
    ·exact hcl hc i l (by omega) hl
  ·have hkn3:¬k<n3:=by simpa using h2
   refine byG ?_;refine⟨μ-1,by rw[if_pos rfl]at hμ;omega,R2,ch,by rw[if_pos rfl]at hμ;omega,hkn,hR0,fun hc l hl=>?_,⟨rfl,rfl,rfl,rfl,trivial⟩,hw⟩
   obtain⟨i,hi,he⟩:=List.getElem_of_mem hl
   exact hcl hc i l (by omega) (by rw[List.getElem?_eq_getElem hi,he])
 ·subst h;have hcl:=hcl rfl
  clear hμ;have hiff:∀n∈usedN H,(R.getD n.toNat false=true↔Reach H.Links s0 n):=fun n hn=>known_iff hkn hR0 hs1 hLk hcl (hNd n hn)
  refine byG ?_;refine W_loop (fun μ ρ w=>∃(k:Nat),μ+k=m∧(∀(i:Nat) (n:Int),i<k→(usedN H)[i]? = some n→R.getD n.toNat false=true)∧Has ρ [(10,.pointer (some ⟨b10,0,none⟩)),(83,.slice q m d),(84,.int .i64 m),(85,.int .i64 k)]∧Wd Γ (.blk b10 (.cells ((R).map Value.bool).toArray 194)::.own (.slice q m d) 3 1 (intRows (usedN H))::.blk b1 (.cells #[.string H.Name,.slice a1 n1 c1,.slice a2 n2 c2,.slice a3 n3 c3,.slice a4 n4 c4,.slice a5 n5 c5] 38)::S) w) m ⟨0,by omega,fun i n h=>by omega,⟨rfl,rfl,rfl,rfl,trivial⟩,hw⟩ ?_
  clear hw;rintro μ ρ w ⟨k,hk,hall,hρ,hw⟩
  rw[hρ.eq];refine byG ?_;refine W_cond rfl (fun h2=>?_) (fun h2=>?_)
  ·have hkm:k<m:=by simpa using h2
   obtain⟨x,hx⟩:=get_lt (l:=usedN H) (k:=k) (by omega)
   obtain⟨hx0,hx1⟩:=hNd x (List.mem_of_getElem? hx)
   obtain⟨bx,hbx⟩:=get_lt (l:=R) (k:=x.toNat) (by omega)
   have hg:R.getD x.toNat false=bx:=by rw[List.getD_eq_getElem?_getD,hbx];rfl
   refine byG ?_;refine lY (v:=.bool bx) ?_ (hy:=y_l1b (i:=0) hw rfl rfl (getBool hbx))
   refine byG ?_;refine W_cond rfl (fun h3=>?_) (fun h3=>?_)
   ·have h3:bx=false:=by simpa using h3
    refine byG ?_;refine⟨_,rfl,ret_b rfl ?_,hw.drop.drop.drop⟩
    refine(decP_f fun hP=>?_).symm
    have h4:=(hiff x (List.mem_of_getElem? hx)).2 (by rw[←head_used hs0];exact hP x (List.mem_of_getElem? hx))
    rw[hg,h3]at h4;cases h4
   ·have h3:bx=true:=by simpa using h3
    refine byG ?_;exact⟨μ-1,by omega,k+1,by omega,all_step (p:=fun n:Int=>R.getD n.toNat false) hall hx (hg.trans h3),⟨rfl,rfl,rfl,rfl,trivial⟩,hw⟩
  ·have hkm:¬k<m:=by simpa using h2
   refine byG ?_;refine⟨_,rfl,ret_b rfl ?_,hw.drop.drop.drop⟩
   refine(decP_t fun n hn=>?_).symm
   rw[head_used hs0];obtain⟨i,hi,he⟩:=List.getElem_of_mem hn
   exact(hiff n hn).1 (hall i n (by omega) (by rw[List.getElem?_eq_getElem hi,he]))
noncomputable def validS(H:HwT):Int:=
 if namesB H=false then 63 else if countsB H=false then 15 else if (coresRB H&&regionsRB H)=false then 6 else if alignRB H=false then 59
 else if uniqueB H=false then 56 else if knownB H=false then 57 else if hierB H=false then 73 else if disjB H=false then 7 else if connB H=false then 60 else 0
instance pg_Validate{Γ:Gho}{u:Value}{H:HwT}[hh:HwR Γ u H]:PG Tryz.prog Γ 74 [u] (.int .i64 (validS H)):=⟨fun S w hw=>by
 obtain⟨a1,n1,c1,a2,n2,c2,a3,n3,c3,a4,n4,c4,a5,n5,c5,cs,hu,-⟩:=hh.h;subst hu;refine calls_of_W Tryz.func74 rfl rfl ?_
 refine byG ?_;refine lBox ?_;intro b1 w hw;have hw:Wd Γ (.blk b1 (hwC H a1 n1 c1 a2 n2 c2 a3 n3 c3 a4 n4 c4 a5 n5 c5)::S) w:=hw
 unfold validS;repeat first|refine byW ?_|refine byV ?_;intro w hw
 refine W_cond rfl (fun h=>?_) (fun h=>?_)
 ·rw[if_pos (by simpa using h)]
  refine byG ?_;exact⟨_,rfl,rfl,hw.drop⟩
 rw[if_neg (by simpa using h)]
 clear h;repeat first|refine byW ?_|refine byV ?_;intro w hw
 refine W_cond rfl (fun h=>?_) (fun h=>?_)
 ·rw[if_pos (by simpa using h)]
  refine byG ?_;exact⟨_,rfl,rfl,hw.drop⟩
 have hcnt:countsB H=true:=by simpa using h
 rw[if_neg (by simpa using h)]
 clear h;repeat first|refine byW ?_|refine byV ?_;intro w hw
 refine W_cond rfl (fun h=>?_) (fun h=>?_)
 ·have h:(!coresRB H || !regionsRB H)=true:=h
  rw[if_pos (by revert h;cases coresRB H <;> cases regionsRB H <;> simp)]
  refine byG ?_;exact⟨_,rfl,rfl,hw.drop⟩
 have h:(!coresRB H || !regionsRB H)=false:=h
 rw[←Bool.not_and]at h;have h:(coresRB H&&regionsRB H)=true:=by simpa using h
 rw[if_neg (by rw[h];simp)]
 rw[Bool.and_eq_true]at h;obtain⟨hcr,hrr⟩:=h;repeat first|refine byW ?_|refine byV ?_;intro w hw
 refine W_cond rfl (fun h=>?_) (fun h=>?_)
 ·rw[if_pos (by simpa using h)]
  refine byG ?_;exact⟨_,rfl,rfl,hw.drop⟩
 rw[if_neg (by simpa using h)]
 clear h;refine byG ?_;refine lCall ?_;refine(unique_any hcnt hw).mono ?_
 rintro r w ⟨rfl,hw⟩
 refine⟨_,rfl,?_⟩;refine byG ?_;refine W_cond rfl (fun h=>?_) (fun h=>?_)
 ·rw[if_pos (by simpa using h)]
  refine byG ?_;exact⟨_,rfl,rfl,hw.drop⟩
 rw[if_neg (by simpa using h)]
 clear h;repeat first|refine byW ?_|refine byV ?_;intro w hw
 refine W_cond rfl (fun h=>?_) (fun h=>?_)
 ·rw[if_pos (by simpa using h)]
  refine byG ?_;exact⟨_,rfl,rfl,hw.drop⟩
 rw[if_neg (by simpa using h)]
 clear h;repeat first|refine byW ?_|refine byV ?_;intro w hw
 refine W_cond rfl (fun h=>?_) (fun h=>?_)
 ·rw[if_pos (by simpa using h)]
  refine byG ?_;exact⟨_,rfl,rfl,hw.drop⟩
 rw[if_neg (by simpa using h)]
 clear h;refine byG ?_;refine lCall ?_;refine(disjoint_any hcnt hw).mono ?_
 rintro r w ⟨rfl,hw⟩
 refine⟨_,rfl,?_⟩;refine byG ?_;refine W_cond rfl (fun h=>?_) (fun h=>?_)
 ·rw[if_pos (by simpa using h)]
  refine byG ?_;exact⟨_,rfl,rfl,hw.drop⟩
 rw[if_neg (by simpa using h)]
 clear h;refine byG ?_;refine lCall ?_;refine(connected_any hcnt hcr hrr hw).mono ?_
 rintro r w ⟨rfl,hw⟩
 refine⟨_,rfl,?_⟩;refine byG ?_;refine W_cond rfl (fun h=>?_) (fun h=>?_)
 ·rw[if_pos (by simpa using h)]
  refine byG ?_;exact⟨_,rfl,rfl,hw.drop⟩
 rw[if_neg (by simpa using h)]
 refine byG ?_;exact⟨_,rfl,rfl,hw.drop⟩⟩
theorem eq_of_all{α:Type}{xs ys:List α}{k:Nat}(hl:xs.length=ys.length)(hk:xs.length≤k)(h:∀(i:Nat) (x y:α),i<k→xs[i]? = some x→ys[i]? = some y→x=y):xs=ys:=by
 apply List.ext_getElem?
 intro i;by_cases hi:i<xs.length
 ·obtain⟨x,hx⟩:=get_lt hi
  obtain⟨y,hy⟩:=get_lt (l:=ys) (k:=i) (by omega)
  rw[hx,hy,h i x y (by omega) hx hy]
 ·rw[List.getElem?_eq_none (by omega),List.getElem?_eq_none (by omega)]
theorem eq_step{α:Type}{xs ys:List α}{k:Nat}{x y:α}(h:∀(i:Nat) (x y:α),i<k→xs[i]? = some x→ys[i]? = some y→x=y)(hx:xs[k]? = some x)(hy:ys[k]? = some y)(e:x=y):∀(i:Nat) (x y:α),i<k+1→xs[i]? = some x→ys[i]? = some y→x=y:=fun i a b hi ha hb=>by
 by_cases q:i=k
 ·subst q;rw[hx]at ha;rw[hy]at hb;cases ha;cases hb;exact e
 ·exact h i a b (by omega) ha hb
set_option maxHeartbeats 4000000
abbrev hwZ:List Value:=[.string ⟨#[]⟩,.slice none 0 0,.slice none 0 0,.slice none 0 0,.slice none 0 0,.slice none 0 0]
section
variable {Γ:Gho}{S:List Res}{w:World}{b2 b3 b4:Nat}{h0:Array Value}{p0:PosT}{e0:Int}
end
section
variable {Γ:Gho}{S:List Res}{w:World}
end
set_option maxHeartbeats 8000000
theorem HwOut.freeze{Γ:Gho}{S:List Res}{w:World}{H:HwT}{u:Value}(h:HwOut Γ H S u w)(hsz:HwSz H):∃Γ',Γ.le Γ'∧HwR Γ' u H∧Wd Γ' S w:=by
 obtain⟨v1,v2,v3,v4,v5,cs,hcs,hok,rfl,hw⟩:=h;obtain⟨a1,n1,c1,rfl,-,-,-⟩:=hw.own_shape (i:=0) rfl
 obtain⟨a2,n2,c2,rfl,-,-,-⟩:=hw.own_shape (i:=1) rfl
 obtain⟨a3,n3,c3,rfl,-,-,-⟩:=hw.own_shape (i:=2) rfl
 obtain⟨a4,n4,c4,rfl,-,-,-⟩:=hw.own_shape (i:=3) rfl
 obtain⟨a5,n5,c5,rfl,-,-,-⟩:=hw.own_shape (i:=4) rfl
 obtain⟨Γ1,e1,r1,hw⟩:=hw.freeze;obtain⟨Γ2,e2,r2,hw⟩:=hw.freeze;obtain⟨Γ3,e3,r3,hw⟩:=hw.freeze;obtain⟨Γ4,e4,r4,hw⟩:=hw.freeze;obtain⟨Γ5,e5,r5,hw⟩:=hw.freeze;have f4:=e5
 have f3:=e4.trans f4
 have f2:=e3.trans f3
 have f1:=e2.trans f2
 exact⟨Γ5,e1.trans f1,⟨_,_,_,_,_,_,_,_,_,_,_,_,_,_,_,cs,rfl,hcs,fun c hc=>(hok c hc).mono (e1.trans f1),hsz,r1.mono f1,r2.mono f2,r3.mono f3,r4.mono f4,r5⟩,hw⟩
def hw1:HwT:=⟨⟨#[109]⟩,[⟨0,32,0,1⟩],[],[],[],[]⟩
def hw2:HwT:=⟨⟨#[109]⟩,[⟨0,33,0,1⟩],[],[],[],[]⟩
theorem sz2:HwSz hw2:=by unfold HwSz maxS;decide
end Go.Proofs.YthgighljhoneeaaGreat
end
section
open Go Mk
open Go.ChangeShapes Go.WideShapes Go.ChangeAt Go.RowKit
namespace Go.Proofs.YthgighljhoneeaaGreat
theorem own_knob:ownKnob Tryz.prog.godebug=none:=by kernel_rfl
theorem keptBut_wd{W W':World}{S:List Res}(h:Wd (allG W) S W')(may:MemPlace→Prop):W.keptBut W' may:=by
 refine⟨h.os,h.out,fun i hi=>?_⟩
 have h1:W.heap[i]? = some W.heap[i]:=Array.getElem?_eq_getElem hi
 have h2:=h.imm i W.heap[i] h1
 rw[h1,h2];cases W.heap[i] <;> simp
theorem post_wd{H:Type}{enc:TypeId×Value→H}{f:Func}{s:ChangeSpec}{W W':World}{S:List Res}{args:Array Value}{v:Value}{ds gs:List (DataW H)}{before pa pv:List MemPlace}{apart:Bool}
  (hW:DataW.Whole enc Tryz.prog f.params.toList s.vars apart W args.toList ds gs before)
  (hres:∀(b:Nat) (sp:Nat→Bool) (hd:Bool),DataW.TrodAll enc Tryz.prog W' b sp hd f.resultTypes.toList (v.resultList f.resultTypes.size) (s.fn H (ds++gs)).results [])
  (hargs:∀sp:Nat→Bool,(∀p∈before,sp p.block=true)→DataW.TrodAll enc Tryz.prog W' 0 sp true f.params.toList args.toList (s.fn H (ds++gs)).args pa)
  (hvars:∀sp:Nat→Bool,(∀p∈before,sp p.block=true)→DataW.TrodVars enc Tryz.prog W' sp s.vars (s.fn H (ds++gs)).vars pv)
  (hps:before=pa++pv) (hk:Wd (allG W) S W'):s.post enc Tryz.prog f apart true false false W args v W':=by
 have hold:∀p∈before,(fun b=>decide (b<W.heap.size)) p.block=true:=fun p hp=>by simpa using hW.lt p hp
 exact⟨ds,gs,before,[],pa,pv,hW,hres _ _ _,hargs _ hold,hvars _ hold,keptBut_wd hk _,fun h=>by cases h⟩
theorem wd_back{Γ Γ':Gho}{w:World}(hle:Γ.le Γ')(h:Wd Γ' [] w):Wd Γ [] w:=by
 obtain⟨h1,h2,h3,h4,h5,-⟩:=h;exact⟨h1.trans hle.os,h2.trans hle.tape,h3.trans hle.out,by rw[←hle.dr];exact h4,fun b o hb=>h5 b o (hle.imm b o hb),[],trivial,by simp,by simp⟩
section
variable {H:Type}{en:TypeId×Value→H}{W W':World}{base:Nat}{sp:Nat→Bool}{held:Bool}{S:List Res}
theorem flat_inv{sz:Nat}:∀ {rows:List (List Value)},(∀r∈rows,r.length=sz)→∀ {j:Nat} {u:Value},rows.flatten[j]? = some u→∃i r row,rows[i]? = some row∧row[r]? = some u∧j=i*sz+r
 | [],_,j,u,h=>by simp at h
 | a::rows,hl,j,u,h=>by
  rw[List.flatten_cons]at h;by_cases hj:j<a.length
  ·rw[List.getElem?_append_left hj]at h;exact⟨0,j,a,rfl,h,by omega⟩
  ·rw[List.getElem?_append_right (by omega)]at h
   obtain⟨i,r,row,h1,h2,h3⟩:=flat_inv (fun r hr=>hl r (List.mem_cons_of_mem _ hr)) h
   have ha:=hl a (List.mem_cons_self ..)
   refine⟨i+1,r,row,by simpa using h1,h2,?_⟩
   rw[Nat.add_mul,Nat.one_mul];omega
theorem read_ints{n:Nat}{v:Value}{y:DataW H×List MemPlace}(h:DataW.trod en Tryz.prog W base sp held n 22 [v]=some y):∃xs:List Int,RepS (allG W) v 1 (intRows xs):=by
 have hc:Tryz.prog.cellsOf 3=1:=by kernel_rfl
 rcases Deep.open_slice Tryz.underlying22 h with⟨h0,-⟩|⟨a,len,cap,m,k,D,Pl,h0,-,hlc,hcm,hm,-,hel⟩
 ·cases h0
  refine⟨[],?_⟩
  unfold RepS intRows;exact⟨by simp,none,0,0,rfl,rfl,by omega,Nat.zero_le _,fun hh=>by simp at hh⟩
 ·cases h0
  have hlm:len≤m:=by rw[hm];split <;> omega
  have hx:∀i,i<len→∃s:Int,∀j u,[Value.int .i64 s][j]? = some u→W.cell? (a.add (i*1+j))=some u:=fun i hi=>by
   obtain⟨cs',h1,h2⟩:=hel i (by omega)
   rw[hc]at h1;obtain⟨-,hl,hat⟩:=World.cells?_some h1
   obtain⟨s,rfl,-⟩:=DataW.trod_int Tryz.underlying3 h2
   refine⟨s,fun j u hu=>?_⟩
   have hj:j<1:=by rw[←hl];exact(List.getElem?_eq_some_iff.1 hu).1
   have:=hat j hj
   rw[hu,Go.Deep.add_add]at this;exact this
  have:∃f:Nat→Int,∀i,i<len→∀j u,[Value.int .i64 (f i)][j]? = some u→W.cell? (a.add (i*1+j))=some u:=by
   have dflt:Int:=0
   refine⟨fun i=>if hi:i<len then (hx i hi).choose else dflt,fun i hi=>?_⟩
   simp only[hi,dif_pos]
   exact(hx i hi).choose_spec
  obtain⟨f,hf⟩:=this;refine⟨(List.range len).map f,?_⟩
  unfold RepS intRows;refine⟨fun r hr=>?_,some a,len,cap,rfl,by simp,hlc,hcm,fun hpos=>?_⟩
  ·obtain⟨s,-,rfl⟩:=List.mem_map.1 hr
   rfl
  ·have hpos:0<len:=by simpa using hpos
   have h00:=hf 0 hpos 0 (.int .i64 (f 0)) rfl
   obtain⟨g,o,spt⟩:=a;have h01:W.cell? ⟨g,o+0,spt⟩=some (.int .i64 (f 0)):=h00
   unfold World.cell? at h01
   cases hg:W.heap[g]? with
   | none=>rw[hg]at h01;simp at h01
   | some ob=>
    rw[hg]at h01;cases ob with
    | cells cur e fr=>
     cases spt with
     | some q=>simp at h01
     | none=>
      refine⟨g,o,cur,e,fr,rfl,hg,fun j u hj=>?_⟩
      obtain⟨i,r,row,h1,h2,h3⟩:=flat_inv (sz:=1) (rows:=((List.range len).map f).map fun x=>[Value.int .i64 x]) (fun r hr=>by
       obtain⟨s,-,rfl⟩:=List.mem_map.1 hr
       rfl) hj
      rw[List.getElem?_map,List.getElem?_map]at h1;have hi:i<len:=by
       by_cases hi:i<len
       ·exact hi
       ·rw[List.getElem?_eq_none (by simpa using hi)]at h1;simp at h1
      rw[List.getElem?_range hi]at h1;simp only[Option.map_some,Option.some.injEq]at h1
      subst h1;have h4:W.cell? ⟨g,o+(i*1+r),none⟩=some u:=by
       have h5:=hf i hi r u h2
       rwa [show Addr.add ⟨g,o,none⟩ (i*1+r)=⟨g,o+(i*1+r),none⟩ from by
        unfold Addr.add;by_cases h0:i*1+r=0
        ·rw[if_pos h0,h0];rfl
        ·rw[if_neg h0]]at h5
      unfold World.cell? at h4
      rw[hg]at h4;rw[h3];simpa using h4
    | _=>simp at h01
theorem carry_all(hk:Wd (allG W) S W'):∀ {ts:List TypeId} {vs:List Value} {ds:List (DataW H)} {ps:List MemPlace},DataW.TrodAll en Tryz.prog W base sp held ts vs ds ps→(∀p∈ps,p.block<W.heap.size)→DataW.TrodAll en Tryz.prog W' base sp held ts vs ds ps
 | [],[],[],_,h,_=>h
 | _::_,_::_,_::_,_,⟨p,q,⟨n,h1⟩,h2,e⟩,hs=>⟨p,q,⟨n,DataW.trod_carry n _ _ _ h1 fun x hx=>by
   have hb:=hs x (by rw[e];exact List.mem_append_left _ hx)
   cases x with
   | cell b off=>
    have h3:W'.heap[b]? = W.heap[b]?:=by
     have h4:W.heap[b]? = some (W.heap[b]'hb):=Array.getElem?_eq_getElem hb
     rw[h4];exact hk.imm b _ h4
    show W'.cell? _=W.cell? _
    unfold World.cell?
    rw[h3]
   | map b=>
    have h4:W.heap[b]? = some (W.heap[b]'hb):=Array.getElem?_eq_getElem hb
    show W'.heap[b]? = W.heap[b]?
    rw[h4];exact hk.imm b _ h4⟩,carry_all hk h2 (fun x hx=>hs x (by rw[e];exact List.mem_append_right _ hx)),e⟩
end
theorem own_kids:Kids Tryz.prog (· < Tryz.prog.types.size):=kids_rows (by kernel_rfl) (by kernel_rfl)
theorem own_full:∀t e,t<Tryz.prog.types.size→Tryz.prog.underlying t=some (.slice e)→0<Tryz.prog.cellsOf e:=slices_full_of _ (by kernel_rfl)
end Go.Proofs.YthgighljhoneeaaGreat
end
section
open Go
namespace Mk
section
variable {P:Program}{n:Nat}{opa:Array Oper}{Γ:Gho}{S:List Res}{QQ:Exit→Fr→World→Prop}{K:Value→World→Prop}{ρ:Fr}{w:World}{rest:List Oper}{sz:Nat}{rows:List (List Value)}
variable {d:Option Tmp}{T U ty:TypeId}{pos:String}{es:Array Edge}{g:Option (Nat×Bool)}{x y z:Operand}{v:Value}
theorem field_set{L r:List Value}{p f m sz N:Nat}(hp:p+sz≤N)(hN:N≤L.length)(hr:r.length=m)(hfm:f+m≤sz) :
  (L.take (p+f)++r++L.drop (p+f+r.length)).take N=(L.take N).take p++(((L.drop p).take sz).take f++r++((L.drop p).take sz).drop (f+m))++(L.take N).drop (p+sz):=by
 refine List.ext_getElem? fun i=>?_
 simp only[List.getElem?_append,List.getElem?_take,List.getElem?_drop,List.length_append,List.length_take,List.length_drop,hr]
 repeat' split
 all_goals first|omega|rfl|(congr 1;omega)|skip
theorem s_storeEf{E k f m i n c:Nat}{a:Option Addr}{v:Value}{r row:List Value}(hn:(P.info? T).map (·.size)=some m)(hw:Wd Γ S w)(hx:ev ρ x=.pointer (some ⟨aB a,aO a+k*sz+f,none⟩))(hy:ev ρ y=v)(hv:v.cells.toList=r)(hl:r.length=m)
  (h1:r.all (·.oneCell')=true) (hi:S[i]? = some (.own (.slice a n c) E sz rows)) (hkl:k<n) (hrow:rows[k]? = some row) (hfm:f+m≤sz) (hk:∀w',Wd Γ (S.set i (.own (.slice a n c) E sz (rows.set k (row.take f++r++row.drop (f+m))))) w'→K undef w'):Step P ⟨d,.store T x y,ty,pos,es,g⟩ ρ w K:=by
 obtain⟨bs0,hr0⟩:=hw.own_holds hi
 unfold Res.own at hr0;obtain⟨q0,a',n',c',e1,e2,e3,e4,e5⟩:=hr0;cases e1
 rcases e5 with⟨hc,_⟩|⟨b,cur,g1,g2,g3,g4,g5⟩
 ·omega
 ·subst g1;have hrl:row.length=sz:=q0 row (List.mem_of_getElem? hrow)
  have hnew:(row.take f++r++row.drop (f+m)).length=sz:=by simp[hl,hrl];omega
  have hx':ev ρ x=.pointer (some ⟨b,k*sz+f,none⟩):=by rw[hx];simp[aB,aO]
  have hks:k*sz+sz≤cur.size:=by
   rw[g4,show k*sz+sz=(k+1)*sz from by rw[Nat.add_mul];omega];exact Nat.mul_le_mul_right _ (by omega)
  have hfit:k*sz+f+0+r.length≤cur.size:=by rw[hl];omega
  have hst:=run_storeCells_at P b (k*sz+f) E r 0 cur w g3 hfit (fun u hu=>(List.all_eq_true.1 h1) u hu)
  simp only[Nat.add_zero]at hst
  have hsz:v.cells.size=m:=by rw[←hl,←hv];simp
  have hr:(execOp (ev ρ) ⟨d,.store T x y,ty,pos,es,g⟩).run P w=.ok .skip (w.setRow b (cur.toList.take (k*sz+f)++r++cur.toList.drop (k*sz+f+r.length)).toArray):=by
   cases hq:P.info? T with
   | none=>simp[hq]at hn
   | some q=>
    have hs:q.size=m:=by simpa[hq] using hn
    have hz:(Go.sizeOf T).run P w=.ok m w:=by simp[Go.sizeOf,typeInfo,hq,hs]
    have hsv:(storeVar T ⟨b,k*sz+f,none⟩ v).run P w=.ok () (w.setRow b (cur.toList.take (k*sz+f)++r++cur.toList.drop (k*sz+f+r.length)).toArray):=by
     unfold storeVar;rw[Sem.run_bind,hz];simp only[Result.andThen_ok,hsz,ne_eq,not_true_eq_false,if_false,hv]
     exact hst
    simp only[execOp,hx',hy,Instr.storeAt,Instr.sureAddr,Sem.run_bind,Sem.run_pure,Result.andThen_ok,hsv]
  have hfin:=hk _ (hw.upd hi (w':=w.setRow b (cur.toList.take (k*sz+f)++r++cur.toList.drop (k*sz+f+r.length)).toArray) ⟨rfl,rfl,rfl,(by first|exact Nat.le_refl _|exact Nat.le_succ _),by simp⟩ fun bs hr' hnd hlt=>by
   unfold Res.own at hr' ⊢
   obtain⟨q0',a2,n2,c2,f1,f2,f3,f4,f5⟩:=hr';cases f1
   rcases f5 with⟨hc,_⟩|⟨b2,cur2,k1,k2,k3,k4,k5⟩
   ·omega
   ·cases k1
    rw[show hp w b=some (.cells cur E (0,0)) from g3]at k3;cases k3
    refine⟨bs,⟨?_,_,_,_,rfl,by simpa using f2,f3,f4,.inr ⟨b,_,rfl,k2,setRow_heap w b cur _ E _ g3,?_,?_⟩⟩,hnd,fun x hx=>⟨by have:=hlt x hx;simpa using this,.inl hx⟩,fun k' _ hne=>setRow_other w b k' _ (fun e=>hne (by simp[k2,e]))⟩
    ·intro r' hr';rcases List.mem_or_eq_of_mem_set hr' with h|rfl
     ·exact q0 r' h
     ·exact hnew
    ·simp only[List.size_toArray,List.length_append,List.length_take,List.length_drop,Array.length_toList];omega
    ·have hkn:k*sz+sz≤n*sz:=by rw[show k*sz+sz=(k+1)*sz from by rw[Nat.add_mul];omega];exact Nat.mul_le_mul_right _ (by omega)
     have hns:n*sz≤cur.toList.length:=by rw[Array.length_toList,g4];exact Nat.mul_le_mul_right _ e3
     have e0:=rows_set_flatten (k:=k) (r:=row) q0 hrl (by omega)
     have e9:rows.set k row=rows:=by
      refine List.ext_getElem? fun i=>?_
      rw[List.getElem?_set];split
      ·rename_i h;subst h;rw[hrow];simp;omega
      ·rfl
     rw[e9]at e0;rw[rows_set_flatten q0 hnew (by omega),←g5]
     have hrw:row=(cur.toList.drop (k*sz)).take sz:=by
      have:row=((cur.toList.take (n*sz)).drop (k*sz)).take sz:=by
       rw[g5,e0,List.append_assoc,List.drop_append_of_le_length (by rw[List.length_take,←g5,List.length_take];omega)]
       have:((rows.flatten.take (k*sz)).drop (k*sz))=[]:=by rw[List.drop_eq_nil_iff,List.length_take];omega
       rw[this,List.nil_append,List.take_append_of_le_length (by omega),List.take_of_length_le (by omega)]
      rw[this,List.drop_take,List.take_take,Nat.min_eq_left (by omega)]
     rw[hrw];exact field_set hkn hns hl hfm
    )
  unfold Step;rw[hr];exact hfin
theorem lStoreEf{E k f i m mm c sz:Nat}{a:Option Addr}{r row:List Value}{rows:List (List Value)}[hn:TSz P T m](h:∀w',Wd Γ (S.set i (.own (.slice a mm c) E sz (rows.set k (row.take f++r++row.drop (f+m))))) w'→L P n opa QQ rest ρ w')(hrow:rows[k]? = some row)(hw:Wd Γ S w:=by exact hw)(hx:ev ρ x=.pointer (some ⟨aB a,aO a+k*sz+f,none⟩):=by exact rfl)
  (hy:ev ρ y=v:=by exact byMV) (hv:v.cells.toList=r:=by exact rfl) (hl:r.length=m:=by exact rfl) (h1:r.all (·.oneCell')=true:=by exact rfl) (hi:S[i]? = some (.own (.slice a mm c) E sz rows):=by exact byIX) (hk:k<mm:=by omega) (hfm:f+m≤sz:=by omega) :
  L P n opa QQ (⟨none,.store T x y,ty,pos,es,none⟩::rest) ρ w:=L_step rfl rfl (s_storeEf hn.h hw hx hy hv hl h1 hi hk hrow hfm h)
end
attribute [local irreducible] Calls
theorem W_cutT{P:Program}{n:Nat}{c:Code}{K:Fr→World→Prop}{Q:Exit→Fr→World→Prop}{ρ:Fr}{w:World}(I:Fr→World→Prop)(h1:W P n c (Then I Q) ρ w)(h2:∀ρ w,I ρ w→K ρ w):W P n c (Then K Q) ρ w:=
 h1.mono fun e ρ w h=>by
  cases e with
  | normal=>exact h2 ρ w h
  | _=>exact h
section
variable {P:Program}{n:Nat}{ops:List Oper}{Γ:Gho}{K:List Res}{wr tc stab:List (List Nat)}{Q:Fr→World→Prop}{i:Nat}{rest:List Oper}{ρ:Fr}{w:World}{M:Nat→Fr→List Res}{v:Value}{T T':Type}{o:Oper}
variable {ty:TypeId}{pos:String}{es:Array Edge}
theorem ml1{a b d:Fr→List Res}:ML [a,b,d] 1=b:=rfl
theorem ml2{a b d:Fr→List Res}:ML [a,b,d] 2=d:=rfl
theorem exC_open{φ:T→Fr→Prop}{R:T→List Res}{g:Fr}{Z:List Res}(h:Wd Γ (exC φ R g++Z) w):∃t,φ t g∧Wd Γ (R t++Z) w:=by
 obtain⟨⟨t,ht⟩,hw⟩:=Wd.openEx (S:=Z) h
 exact⟨t,ht,hw⟩
theorem exC_mk{φ:T→Fr→Prop}{R:T→List Res}{g:Fr}{Z:List Res}(t:T)(ht:φ t g)(h:Wd Γ (R t++Z) w):Wd Γ (exC φ R g++Z) w:=
 Wd.closeEx (X:=fun p:{t:T // φ t g}=>R p.1) ⟨t,ht⟩ h
theorem mM2{c c2:Nat}(m m2:Fr→List Res)(hs:∀Y w g,Wd Γ (K++(cellsAt tc stab i M g++Y)) w→Step P o (ovr stab.flatten g ρ) w fun u w'=>Wd Γ (K++(cellsAt tc stab i (setC (setC M c m) c2 m2) (putO g o.dst u)++Y)) w'∧(freeD stab o.dst=false→u=v))
  (h:MSw (mV P n ops Γ K wr tc stab) Q (i+1) rest ⟨putO ρ o.dst v,setC (setC M c m) c2 m2⟩) (hw0:wr.getD i []=[c,c2]) (hg:o.guard=none):MSw (mV P n ops Γ K wr tc stab) Q i (o::rest) ⟨ρ,M⟩:=by
 have hn:Mt.nxt (mV P n ops Γ K wr tc stab) i ⟨ρ,M⟩ ⟨v,setC (setC M c m) c2 m2⟩=setC (setC M c m) c2 m2:=by
  funext y
  simp only[Mt.nxt,MEnv.w,hw0]
  unfold setC;by_cases h1:y=c <;> by_cases h2:y=c2 <;> simp[h1,h2]
 refine⟨⟨v,setC (setC M c m) c2 m2⟩,⟨fun Γ' Y w g hr hw=>?_⟩,?_⟩
 ·have hΓ:Γ'=Γ:=hr
  subst hΓ;rw[hn];refine⟨fun _=>(hs Y w g hw).mono fun u w' ⟨h1,h2⟩=>⟨Γ',rfl,h1,h2⟩,fun hf=>?_⟩
  rw[wantF_none hg]at hf;cases hf
 ·simp only[Mt.next,hn];exact h
theorem mS{c:Nat}{F:Fr→List Res}(F':Fr→List Res)
  (hs:∀g w Y,Wd Γ (F (ovr (stab.getD c []) g noFr)++(K++Y)) w→Step P o (ovr stab.flatten g ρ) w fun u w'=>(freeD stab o.dst=false→u=v)∧Wd Γ (F' (ovr (stab.getD c []) (putO g o.dst u) noFr)++(K++Y)) w')
  (h:MSw (mV P n ops Γ K wr tc stab) Q (i+1) rest ⟨putO ρ o.dst v,setC M c F'⟩) (hM:M c=F:=by first|exact setC_self|exact ml1|exact ml2|exact((setC_other (by decide)).trans setC_self)|exact((setC_other (by decide)).trans ml2)|exact((setC_other (by decide)).trans ((setC_other (by decide)).trans ml2))|exact((setC_other (by decide)).trans ((setC_other (by decide)).trans ((setC_other (by decide)).trans ml2)))|exact((setC_other (by decide)).trans ((setC_other (by decide)).trans setC_self))|exact rfl) (hw0:wr.getD i []=[c]:=by exact rfl) (ht:tc.getD i []=[c]:=by exact rfl) (hg:o.guard=none:=by exact rfl) :
  MSw (mV P n ops Γ K wr tc stab) Q i (o::rest) ⟨ρ,M⟩:=by
 refine mM _ (fun Y w g hw=>?_) h hw0 hg
 rw[cells1 ht,hM]at hw;refine(hs g w Y hw.swapApp).mono ?_
 rintro u w' ⟨h2,h3⟩
 refine⟨?_,h2⟩
 rw[cells1 ht,setC_self];exact h3.swapApp
theorem mS2{c c2:Nat}{F G:Fr→List Res}(F' G':Fr→List Res)
  (hs:∀g w Y,Wd Γ (F (ovr (stab.getD c []) g noFr)++(G (ovr (stab.getD c2 []) g noFr)++(K++Y))) w→Step P o (ovr stab.flatten g ρ) w fun u w'=>(freeD stab o.dst=false→u=v)∧Wd Γ (F' (ovr (stab.getD c []) (putO g o.dst u) noFr)++(G' (ovr (stab.getD c2 []) (putO g o.dst u) noFr)++(K++Y))) w')
  (h:MSw (mV P n ops Γ K wr tc stab) Q (i+1) rest ⟨putO ρ o.dst v,setC (setC M c F') c2 G'⟩) (hM:M c=F:=by first|exact setC_self|exact ml1|exact ml2|exact((setC_other (by decide)).trans setC_self)|exact((setC_other (by decide)).trans ml2)|exact((setC_other (by decide)).trans ((setC_other (by decide)).trans ml2))|exact((setC_other (by decide)).trans ((setC_other (by decide)).trans ((setC_other (by decide)).trans ml2)))|exact((setC_other (by decide)).trans ((setC_other (by decide)).trans setC_self))|exact rfl) (hM2:M c2=G:=by first|exact setC_self|exact ml1|exact ml2|exact((setC_other (by decide)).trans setC_self)|exact((setC_other (by decide)).trans ml2)|exact((setC_other (by decide)).trans ((setC_other (by decide)).trans ml2))|exact((setC_other (by decide)).trans ((setC_other (by decide)).trans ((setC_other (by decide)).trans ml2)))|exact((setC_other (by decide)).trans ((setC_other (by decide)).trans setC_self))|exact rfl) (hw0:wr.getD i []=[c,c2]:=by exact rfl) (ht:tc.getD i []=[c,c2]:=by exact rfl) (hcc:Nat.beq c c2=false:=by exact rfl) (hg:o.guard=none:=by exact rfl) :
  MSw (mV P n ops Γ K wr tc stab) Q i (o::rest) ⟨ρ,M⟩:=by
 have hne:c≠c2:=fun e=>by subst e;simp at hcc
 refine mM2 _ _ (fun Y w g hw=>?_) h hw0 hg
 rw[cells2 ht,hM,hM2]at hw;have hw1:=(hw.perm (by rw[List.append_assoc];exact(List.perm_append_comm_assoc _ _ _).trans (List.Perm.append_left _ (List.perm_append_comm_assoc _ _ _)))  : Wd Γ (F (ovr (stab.getD c []) g noFr)++(G (ovr (stab.getD c2 []) g noFr)++(K++Y))) w)
 refine(hs g w Y hw1).mono ?_
 rintro u w' ⟨h2,h3⟩
 refine⟨?_,h2⟩
 rw[cells2 ht,setC_self,setC_other hne,setC_self];exact h3.perm (by rw[List.append_assoc];exact((List.perm_append_comm_assoc _ _ _).trans (List.Perm.append_left _ (List.perm_append_comm_assoc _ _ _))).symm)
theorem mBuildX{c dd E by' len sz:Nat}{zs:List Value}{parts:Array (Nat×Operand)}{TT:TypeId}{φ:T→Fr→Prop}{R:T→List Res}(rws:T→List (List Value))[TL P TT E sz by' zs]
  (h:MSw (mV P n ops Γ K wr tc stab) Q (i+1) rest ⟨putO ρ (some dd) undef,setC M c (exC (fun (p:T×Addr) g=>φ p.1 g∧g dd=.slice (some p.2) len len) fun p=>.own (.slice (some p.2) len len) E sz (rws p.1)::R p.1)⟩)
  (hf:∀t g,φ t (ovr (stab.getD c []) g noFr)→fillL (fun i=>some (i*sz,sz)) ((List.range (len*sz)).map fun i=>zs.getD (i%sz) undef) (parts.toList.map fun p=>(p.1,ev (ovr stab.flatten g ρ) p.2))=some (rws t).flatten)
  (hw0:wr.getD i []=[c]:=by exact rfl) (ht:tc.getD i []=[c]:=by exact rfl) (hM:M c=exC φ R:=by first|exact setC_self|exact ml1|exact ml2|exact((setC_other (by decide)).trans setC_self)|exact((setC_other (by decide)).trans ml2)|exact((setC_other (by decide)).trans ((setC_other (by decide)).trans ml2))|exact((setC_other (by decide)).trans ((setC_other (by decide)).trans ((setC_other (by decide)).trans ml2)))|exact((setC_other (by decide)).trans ((setC_other (by decide)).trans setC_self))|exact rfl) (hφ:∀t g u,φ t (ovr (stab.getD c []) g noFr)→φ t (ovr (stab.getD c []) (putO g (some dd) u) noFr):=by intro t g u h;exact h)
  (hlen:∀t,(rws t).length=len:=by intro t;rfl) (hr:∀t,(rws t).all (fun r=>Nat.beq r.length sz)=true:=by intro t;rfl) (hbig:Nat.ble (len*sz) 16777216=true:=by exact rfl)
  (hs:(stab.getD c []).contains dd=true:=by exact rfl) (hfr:freeD stab (some dd)=true:=by exact rfl) :
  MSw (mV P n ops Γ K wr tc stab) Q i (⟨some dd,.buildSlice TT len parts,ty,pos,es,none⟩::rest) ⟨ρ,M⟩:=
 mS (v:=undef) (exC (fun (p:T×Addr) g=>φ p.1 g∧g dd=.slice (some p.2) len len) fun p=>.own (.slice (some p.2) len len) E sz (rws p.1)::R p.1) (fun g w Y hw=>by
  obtain⟨t,h1,hw⟩:=exC_open hw
  refine s_buildSlice (rws:=rws t) hw (hf t g h1) rfl (hlen t) (fun r hm=>Nat.eq_of_beq_eq_true ((List.all_eq_true.1 (hr t)) r hm)) (Nat.le_of_ble_eq_true hbig) fun a w' hw'=>⟨fun hh=>(by rw[hfr]at hh;cases hh),exC_mk (t,a) ⟨hφ t g _ h1,?_⟩ hw'⟩
  rw[ovr_in (by simpa using hs)];exact upd_same _ _ _) h hM hw0 ht rfl
theorem mPureX{c dd:Nat}{op:Op}{φ:T→Fr→Prop}{R:T→List Res}(u:T→Value)
  (hy:∀t g w Y,φ t (ovr (stab.getD c []) g noFr)→Wd Γ (R t++(K++Y)) w→Yields P ⟨some dd,op,ty,pos,es,none⟩ (ovr stab.flatten g ρ) w (u t))
  (h:MSw (mV P n ops Γ K wr tc stab) Q (i+1) rest ⟨putO ρ (some dd) undef,setC M c (exC (fun t g=>φ t g∧g dd=u t) R)⟩)
  (hw0:wr.getD i []=[c]:=by exact rfl) (ht:tc.getD i []=[c]:=by exact rfl) (hM:M c=exC φ R:=by first|exact setC_self|exact ml1|exact ml2|exact((setC_other (by decide)).trans setC_self)|exact((setC_other (by decide)).trans ml2)|exact((setC_other (by decide)).trans ((setC_other (by decide)).trans ml2))|exact((setC_other (by decide)).trans ((setC_other (by decide)).trans ((setC_other (by decide)).trans ml2)))|exact((setC_other (by decide)).trans ((setC_other (by decide)).trans setC_self))|exact rfl) (hφ:∀t g u,φ t (ovr (stab.getD c []) g noFr)→φ t (ovr (stab.getD c []) (putO g (some dd) u) noFr):=by intro t g u h;exact h)
  (hs:(stab.getD c []).contains dd=true:=by exact rfl) (hfr:freeD stab (some dd)=true:=by exact rfl) :
  MSw (mV P n ops Γ K wr tc stab) Q i (⟨some dd,op,ty,pos,es,none⟩::rest) ⟨ρ,M⟩:=
 mS (v:=undef) (exC (fun t g=>φ t g∧g dd=u t) R) (fun g w Y hw=>by
  obtain⟨t,h1,hw⟩:=exC_open hw
  refine(hy t g w Y h1 hw).step ⟨fun hh=>(by rw[hfr]at hh;cases hh),exC_mk t ⟨hφ t g _ h1,?_⟩ hw⟩
  rw[ovr_in (by simpa using hs)];exact upd_same _ _ _) h hM hw0 ht rfl
theorem mAppX{c dd j j2 E by' sz m cc m2 c2:Nat}{zs:List Value}{a:Option Addr}{rows:List (List Value)}{TT:TypeId}{x y:Operand}{φ:T→Fr→Prop}{R:T→List Res}(a2:T→Option Addr)(rows2:T→List (List Value))[TL P TT E sz by' zs]
  (h:MSw (mV P n ops Γ K wr tc stab) Q (i+1) rest ⟨putO ρ (some dd) undef,setC M c (exC (fun (p:T×Value) g=>φ p.1 g∧g dd=p.2) fun p=>(R p.1).set j (.own p.2 E sz (rows++rows2 p.1)))⟩)
  (hy:∀t g,φ t (ovr (stab.getD c []) g noFr)→ev (ovr stab.flatten g ρ) y=.slice (a2 t) m2 c2) (hw0:wr.getD i []=[c]:=by exact rfl) (ht:tc.getD i []=[c]:=by exact rfl) (hM:M c=exC φ R:=by first|exact setC_self|exact ml1|exact ml2|exact((setC_other (by decide)).trans setC_self)|exact((setC_other (by decide)).trans ml2)|exact((setC_other (by decide)).trans ((setC_other (by decide)).trans ml2))|exact((setC_other (by decide)).trans ((setC_other (by decide)).trans ((setC_other (by decide)).trans ml2)))|exact((setC_other (by decide)).trans ((setC_other (by decide)).trans setC_self))|exact rfl) (hj:∀t,(R t)[j]? = some (.own (.slice a m cc) E sz rows):=by intro t;exact rfl) (hj2:∀t,(R t)[j2]? = some (.own (.slice (a2 t) m2 c2) E sz (rows2 t)):=by intro t;exact rfl)
  (h1:∀t,(rows2 t).flatten.all (·.oneCell')=true:=by intro t;rfl) (hx:∀g,ev (ovr stab.flatten g ρ) x=.slice a m cc:=by intro g;exact rfl)
  (hφ:∀t g u,φ t (ovr (stab.getD c []) g noFr)→φ t (ovr (stab.getD c []) (putO g (some dd) u) noFr):=by intro t g u h;exact h)
  (hb:(m+m2)*by'≤140737488355328:=by omega) (h63:m+m2≤9223372036854775807:=by omega) (hl2:∀t,m2=(rows2 t).length:=by intro t;rfl)
  (hs:(stab.getD c []).contains dd=true:=by exact rfl) (hfr:freeD stab (some dd)=true:=by exact rfl) :
  MSw (mV P n ops Γ K wr tc stab) Q i (⟨some dd,.call { callee:=.builtin .append,args:=#[x,y],argTypes:=#[TT,TT] },ty,pos,es,none⟩::rest) ⟨ρ,M⟩:=
 mS (v:=undef) (exC (fun (p:T×Value) g=>φ p.1 g∧g dd=p.2) fun p=>(R p.1).set j (.own p.2 E sz (rows++rows2 p.1))) (fun g w Y hw=>by
  obtain⟨t,ht1,hw⟩:=exC_open hw
  have hjl:j<(R t).length:=(List.getElem?_eq_some_iff.1 (hj t)).1
  have hjl2:j2<(R t).length:=(List.getElem?_eq_some_iff.1 (hj2 t)).1
  have hi:(R t++(K++Y))[j]? = some (.own (.slice a m cc) E sz rows):=by rw[List.getElem?_append_left hjl];exact hj t
  have hi2:(R t++(K++Y))[j2]? = some (.own (.slice (a2 t) m2 c2) E sz (rows2 t)):=by rw[List.getElem?_append_left hjl2];exact hj2 t
  refine s_append hw (hx g) (hy t g ht1) hi (hw.own_rd hi2) (hl2 t) (fun u hu=>(List.all_eq_true.1 (h1 t)) u hu) hb h63 fun v' w' hw'=>⟨fun hh=>(by rw[hfr]at hh;cases hh),exC_mk (t,v') ⟨hφ t g _ ht1,?_⟩ ?_⟩
  ·rw[ovr_in (by simpa using hs)];exact upd_same _ _ _
  ·rw[List.set_append_left _ _ hjl]at hw';exact hw') h hM hw0 ht rfl
theorem mJoinX{c0 c b ob dv j:Nat}{cs:Array Value}{E E2 sz2:Nat}{TT:TypeId}{x:Operand}{φ:T→Fr→Prop}{R:T→List Res}{val:T→Value}{rows:T→List (List Value)}[hn:TSz P TT 1]
  (h:MSw (mV P n ops Γ K wr tc stab) Q (i+1) rest ⟨ρ,setC (setC M c0 fun _=>[]) c (exC φ fun t=>.blk b (.cells (putCells cs ob [val t]) E)::R t)⟩)
  (hv:∀t g,φ t (ovr (stab.getD c []) g noFr)→ev (ovr stab.flatten g ρ) (.tmp dv)=val t) (hw0:wr.getD i []=[c0,c]:=by exact rfl) (ht:tc.getD i []=[c0,c]:=by exact rfl) (hcc:Nat.beq c0 c=false:=by exact rfl) (hM2:M c=exC φ R:=by first|exact setC_self|exact ml1|exact ml2|exact((setC_other (by decide)).trans setC_self)|exact((setC_other (by decide)).trans ml2)|exact((setC_other (by decide)).trans ((setC_other (by decide)).trans ml2))|exact((setC_other (by decide)).trans ((setC_other (by decide)).trans ((setC_other (by decide)).trans ml2)))|exact((setC_other (by decide)).trans ((setC_other (by decide)).trans setC_self))|exact rfl) (hj:∀t,(R t)[j]? = some (.own (val t) E2 sz2 (rows t)):=by intro t;exact rfl) (hx:∀g,ev (ovr stab.flatten g ρ) x=.pointer (some ⟨b,ob,none⟩):=by intro g;exact rfl)
  (hM:M c0=(fun _=>[.blk b (.cells cs E)]):=by exact rfl) (ho:ob+1≤cs.size:=by exact Nat.le_of_ble_eq_true rfl) :
  MSw (mV P n ops Γ K wr tc stab) Q i (⟨none,.store TT x (.tmp dv),ty,pos,es,none⟩::rest) ⟨ρ,M⟩:=
 mS2 (v:=undef) (fun _=>[]) (exC φ fun t=>.blk b (.cells (putCells cs ob [val t]) E)::R t) (fun g w Y hw=>by
  have hw2:Wd Γ (exC φ R (ovr (stab.getD c []) g noFr)++(.blk b (.cells cs E)::(K++Y))) w:=hw.perm (List.perm_append_comm_assoc _ _ _)
  obtain⟨t,ht1,hw⟩:=exC_open hw2
  have hw:Wd Γ (.blk b (.cells cs E)::(R t++(K++Y))) w:=hw.perm List.perm_middle
  have hjl:j<(R t).length:=(List.getElem?_eq_some_iff.1 (hj t)).1
  obtain⟨q1,q2,q3,e1,-,-,-⟩:=hw.own_shape (i:=j+1) (v:=val t) (e:=E2) (sz:=sz2) (rows:=rows t) (by rw[List.getElem?_cons_succ,List.getElem?_append_left hjl];exact hj t)
  refine s_store hn.h hw (hx g) (hv t g ht1) (vs:=[val t]) (by rw[e1];rfl) rfl (fun u hu=>by simp at hu;subst hu;rw[e1];rfl) (i:=0) rfl ho fun w' hw'=>⟨fun _=>rfl,?_⟩
  exact exC_mk (R:=fun t=>.blk b (.cells (putCells cs ob [val t]) E)::R t) t ht1 hw') h hM hM2 hw0 ht hcc rfl
theorem W_mixD{id:Nat}{l:List Oper}{QQ:Exit→Fr→World→Prop}(K X0 X1 X2:List Res)(N1 N2:List Nat)(wr tc:List (List Nat))(hw:Wd Γ (K++(X0++(X1++X2))) w)
  (h:MSw (mV P n l Γ K wr tc [[],N1,N2]) (fun ρ w=>QQ .normal ρ w) 0 l ⟨ρ,ML [fun _=>X0,exC (T:=Unit) (fun _ _=>True) (fun _=>X1),exC (T:=Unit) (fun _ _=>True) (fun _=>X2)]⟩)
  (hm:P.follows .mixedOrders=true:=by kernel_rfl) (hk:checkM n l wr tc [[],N1,N2]=true:=by kernel_rfl):W P n (.region id l.toArray true) QQ ρ w:=
 W_mixed K [fun _=>X0,exC (T:=Unit) (fun _ _=>True) (fun _=>X1),exC (T:=Unit) (fun _ _=>True) (fun _=>X2)] wr tc [[],N1,N2] (by
  show Wd Γ (K++(X0++(exC (T:=Unit) (fun _ _=>True) (fun _=>X1) (ovr N1 ρ noFr)++(exC (T:=Unit) (fun _ _=>True) (fun _=>X2) (ovr N2 ρ noFr)++[])))) w
  rw[List.append_nil];have h1:Wd Γ (X1++(X2++(K++X0))) w:=hw.perm (by
   rw[←List.append_assoc,←List.append_assoc X1];exact List.perm_append_comm)
  have h2:Wd Γ (exC (T:=Unit) (fun _ _=>True) (fun _=>X1) (ovr N1 ρ noFr)++(X2++(K++X0))) w:=exC_mk () trivial h1
  have h3:Wd Γ (X2++(exC (T:=Unit) (fun _ _=>True) (fun _=>X1) (ovr N1 ρ noFr)++(K++X0))) w:=h2.perm (List.perm_append_comm_assoc _ _ _)
  have h4:Wd Γ (exC (T:=Unit) (fun _ _=>True) (fun _=>X2) (ovr N2 ρ noFr)++(exC (T:=Unit) (fun _ _=>True) (fun _=>X1) (ovr N1 ρ noFr)++(K++X0))) w:=exC_mk () trivial h3
  have h5:Wd Γ (exC (T:=Unit) (fun _ _=>True) (fun _=>X1) (ovr N1 ρ noFr)++(exC (T:=Unit) (fun _ _=>True) (fun _=>X2) (ovr N2 ρ noFr)++(K++X0))) w:=h4.perm (List.perm_append_comm_assoc _ _ _)
  exact h5.perm (by
   rw[←List.append_assoc,←List.append_assoc K];exact List.perm_append_comm)) h hm hk
theorem mEndD{N1 N2:List Nat}{φ:T→Fr→Prop}{R:T→List Res}(h:∀t w g,φ t (ovr N1 g noFr)→Wd Γ (R t++K) w→Q (ovr [[],N1,N2].flatten g ρ) w)(hM0:M 0=fun _=>[]:=by exact rfl)(hM:M 1=exC φ R:=by first|exact setC_self|exact ml1|exact ml2|exact((setC_other (by decide)).trans setC_self)|exact((setC_other (by decide)).trans ml2)|exact((setC_other (by decide)).trans ((setC_other (by decide)).trans ml2))|exact((setC_other (by decide)).trans ((setC_other (by decide)).trans ((setC_other (by decide)).trans ml2)))|exact((setC_other (by decide)).trans ((setC_other (by decide)).trans setC_self))|exact rfl):MSw (mV P n ops Γ K wr tc [[],N1,N2]) Q i [] ⟨ρ,M⟩:=
 mEnd fun w g hw=>by
  have hw1:Wd Γ (K++(M 0 (ovr [] g noFr)++(M 1 (ovr N1 g noFr)++(M 2 (ovr N2 g noFr)++[])))) w:=hw
  rw[hM0,hM,List.nil_append]at hw1;have hw2:Wd Γ (exC φ R (ovr N1 g noFr)++(K++(M 2 (ovr N2 g noFr)++[]))) w:=hw1.swapApp
  obtain⟨t,ht,hw3⟩:=exC_open hw2
  exact h t w g ht (Wd.left (S:=R t++K) (by rw[List.append_assoc];exact hw3))
end
theorem made_rows{zs:List Value}{sz:Nat}(hz:zs.length=sz)(h0:0<sz):∀n:Nat,(madeCells zs.toArray (n*sz)).toList=(List.replicate n zs).flatten:=fun n=>by
 unfold madeCells;simp only[Array.toList_map,Array.toList_range,List.size_toArray,hz]
 have hf:∀i:Nat,zs.toArray[i%sz]! = zs.getD (i%sz) undef:=fun i=>by
  have hlt:i%sz<zs.length:=by rw[hz];exact Nat.mod_lt _ h0
  rw[getElem!_pos (zs.toArray) _ (by simpa using hlt)]
  simp[List.getD_eq_getElem?_getD,List.getElem?_eq_getElem hlt]
 simp only[hf]
 induction n with
 | zero=>simp
 | succ n ih=>
  rw[show (n+1)*sz=sz+n*sz from by rw[Nat.add_mul];omega,List.range_add,List.map_append,List.map_map,List.replicate_succ,List.flatten_cons,←ih]
  congr 1
  ·refine List.ext_getElem? fun i=>?_
   rw[List.getElem?_map];by_cases hi:i<sz
   ·rw[List.getElem?_range hi];simp only[Option.map_some,Nat.mod_eq_of_lt hi]
    rw[List.getD_eq_getElem?_getD,List.getElem?_eq_getElem (by omega)];rfl
   ·rw[List.getElem?_eq_none (by simpa using hi),List.getElem?_eq_none (by omega)];rfl
  ·refine List.map_congr_left fun i _=>?_
   simp
section
variable {P:Program}{n:Nat}{opa:Array Oper}{Γ:Gho}{S:List Res}{QQ:Exit→Fr→World→Prop}{ρ:Fr}{w:World}{rest:List Oper}{K:Value→World→Prop}
variable {d:Option Tmp}{T ty:TypeId}{pos:String}{es:Array Edge}{g:Option (Nat×Bool)}{x y:Operand}
theorem s_makeSlice{E by' len sz:Nat}{zs:List Value}[hT:TL P T E sz by' zs](hw:Wd Γ S w)(hx:ev ρ x=.int .i64 (len:Nat))(hy:ev ρ y=.int .i64 (len:Nat))(hb:(by':Int)*len≤281474976710656)(h63:(len:Int)≤9223372036854775807)
  (hk:∀a w',Wd Γ (.own (.slice (some a) len len) E sz (List.replicate len zs)::S) w'→K (.slice (some a) len len) w'):Step P ⟨d,.makeSlice T x y,ty,pos,es,g⟩ ρ w K:=by
 obtain⟨q,z,hq,hz,hzc⟩:=zeroOf_info hT.z
 obtain⟨q',hq',hs,hb'⟩:=sizeBytes_info hT.s
 rw[hq]at hq';cases hq'
 have hrun:=run_make (P:=P) w T E q z hT.h hq hz .i64 .i64 (len:Int) (len:Int) (by omega) (Int.le_refl _) (by rw[hb'];exact hb) h63
 rw[hzc,hs]at hrun;have hr0:(execOp (ev ρ) ⟨d,.makeSlice T x y,ty,pos,es,g⟩).run P w=.ok (.value (.slice (some ⟨w.heap.size,0,none⟩) len len)) (w.alloc (.cells (madeCells zs.toArray (len*sz)) E)):=by
  simp only[execOp,hx,hy,Sem.run_bind,hrun,Result.andThen_ok,Int.toNat_natCast]
  rfl
 have hrows:=made_rows hT.n.1 hT.n.2 len
 have hfin:=hk ⟨w.heap.size,0,none⟩ (w.alloc (.cells (madeCells zs.toArray (len*sz)) E)) (hw.add (bs:=[w.heap.size]) ⟨rfl,rfl,rfl,(by first|exact Nat.le_refl _|exact Nat.le_succ _),by simp⟩ (by
  unfold Res.own;refine⟨fun r hr=>by rw[List.eq_of_mem_replicate hr];exact hT.n.1,_,_,_,rfl,(by simp),Nat.le_refl _,by simp[maxLen];omega,.inr ⟨w.heap.size,madeCells zs.toArray (len*sz),rfl,rfl,heap_alloc_new w _,size_madeCells _ _,?_⟩⟩
  rw[hrows,List.take_of_length_le];rw[←hrows,Array.length_toList,size_madeCells];exact Nat.le_refl _) (by simp) (by simp) fun k hk=>heap_alloc_old w _ hk)
 unfold Step;rw[hr0];exact hfin
theorem lMakeSlice{E by' len sz:Nat}{zs:List Value}[hT:TL P T E sz by' zs](h:∀a w',Wd Γ (.own (.slice (some a) len len) E sz (List.replicate len zs)::S) w'→L P n opa QQ rest (putO ρ d (.slice (some a) len len)) w')
  (hw:Wd Γ S w:=by exact hw) (hx:ev ρ x=.int .i64 (len:Nat):=by exact rfl) (hy:ev ρ y=.int .i64 (len:Nat):=by exact rfl) (hb:(by':Int)*len≤281474976710656:=by omega) (h63:(len:Int)≤9223372036854775807:=by omega) (hd:okDst n d=true:=by exact rfl) :
  L P n opa QQ (⟨d,.makeSlice T x y,ty,pos,es,none⟩::rest) ρ w:=L_step rfl hd (s_makeSlice hw hx hy hb h63 h)
end
end Mk
end
section
open Go Mk
namespace Go.Proofs.YthgighljhoneeaaGreat
set_option maxHeartbeats 16000000
attribute [local irreducible] Calls
instance pg_SameInts{Γ:Gho}{v v2:Value}{xs ys:List Int}[hr:SlC Γ v 1 (intRows xs)][hr2:SlC Γ v2 1 (intRows ys)]:PG Tryz.prog Γ 21 [v,v2] (.bool (decide (xs=ys))):=⟨fun S w hw=>by
 have hr:=hr.h
 have hr2:=hr2.h
 obtain⟨a,n,c,rfl,hn,hnc,hc⟩:=hr.shape;obtain⟨a',n',c',rfl,hn',hnc',hc'⟩:=hr2.shape;simp only[intRows,List.length_map]at hn hn'
 refine calls_of_W Tryz.func21 rfl rfl ?_
 refine byG ?_;refine W_cond rfl (fun h=>?_) (fun h=>?_)
 ·have h:n≠n':=by simp at h;omega
  refine byG ?_;exact⟨_,rfl,ret_b rfl (decide_eq_false fun e=>h (by rw[hn,hn',e])).symm,hw⟩
 have h:n=n':=by simp at h;omega
 refine byG ?_;refine W_loop (fun μ ρ w=>∃(k:Nat),μ+k=n∧Has ρ [(0,.slice a n c),(1,.slice a' n' c'),(5,.int .i64 k)]∧(∀(i:Nat) (x y:Int),i<k→xs[i]? = some x→ys[i]? = some y→x=y)∧Wd Γ S w) n ⟨0,by omega,⟨rfl,rfl,rfl,trivial⟩,fun i x y hi=>absurd hi (Nat.not_lt_zero i),hw⟩ ?_
 clear hw;rintro μ ρ w ⟨k,hk,hρ,hall,hw⟩
 rw[hρ.eq];refine byG ?_;refine W_cond rfl (fun h2=>?_) (fun h2=>?_)
 ·have hkn:k<n:=by simpa using h2
  obtain⟨x,hx⟩:=get_lt (l:=xs) (k:=k) (by omega)
  obtain⟨y,hy⟩:=get_lt (l:=ys) (k:=k) (by omega)
  refine byG ?_;refine W_quiet (by kernel_rfl) (by kernel_rfl) hw ?_
  refine byQ ?_;intro w hw;refine W_cond rfl (fun h3=>?_) (fun h3=>?_)
  ·have h3:x≠y:=of_decide_eq_true h3
   refine byG ?_;exact⟨_,rfl,ret_b rfl (decide_eq_false fun e=>h3 (by subst e;rw[hx]at hy;cases hy;rfl)).symm,hw⟩
  ·have h3:x=y:=Classical.not_not.1 (of_decide_eq_false h3)
   refine byG ?_;exact⟨μ-1,by omega,k+1,by omega,⟨rfl,rfl,rfl,trivial⟩,eq_step hall hx hy h3,hw⟩
 ·have hkn:¬k<n:=by simpa using h2
  refine byG ?_;exact⟨_,rfl,ret_b rfl (decide_eq_true (eq_of_all (by omega) (by omega) hall)).symm,hw⟩⟩
end Go.Proofs.YthgighljhoneeaaGreat
end
section
open Go
namespace Mk
attribute [local irreducible] Calls
theorem wd_kept{Γ:Gho}{S:List Res}{w w':World}(h:Wd Γ S w)(h':Wd (allG w) [] w'):Wd Γ S w':=by
 obtain⟨h1,h2,h3,h4,h5,bss,h6,h7,h8⟩:=h;obtain⟨k1,k2,k3,k4,k5,-⟩:=h';have hk:∀b∈bss.flatten,w'.heap[b]? = w.heap[b]?:=fun b hb=>by
  have hl:=(h8 b hb).1
  have e:w.heap[b]? = some w.heap[b]:=Array.getElem?_eq_getElem hl
  rw[e];exact k5 b _ e
 refine⟨k1.trans h1,k2.trans h2,k3.trans h3,Nat.le_trans h4 k4,fun b o hb=>k5 b o (h5 b o hb),bss,Holds.loc (fun b o h=>h) S bss (fun b hb=>hk b hb) h6,h7,fun b hb=>⟨?_,(h8 b hb).2⟩⟩
 have hl:=(h8 b hb).1
 have e:w.heap[b]? = some w.heap[b]:=Array.getElem?_eq_getElem hl
 have:=hk b hb
 rw[e]at this;exact(Array.getElem?_eq_some_iff.1 this).1
theorem wd_less{Γ Γ':Gho}{w:World}(hle:Γ.le Γ')(h:Wd Γ' [] w):Wd Γ [] w:=by
 obtain⟨h1,h2,h3,h4,h5,-⟩:=h;exact⟨h1.trans hle.os,h2.trans hle.tape,h3.trans hle.out,by rw[←hle.dr];exact h4,fun b o hb=>h5 b o (hle.imm b o hb),[],trivial,by simp,by simp⟩
section
variable {P:Program}{n:Nat}{ops:List Oper}{Γ:Gho}{K:List Res}{wr tc stab:List (List Nat)}{Q:Fr→World→Prop}{i:Nat}{rest:List Oper}{ρ:Fr}{M:Nat→Fr→List Res}
variable {d:Option Tmp}{op:Op}{ty:TypeId}{pos:String}{es:Array Edge}{j dj:Nat}{want:Bool}
end
section
variable {P:Program}{n:Nat}{ops:List Oper}{Γ:Gho}{K:List Res}{wr tc stab:List (List Nat)}{Q:Fr→World→Prop}{i:Nat}{rest:List Oper}{ρ:Fr}{M:Nat→Fr→List Res}
variable {d:Option Tmp}{ty:TypeId}{pos:String}{es:Array Edge}{f:Nat}{args:List Operand}{tys:Array TypeId}
theorem mCallG{c:Nat}{F:Fr→List Res}(F':Fr→List Res)(vs:Fr→List Value)[FnOk P f]
  (hs:∀g w Y,Wd Γ (F (ovr (stab.getD c []) g noFr)++(K++Y)) w→Calls P f (vs (ovr (stab.getD c []) g noFr)).toArray w fun e w'=>∃u,e=.returned u∧Wd Γ (F' (ovr (stab.getD c []) (putO g d u) noFr)++(K++Y)) w')
  (h:MSw (mV P n ops Γ K wr tc stab) Q (i+1) rest ⟨putO ρ d undef,setC M c F'⟩) (hM:M c=F:=by first|exact setC_self|exact ml1|exact ml2|exact((setC_other (by decide)).trans setC_self)|exact rfl) (hw0:wr.getD i []=[c]:=by exact rfl) (ht:tc.getD i []=[c]:=by exact rfl) (hfr:freeD stab d=true:=by exact rfl) (ha:∀g,EvL (ovr stab.flatten g ρ) args (vs (ovr (stab.getD c []) g noFr)):=by intro g;exact byEV) :
  MSw (mV P n ops Γ K wr tc stab) Q i (⟨d,.call { callee:=.value (.func f),args:=args.toArray,argTypes:=tys },ty,pos,es,none⟩::rest) ⟨ρ,M⟩:=
 mS (v:=undef) F' (fun g w Y hw=>s_call (ha g).eqA ((hs g w Y hw).mono fun e w' ⟨u,h1,h2⟩=>⟨u,h1,fun hh=>(by rw[hfr]at hh;cases hh),h2⟩)) h hM hw0 ht rfl
end
end Mk
end
section
open Go Mk
namespace Go.Proofs.YthgighljhoneeaaGreat
set_option maxHeartbeats 16000000
attribute [local irreducible] Calls
theorem dropG{α:Type}{l:List α}{k:Nat}{x:α}(h:l[k]? = some x):l.drop k=x::l.drop (k+1):=by
 obtain⟨hk,rfl⟩:=List.getElem?_eq_some_iff.1 h
 exact List.drop_eq_getElem_cons hk
theorem allD{α:Type}{p:α→Bool}{l:List α}{k:Nat}{x:α}(h:l[k]? = some x):(l.drop k).all p=(p x&&(l.drop (k+1)).all p):=by rw[dropG h,List.all_cons]
theorem allE{α:Type}{p:α→Bool}{l:List α}{k:Nat}(h:l.length≤k):(l.drop k).all p=true:=by rw[List.drop_eq_nil_of_le h];rfl
theorem SB_of{s:ByteArray}(h:s.size≤maxS):SB s:=⟨h⟩
def inB(v lo hi:Int):Bool:=decide (lo≤v)&&decide (v≤hi)
instance pc_in(v lo hi:Int):PC Tryz.prog 163 [.int .i64 v,.int .i64 lo,.int .i64 hi] (.bool (inB v lo hi)):=⟨fun w=>by
 refine calls_of_W Tryz.func163 rfl rfl ?_
 refine byG ?_;exact⟨_,rfl,rfl,rfl⟩⟩
instance pc_node(v:Int):PC Tryz.prog 164 [.int .i64 v] (.bool (inB v 0 63)):=⟨fun w=>by
 refine calls_of_W Tryz.func164 rfl rfl ?_
 refine byG ?_;exact⟨_,rfl,rfl,rfl⟩⟩
instance pc_span(b s:Int):PC Tryz.prog 166 [.int .u64 b,.int .u64 s] (.bool (inSpaceB b s)):=⟨fun w=>by
 refine calls_of_W Tryz.func166 rfl rfl ?_
 refine byG ?_;exact⟨_,rfl,rfl,rfl⟩⟩
def powB(v:Int):Bool:=decide (0<v)&&decide (bitsZ .and .u64 v (IntKind.u64.wrap (v-1))=0)
instance pc_power(v:Int):PC Tryz.prog 165 [.int .u64 v] (.bool (powB v)):=⟨fun w=>by
 refine calls_of_W Tryz.func165 rfl rfl ?_
 refine byG ?_;exact⟨_,rfl,rfl,rfl⟩⟩
instance pc_plainR(b:UInt8):PC Tryz.prog 173 [.int .u8 ((b.toNat:Nat):Int)] (.bool (inTextC b)):=⟨fun w=>by
 refine calls_of_W Tryz.func173 rfl rfl ?_
 refine byG ?_;refine⟨_,rfl,ret_b rfl ?_,rfl⟩
 unfold inTextC;rw[Bool.eq_iff_iff];simp only[Bool.and_eq_true,decide_eq_true_eq,Bool.not_eq_true',Bool.or_eq_false_iff,decide_eq_false_iff_not]
 omega⟩
theorem bytesG{s:ByteArray}{k:Nat}(hk:k<s.size):(s.data.toList)[k]? = some (s.data.toList.getD k 0):=by
 have hk':k<s.data.toList.length:=by rw[size_toList];exact hk
 rw[List.getD_eq_getElem?_getD,List.getElem?_eq_getElem hk'];rfl
instance pc_PlainR(s:ByteArray)[hs:SB s]:PC Tryz.prog 161 [.string s] (.bool (textB s)):=⟨fun w=>by
 have hs:=hs.h
 refine calls_of_W Tryz.func161 rfl rfl ?_
 refine byG ?_;refine W_loop (fun μ ρ w'=>∃(k:Nat),μ+k=s.size∧Has ρ [(0,.string s),(3,.int .i64 k)]∧textB s=(s.data.toList.drop k).all inTextC∧w'=w) s.size ⟨0,by omega,⟨rfl,rfl,trivial⟩,rfl,rfl⟩ ?_
 rintro μ ρ w' ⟨k,hk,hρ,hal,rfl⟩
 rw[hρ.eq];refine byG ?_;refine W_cond rfl (fun h=>?_) (fun h=>?_)
 ·have hkn:k<s.size:=by have:=of_decide_eq_true h;omega
  have hb:=bytesG hkn
  rw[allD hb]at hal;refine byG ?_;refine W_cond rfl (fun h=>?_) (fun h=>?_)
  ·have h:(!inTextC (s.data.toList.getD k 0))=true:=h
   rw[Bool.not_eq_true']at h;refine byG ?_;refine⟨_,rfl,ret_b rfl ?_,rfl⟩
   rw[hal,h];rfl
  ·have h:(!inTextC (s.data.toList.getD k 0))=false:=h
   rw[Bool.not_eq_false']at h;rw[h,Bool.true_and]at hal;refine byG ?_;exact⟨μ-1,by omega,k+1,by omega,⟨rfl,rfl,trivial⟩,hal,rfl⟩
 ·have hkn:s.size≤k:=by have:=of_decide_eq_false h;omega
  rw[allE (by rw[size_toList];exact hkn)]at hal
  refine byG ?_;exact⟨_,rfl,ret_b rfl hal.symm,rfl⟩⟩
theorem notF{a:Bool}(h:(!a)=true):a=false:=by rwa [Bool.not_eq_true']at h
theorem notT{a:Bool}(h:(!a)=false):a=true:=by rwa [Bool.not_eq_false']at h
theorem names_any{Γ:Gho}{u:Value}{H:HwT}[hh:HwR Γ u H]{S:List Res}{w:World}(hw:Wd Γ S w) :
  Calls Tryz.prog 147 #[u] w fun e w'=>e=.returned (.bool (namesB H))∧Wd Γ S w':=by
 obtain⟨a1,n1,c1,a2,n2,c2,a3,n3,c3,a4,n4,c4,a5,n5,c5,cs,rfl,hcs,hok,hsz,r1,r2,r3,r4,r5⟩:=hh.h;obtain⟨f1,f1',f1''⟩:=rep_facts r1
 obtain⟨f2,f2',f2''⟩:=rep_facts r2
 obtain⟨f3,f3',f3''⟩:=rep_facts r3
 obtain⟨f4,f4',f4''⟩:=rep_facts r4
 obtain⟨f5,f5',f5''⟩:=rep_facts r5
 simp only[List.length_map]at f1 f2 f3 f4 f5
 have hcl:cs.length=H.Caches.length:=by rw[←hcs,List.length_map]
 haveI:SB H.Name:=SB_of hsz.1
 refine calls_of_W Tryz.func147 rfl rfl ?_
 refine byG ?_;refine lBox ?_;intro b1 w hw;have hw:Wd Γ (.blk b1 (hwC H a1 n1 c1 a2 n2 c2 a3 n3 c3 a4 n4 c4 a5 n5 c5)::S) w:=hw
 refine byG ?_;have hN:namesB H=(headB H&&(H.Caches.all (fun c=>nameS c.Name)&&(H.Mems.all (fun c=>nameS c.Name)&&H.Devs.all (fun c=>nameS c.Name)))):=by unfold namesB;simp only[Bool.and_assoc]
 rw[hN];refine W_cond rfl (fun h=>?_) (fun h=>?_)
 ·have h:((decide (H.Name=⟨#[]⟩)||decide ((24:Int)<(H.Name.size:Nat))) || !textB H.Name)=true:=h
  refine byG ?_;refine⟨_,rfl,ret_b rfl ?_,hw.drop⟩
  have:headB H=false:=by
   unfold headB;simp only[Bool.or_eq_true,decide_eq_true_eq,Bool.not_eq_true']at h
   rcases h with (h|h)|h
   ·rw[decide_eq_false (show ¬H.Name≠⟨#[]⟩ from fun q=>q h)];rfl
   ·rw[decide_eq_false (show ¬H.Name.size≤24 by omega),Bool.and_false];rfl
   ·rw[h,Bool.and_false]
  rw[this];rfl
 have h:((decide (H.Name=⟨#[]⟩)||decide ((24:Int)<(H.Name.size:Nat))) || !textB H.Name)=false:=h
 have hHd:headB H=true:=by
  unfold headB;simp only[Bool.or_eq_false_iff,decide_eq_false_iff_not,Bool.not_eq_false']at h
  rw[decide_eq_true (show H.Name≠⟨#[]⟩ from h.1.1),decide_eq_true (show H.Name.size≤24 by omega),h.2];rfl
 rw[hHd,Bool.true_and];clear h hN;refine byG ?_;refine W_loop (fun μ ρ w=>∃(k:Nat),μ+k=n2∧Has ρ [(1,.pointer (some ⟨b1,0,none⟩)),(3,.int .i64 k)]∧H.Caches.all (fun c=>nameS c.Name)=(H.Caches.drop k).all (fun c=>nameS c.Name)∧Wd Γ (.blk b1 (hwC H a1 n1 c1 a2 n2 c2 a3 n3 c3 a4 n4 c4 a5 n5 c5)::S) w) n2 ⟨0,by omega,⟨rfl,rfl,trivial⟩,rfl,hw⟩ ?_
 clear hw;rintro μ ρ w ⟨k,hk,hρ,hal,hw⟩
 rw[hρ.eq];refine byG ?_;refine W_cond rfl (fun h=>?_) (fun h=>?_)
 ·have hkn:k<n2:=by have:=of_decide_eq_true h;omega
  clear h;obtain⟨x,hx⟩:=get_lt (l:=cs) (k:=k) (by omega)
  obtain⟨g1,g2,g3⟩:=(hok x (List.mem_of_getElem? hx)).facts
  have hxT:H.Caches[k]? = some x.T:=by rw[←hcs,List.getElem?_map,hx];rfl
  rw[allD hxT]at hal;haveI:SB x.Name:=SB_of (hsz.2.1 x.T (List.mem_of_getElem? hxT))
  refine byG ?_;refine W_cond rfl (fun h=>?_) (fun h=>?_)
  ·have hz:nameS x.Name=false:=notF h
   refine byG ?_;refine⟨_,rfl,ret_b rfl ?_,hw.drop⟩
   rw[show H.Caches.all (fun c=>nameS c.Name)=(nameS x.Name&&(H.Caches.drop (k+1)).all (fun c=>nameS c.Name)) from hal,hz];rfl
  ·have hz:nameS x.Name=true:=notT h
   have hal:H.Caches.all (fun c=>nameS c.Name)=(nameS x.Name&&(H.Caches.drop (k+1)).all (fun c=>nameS c.Name)):=hal
   rw[hz,Bool.true_and]at hal;refine byG ?_;exact⟨μ-1,by omega,k+1,by omega,⟨rfl,rfl,trivial⟩,hal,hw⟩
 have hkn:n2≤k:=by have:=of_decide_eq_false h;omega
 clear h;rw[allE (by omega)]at hal
 rw[hal,Bool.true_and];clear hk hρ;refine byG ?_;refine W_loop (fun μ ρ w=>∃(k:Nat),μ+k=n4∧Has ρ [(1,.pointer (some ⟨b1,0,none⟩)),(4,.int .i64 k)]∧H.Mems.all (fun c=>nameS c.Name)=(H.Mems.drop k).all (fun c=>nameS c.Name)∧Wd Γ (.blk b1 (hwC H a1 n1 c1 a2 n2 c2 a3 n3 c3 a4 n4 c4 a5 n5 c5)::S) w) n4 ⟨0,by omega,⟨rfl,rfl,trivial⟩,rfl,hw⟩ ?_
 clear hw hal;rintro μ ρ w ⟨k,hk,hρ,hal,hw⟩
 rw[hρ.eq];refine byG ?_;refine W_cond rfl (fun h=>?_) (fun h=>?_)
 ·have hkn:k<n4:=by have:=of_decide_eq_true h;omega
  clear h;obtain⟨x,hx⟩:=get_lt (l:=H.Mems) (k:=k) (by omega)
  rw[allD hx]at hal;haveI:SB x.Name:=SB_of (hsz.2.2.1 x (List.mem_of_getElem? hx))
  refine byG ?_;refine W_cond rfl (fun h=>?_) (fun h=>?_)
  ·have hz:nameS x.Name=false:=notF h
   refine byG ?_;refine⟨_,rfl,ret_b rfl ?_,hw.drop⟩
   rw[hal,hz];rfl
  ·have hz:nameS x.Name=true:=notT h
   skip
   rw[hz,Bool.true_and]at hal;refine byG ?_;exact⟨μ-1,by omega,k+1,by omega,⟨rfl,rfl,trivial⟩,hal,hw⟩
 have hkn:n4≤k:=by have:=of_decide_eq_false h;omega
 clear h;rw[allE (by omega)]at hal
 rw[hal,Bool.true_and];clear hk hρ;refine byG ?_;refine W_loop (fun μ ρ w=>∃(k:Nat),μ+k=n5∧Has ρ [(1,.pointer (some ⟨b1,0,none⟩)),(5,.int .i64 k)]∧H.Devs.all (fun c=>nameS c.Name)=(H.Devs.drop k).all (fun c=>nameS c.Name)∧Wd Γ (.blk b1 (hwC H a1 n1 c1 a2 n2 c2 a3 n3 c3 a4 n4 c4 a5 n5 c5)::S) w) n5 ⟨0,by omega,⟨rfl,rfl,trivial⟩,rfl,hw⟩ ?_
 clear hw hal;rintro μ ρ w ⟨k,hk,hρ,hal,hw⟩
 rw[hρ.eq];refine byG ?_;refine W_cond rfl (fun h=>?_) (fun h=>?_)
 ·have hkn:k<n5:=by have:=of_decide_eq_true h;omega
  clear h;obtain⟨x,hx⟩:=get_lt (l:=H.Devs) (k:=k) (by omega)
  rw[allD hx]at hal;haveI:SB x.Name:=SB_of (hsz.2.2.2 x (List.mem_of_getElem? hx))
  refine byG ?_;refine W_cond rfl (fun h=>?_) (fun h=>?_)
  ·have hz:nameS x.Name=false:=notF h
   refine byG ?_;refine⟨_,rfl,ret_b rfl ?_,hw.drop⟩
   rw[hal,hz];rfl
  ·have hz:nameS x.Name=true:=notT h
   skip
   rw[hz,Bool.true_and]at hal;refine byG ?_;exact⟨μ-1,by omega,k+1,by omega,⟨rfl,rfl,trivial⟩,hal,hw⟩
 have hkn:n5≤k:=by have:=of_decide_eq_false h;omega
 clear h;rw[allE (by omega)]at hal
 rw[hal];clear hk hρ;refine byG ?_;exact⟨_,rfl,rfl,hw.drop⟩
def coreBad(c:CoreT):Bool:=((!inB c.ID 0 31||(decide (c.Width≠32)&&decide (c.Width≠39))) || !inB c.Node 0 63) || !inB c.Speed 1 1000000
def cacheBad(lv ln sz:Int)(n:Nat):Bool:=((((!inB lv 1 4 || !inB ln 16 256) || !powB (IntKind.u64.wrap ln))||decide (sz<IntKind.u64.wrap ln))||decide (sz > 1099511627776))||decide ((n:Int)=0)
def linkBad(c:LinkT):Bool:=((!inB c.A 0 63 || !inB c.B 0 63)||decide (c.A=c.B)) || !inB c.Latency 1 1000000
def memBad(c:MemT):Bool:=(!inB c.Node 0 63 || !inB c.Latency 1 1000000) || !inSpaceB c.Base c.Size
def devBad(c:DevT):Bool:=(!inB c.Node 0 63 || !inB c.IRQ 0 255) || !inSpaceB c.Base c.Size
theorem core_bad(c:CoreT):coreRB c = !coreBad c:=by
 unfold coreRB coreBad inB isNodeB;rw[Bool.eq_iff_iff];simp only[Bool.and_eq_true,Bool.or_eq_true,decide_eq_true_eq,Bool.not_eq_true',Bool.or_eq_false_iff,Bool.not_eq_false',Bool.and_eq_false_iff,decide_eq_false_iff_not]
 omega
theorem link_bad(c:LinkT):linkRB c = !linkBad c:=by
 unfold linkRB linkBad inB isNodeB isLatB;rw[Bool.eq_iff_iff];simp only[Bool.and_eq_true,Bool.or_eq_true,decide_eq_true_eq,Bool.not_eq_true',Bool.or_eq_false_iff,Bool.not_eq_false',Bool.and_eq_false_iff,decide_eq_false_iff_not]
 omega
theorem mem_bad(c:MemT):memRB c = !memBad c:=by
 unfold memRB memBad inB isNodeB isLatB;generalize inSpaceB c.Base c.Size=q
 rw[Bool.eq_iff_iff];simp only[Bool.and_eq_true,Bool.or_eq_true,decide_eq_true_eq,Bool.not_eq_true',Bool.or_eq_false_iff,Bool.not_eq_false',Bool.and_eq_false_iff,decide_eq_false_iff_not]
 exact and_congr (by omega) Iff.rfl
theorem dev_bad(c:DevT):devRB c = !devBad c:=by
 unfold devRB devBad inB isNodeB;generalize inSpaceB c.Base c.Size=q
 rw[Bool.eq_iff_iff];simp only[Bool.and_eq_true,Bool.or_eq_true,decide_eq_true_eq,Bool.not_eq_true',Bool.or_eq_false_iff,Bool.not_eq_false',Bool.and_eq_false_iff,decide_eq_false_iff_not]
 exact and_congr (by omega) Iff.rfl
theorem line_fin:∀n:Fin 257,decide (bitsZ .and .i64 (n.1:Int) (IntKind.i64.wrap ((n.1:Int)-1))=0)=decide (bitsZ .and .u64 (n.1:Int) (IntKind.u64.wrap ((n.1:Int)-1))=0)∨n.1=0:=by decide +kernel
theorem cache_bad(c:CacheT):cacheRB c = !cacheBad c.Level c.Line c.Size c.Cores.length:=by
 unfold cacheRB cacheBad;by_cases hl:16≤c.Line∧c.Line≤256
 ·have hw:IntKind.u64.wrap c.Line=c.Line:=by rw[IntKind.wrap_u64];omega
  have hb:decide (bitsZ .and .i64 c.Line (IntKind.i64.wrap (c.Line-1))=0)=powB c.Line:=by
   unfold powB;have:=line_fin ⟨c.Line.toNat,by omega⟩
   simp only[show ((c.Line.toNat:Nat):Int)=c.Line by omega]at this
   rw[decide_eq_true (show 0<c.Line by omega),Bool.true_and]
   exact this.resolve_right (by omega)
  rw[hw,hb];generalize powB c.Line=q
  unfold inB;rw[Bool.eq_iff_iff];simp only[Bool.and_eq_true,Bool.or_eq_true,decide_eq_true_eq,Bool.not_eq_true',Bool.or_eq_false_iff,Bool.not_eq_false',Bool.and_eq_false_iff,decide_eq_false_iff_not]
  rcases Bool.eq_false_or_eq_true q with hq|hq
  ·simp only[hq,and_true];omega
  ·simp[hq]
 ·have h1:(decide (16≤c.Line)&&decide (c.Line≤256))=false:=by
   rw[Bool.and_eq_false_iff,decide_eq_false_iff_not,decide_eq_false_iff_not];omega
  have h2:inB c.Line 16 256=false:=h1
  rw[h2,Bool.not_false,Bool.or_true,Bool.true_or,Bool.true_or,Bool.true_or,Bool.true_or,Bool.not_true];rw[Bool.and_eq_false_iff]at h1;rcases h1 with h1|h1 <;> simp only[h1,Bool.and_false,Bool.false_and]
theorem bad_no{p q:Bool}(h:p = !q)(hq:q=true):p=false:=by rw[h,hq];rfl
theorem bad_ok{p q:Bool}(h:p = !q)(hq:q=false):p=true:=by rw[h,hq];rfl
theorem ranges_any{Γ:Gho}{u:Value}{H:HwT}[hh:HwR Γ u H]{S:List Res}{w:World}(hw:Wd Γ S w) :
  Calls Tryz.prog 148 #[u] w fun e w'=>e=.returned (.bool (coresRB H&&regionsRB H))∧Wd Γ S w':=by
 obtain⟨a1,n1,c1,a2,n2,c2,a3,n3,c3,a4,n4,c4,a5,n5,c5,cs,rfl,hcs,hok,hsz,r1,r2,r3,r4,r5⟩:=hh.h;obtain⟨f1,f1',f1''⟩:=rep_facts r1
 obtain⟨f2,f2',f2''⟩:=rep_facts r2
 obtain⟨f3,f3',f3''⟩:=rep_facts r3
 obtain⟨f4,f4',f4''⟩:=rep_facts r4
 obtain⟨f5,f5',f5''⟩:=rep_facts r5
 simp only[List.length_map]at f1 f2 f3 f4 f5
 have hcl:cs.length=H.Caches.length:=by rw[←hcs,List.length_map]
 have hN:(coresRB H&&regionsRB H)=(H.Cores.all coreRB&&(H.Caches.all cacheRB&&(H.Links.all linkRB&&(H.Mems.all memRB&&H.Devs.all devRB)))):=by unfold coresRB regionsRB;simp only[Bool.and_assoc]
 rw[hN];clear hN;refine calls_of_W Tryz.func148 rfl rfl ?_
 refine byG ?_;refine lBox ?_;intro b1 w hw;have hw:Wd Γ (.blk b1 (hwC H a1 n1 c1 a2 n2 c2 a3 n3 c3 a4 n4 c4 a5 n5 c5)::S) w:=hw
 refine byG ?_;refine W_loop (fun μ ρ w=>∃(k:Nat),μ+k=n1∧Has ρ [(1,.pointer (some ⟨b1,0,none⟩)),(3,.int .i64 k)]∧H.Cores.all (coreRB)=(H.Cores.drop k).all (coreRB)∧Wd Γ (.blk b1 (hwC H a1 n1 c1 a2 n2 c2 a3 n3 c3 a4 n4 c4 a5 n5 c5)::S) w) n1 ⟨0,by omega,⟨rfl,rfl,trivial⟩,rfl,hw⟩ ?_
 clear hw;rintro μ ρ w ⟨k,hk,hρ,hal,hw⟩
 rw[hρ.eq];refine byG ?_;refine W_cond rfl (fun h=>?_) (fun h=>?_)
 ·have hkn:k<n1:=by have:=of_decide_eq_true h;omega
  clear h;obtain⟨x,hx⟩:=get_lt (l:=H.Cores) (k:=k) (by omega)
  rw[allD hx]at hal;refine byG ?_;refine lAlloc ?_;intro b6 w hw;refine lStore ?_;intro w hw;have hw:Wd Γ (.blk b6 (.cells (enc x).toArray 69)::.blk b1 (hwC H a1 n1 c1 a2 n2 c2 a3 n3 c3 a4 n4 c4 a5 n5 c5)::S) w:=hw
  refine byG ?_;refine W_cond rfl (fun h=>?_) (fun h=>?_)
  ·have hz:coreRB x=false:=bad_no (core_bad x) (show coreBad x=true from h)
   refine byG ?_;refine⟨_,rfl,ret_b rfl ?_,hw.ds [0,0]⟩
   rw[hal,hz];rfl
  ·have hz:coreRB x=true:=bad_ok (core_bad x) (show coreBad x=false from h)
   rw[hz,Bool.true_and]at hal;refine byG ?_;exact⟨μ-1,by omega,k+1,by omega,⟨rfl,rfl,trivial⟩,hal,hw.drop⟩
 have hkn:n1≤k:=by have:=of_decide_eq_false h;omega
 clear h;rw[allE (by omega)]at hal
 rw[hal,Bool.true_and];clear hk hρ;refine byG ?_;refine W_loop (fun μ ρ w=>∃(k:Nat),μ+k=n2∧Has ρ [(1,.pointer (some ⟨b1,0,none⟩)),(5,.int .i64 k)]∧H.Caches.all (cacheRB)=(H.Caches.drop k).all (cacheRB)∧Wd Γ (.blk b1 (hwC H a1 n1 c1 a2 n2 c2 a3 n3 c3 a4 n4 c4 a5 n5 c5)::S) w) n2 ⟨0,by omega,⟨rfl,rfl,trivial⟩,rfl,hw⟩ ?_
 clear hw hal;rintro μ ρ w ⟨k,hk,hρ,hal,hw⟩
 rw[hρ.eq];refine byG ?_;refine W_cond rfl (fun h=>?_) (fun h=>?_)
 ·have hkn:k<n2:=by have:=of_decide_eq_true h;omega
  clear h;obtain⟨x,hx⟩:=get_lt (l:=cs) (k:=k) (by omega)
  obtain⟨g1,g2,g3⟩:=(hok x (List.mem_of_getElem? hx)).facts
  have hxT:H.Caches[k]? = some x.T:=by rw[←hcs,List.getElem?_map,hx];rfl
  rw[allD hxT]at hal;refine byG ?_;refine lAlloc ?_;intro b6 w hw;refine lStore ?_;intro w hw;have hw:Wd Γ (.blk b6 (.cells (cC x).toArray 125)::.blk b1 (hwC H a1 n1 c1 a2 n2 c2 a3 n3 c3 a4 n4 c4 a5 n5 c5)::S) w:=hw
  refine byG ?_;refine W_cond rfl (fun h=>?_) (fun h=>?_)
  ·have hz:cacheRB x.T=false:=bad_no (by have:=cache_bad x.T;rw[show x.T.Cores.length=x.N from g1.symm]at this;exact this) (show cacheBad x.Level x.Line x.Size x.N=true from h)
   refine byG ?_;refine⟨_,rfl,ret_b rfl ?_,hw.ds [0,0]⟩
   rw[hal,hz];rfl
  ·have hz:cacheRB x.T=true:=bad_ok (by have:=cache_bad x.T;rw[show x.T.Cores.length=x.N from g1.symm]at this;exact this) (show cacheBad x.Level x.Line x.Size x.N=false from h)
   rw[hz,Bool.true_and]at hal;refine byG ?_;exact⟨μ-1,by omega,k+1,by omega,⟨rfl,rfl,trivial⟩,hal,hw.drop⟩
 have hkn:n2≤k:=by have:=of_decide_eq_false h;omega
 clear h;rw[allE (by omega)]at hal
 rw[hal,Bool.true_and];clear hk hρ;refine byG ?_;refine W_loop (fun μ ρ w=>∃(k:Nat),μ+k=n3∧Has ρ [(1,.pointer (some ⟨b1,0,none⟩)),(7,.int .i64 k)]∧H.Links.all (linkRB)=(H.Links.drop k).all (linkRB)∧Wd Γ (.blk b1 (hwC H a1 n1 c1 a2 n2 c2 a3 n3 c3 a4 n4 c4 a5 n5 c5)::S) w) n3 ⟨0,by omega,⟨rfl,rfl,trivial⟩,rfl,hw⟩ ?_
 clear hw hal;rintro μ ρ w ⟨k,hk,hρ,hal,hw⟩
 rw[hρ.eq];refine byG ?_;refine W_cond rfl (fun h=>?_) (fun h=>?_)
 ·have hkn:k<n3:=by have:=of_decide_eq_true h;omega
  clear h;obtain⟨x,hx⟩:=get_lt (l:=H.Links) (k:=k) (by omega)
  rw[allD hx]at hal;refine byG ?_;refine lAlloc ?_;intro b6 w hw;refine lStore ?_;intro w hw;have hw:Wd Γ (.blk b6 (.cells (enc x).toArray 120)::.blk b1 (hwC H a1 n1 c1 a2 n2 c2 a3 n3 c3 a4 n4 c4 a5 n5 c5)::S) w:=hw
  refine byG ?_;refine W_cond rfl (fun h=>?_) (fun h=>?_)
  ·have hz:linkRB x=false:=bad_no (link_bad x) (show linkBad x=true from h)
   refine byG ?_;refine⟨_,rfl,ret_b rfl ?_,hw.ds [0,0]⟩
   rw[hal,hz];rfl
  ·have hz:linkRB x=true:=bad_ok (link_bad x) (show linkBad x=false from h)
   rw[hz,Bool.true_and]at hal;refine byG ?_;exact⟨μ-1,by omega,k+1,by omega,⟨rfl,rfl,trivial⟩,hal,hw.drop⟩
 have hkn:n3≤k:=by have:=of_decide_eq_false h;omega
 clear h;rw[allE (by omega)]at hal
 rw[hal,Bool.true_and];clear hk hρ;refine byG ?_;refine W_loop (fun μ ρ w=>∃(k:Nat),μ+k=n4∧Has ρ [(1,.pointer (some ⟨b1,0,none⟩)),(9,.int .i64 k)]∧H.Mems.all (memRB)=(H.Mems.drop k).all (memRB)∧Wd Γ (.blk b1 (hwC H a1 n1 c1 a2 n2 c2 a3 n3 c3 a4 n4 c4 a5 n5 c5)::S) w) n4 ⟨0,by omega,⟨rfl,rfl,trivial⟩,rfl,hw⟩ ?_
 clear hw hal;rintro μ ρ w ⟨k,hk,hρ,hal,hw⟩
 rw[hρ.eq];refine byG ?_;refine W_cond rfl (fun h=>?_) (fun h=>?_)
 ·have hkn:k<n4:=by have:=of_decide_eq_true h;omega
  clear h;obtain⟨x,hx⟩:=get_lt (l:=H.Mems) (k:=k) (by omega)
  rw[allD hx]at hal;refine byG ?_;refine lAlloc ?_;intro b6 w hw;refine lStore ?_;intro w hw;have hw:Wd Γ (.blk b6 (.cells (enc x).toArray 123)::.blk b1 (hwC H a1 n1 c1 a2 n2 c2 a3 n3 c3 a4 n4 c4 a5 n5 c5)::S) w:=hw
  refine byG ?_;refine W_cond rfl (fun h=>?_) (fun h=>?_)
  ·have hz:memRB x=false:=bad_no (mem_bad x) (show memBad x=true from h)
   refine byG ?_;refine⟨_,rfl,ret_b rfl ?_,hw.ds [0,0]⟩
   rw[hal,hz];rfl
  ·have hz:memRB x=true:=bad_ok (mem_bad x) (show memBad x=false from h)
   rw[hz,Bool.true_and]at hal;refine byG ?_;exact⟨μ-1,by omega,k+1,by omega,⟨rfl,rfl,trivial⟩,hal,hw.drop⟩
 have hkn:n4≤k:=by have:=of_decide_eq_false h;omega
 clear h;rw[allE (by omega)]at hal
 rw[hal,Bool.true_and];clear hk hρ;refine byG ?_;refine W_loop (fun μ ρ w=>∃(k:Nat),μ+k=n5∧Has ρ [(1,.pointer (some ⟨b1,0,none⟩)),(11,.int .i64 k)]∧H.Devs.all (devRB)=(H.Devs.drop k).all (devRB)∧Wd Γ (.blk b1 (hwC H a1 n1 c1 a2 n2 c2 a3 n3 c3 a4 n4 c4 a5 n5 c5)::S) w) n5 ⟨0,by omega,⟨rfl,rfl,trivial⟩,rfl,hw⟩ ?_
 clear hw hal;rintro μ ρ w ⟨k,hk,hρ,hal,hw⟩
 rw[hρ.eq];refine byG ?_;refine W_cond rfl (fun h=>?_) (fun h=>?_)
 ·have hkn:k<n5:=by have:=of_decide_eq_true h;omega
  clear h;obtain⟨x,hx⟩:=get_lt (l:=H.Devs) (k:=k) (by omega)
  rw[allD hx]at hal;refine byG ?_;refine lAlloc ?_;intro b6 w hw;refine lStore ?_;intro w hw;have hw:Wd Γ (.blk b6 (.cells (enc x).toArray 72)::.blk b1 (hwC H a1 n1 c1 a2 n2 c2 a3 n3 c3 a4 n4 c4 a5 n5 c5)::S) w:=hw
  refine byG ?_;refine W_cond rfl (fun h=>?_) (fun h=>?_)
  ·have hz:devRB x=false:=bad_no (dev_bad x) (show devBad x=true from h)
   refine byG ?_;refine⟨_,rfl,ret_b rfl ?_,hw.ds [0,0]⟩
   rw[hal,hz];rfl
  ·have hz:devRB x=true:=bad_ok (dev_bad x) (show devBad x=false from h)
   rw[hz,Bool.true_and]at hal;refine byG ?_;exact⟨μ-1,by omega,k+1,by omega,⟨rfl,rfl,trivial⟩,hal,hw.drop⟩
 have hkn:n5≤k:=by have:=of_decide_eq_false h;omega
 clear h;rw[allE (by omega)]at hal
 rw[hal];clear hk hρ;refine byG ?_;exact⟨_,rfl,rfl,hw.drop⟩
def memAR(m:MemT):Bool:=powB m.Size&&decide (m.Base.tmod m.Size=0)
theorem aligned_any{Γ:Gho}{u:Value}{H:HwT}[hh:HwR Γ u H]{S:List Res}{w:World}(hw:Wd Γ S w) :
  Calls Tryz.prog 149 #[u] w fun e w'=>e=.returned (.bool (H.Mems.all memAR&&H.Devs.all devAB))∧Wd Γ S w':=by
 obtain⟨a1,n1,c1,a2,n2,c2,a3,n3,c3,a4,n4,c4,a5,n5,c5,cs,rfl,hcs,hok,hsz,r1,r2,r3,r4,r5⟩:=hh.h;obtain⟨f1,f1',f1''⟩:=rep_facts r1
 obtain⟨f2,f2',f2''⟩:=rep_facts r2
 obtain⟨f3,f3',f3''⟩:=rep_facts r3
 obtain⟨f4,f4',f4''⟩:=rep_facts r4
 obtain⟨f5,f5',f5''⟩:=rep_facts r5
 simp only[List.length_map]at f1 f2 f3 f4 f5
 have hcl:cs.length=H.Caches.length:=by rw[←hcs,List.length_map]
 refine calls_of_W Tryz.func149 rfl rfl ?_
 refine byG ?_;refine lBox ?_;intro b1 w hw;have hw:Wd Γ (.blk b1 (hwC H a1 n1 c1 a2 n2 c2 a3 n3 c3 a4 n4 c4 a5 n5 c5)::S) w:=hw
 refine byG ?_;refine W_loop (fun μ ρ w=>∃(k:Nat),μ+k=n4∧Has ρ [(1,.pointer (some ⟨b1,0,none⟩)),(3,.int .i64 k)]∧H.Mems.all (memAR)=(H.Mems.drop k).all (memAR)∧Wd Γ (.blk b1 (hwC H a1 n1 c1 a2 n2 c2 a3 n3 c3 a4 n4 c4 a5 n5 c5)::S) w) n4 ⟨0,by omega,⟨rfl,rfl,trivial⟩,rfl,hw⟩ ?_
 clear hw;rintro μ ρ w ⟨k,hk,hρ,hal,hw⟩
 rw[hρ.eq];refine byG ?_;refine W_cond rfl (fun h=>?_) (fun h=>?_)
 ·have hkn:k<n4:=by have:=of_decide_eq_true h;omega
  clear h;obtain⟨x,hx⟩:=get_lt (l:=H.Mems) (k:=k) (by omega)
  rw[allD hx]at hal;refine byG ?_;refine lAlloc ?_;intro b6 w hw;refine lStore ?_;intro w hw;have hw:Wd Γ (.blk b6 (.cells (enc x).toArray 123)::.blk b1 (hwC H a1 n1 c1 a2 n2 c2 a3 n3 c3 a4 n4 c4 a5 n5 c5)::S) w:=hw
  have hS:memAR x=(powB x.Size&&decide (x.Base.tmod x.Size=0)):=rfl
  have hPN:PC Tryz.prog 165 [.int .u64 x.Size] (.bool (powB x.Size)):=inferInstance
  cases h1:powB x.Size with
  | false=>
   rw[h1]at hPN;repeat(first|(first|refine W_seq ?_|refine W_block ?_|refine W_region ?_|refine W_skip ?_|refine W_ret ?_|refine W_exit ?_)|((first|apply L_bin|apply L_notop);first|(refine lT ?_ ?_;(first|exact rfl|exact decide_eq_true rfl|(simp;done)))|(refine lF ?_ ?_;(first|exact rfl|exact decide_eq_true rfl|(simp;done))))|(first|refine L_nil ?_|(apply L_plain;first|(apply L_go;first|refine lP ?_|(refine lPg ?_;intro w hw))|(apply L_mf;refine lMakeFunc ?_)|refine lY ?_)|(apply L_guarded;first|refine lGT ?_ (hct:=rfl)|refine lGF ?_ (hct:=rfl)|(apply L_go;first|refine lPG ?_|(refine lPgG ?_;intro w hw))|refine lG ?_))|(refine lAlloc ?_;intro _ w hw)|(refine lBox ?_;intro _ w hw)|(refine lStore ?_;intro w hw))
   refine W_cond_true rfl ?_
   refine byG ?_;refine⟨_,rfl,ret_b rfl ?_,hw.ds [0,0]⟩
   rw[hal,hS,h1];rfl
  | true=>
   rw[h1]at hPN;have hpos:0<x.Size:=by
    unfold powB at h1;rw[Bool.and_eq_true,decide_eq_true_eq]at h1;exact h1.1
   cases hb1:decide (x.Base.tmod x.Size≠0) with
   | true=>
    have h3:¬x.Base.tmod x.Size=0:=of_decide_eq_true hb1
    repeat(first|(first|refine W_seq ?_|refine W_block ?_|refine W_region ?_|refine W_skip ?_|refine W_ret ?_|refine W_exit ?_)|((first|apply L_bin|apply L_notop);first|(refine lT ?_ ?_;(first|exact hb1|exact hb2|exact hb3|exact hb4))|(refine lF ?_ ?_;(first|exact hb1|exact hb2|exact hb3|exact hb4)))|(first|refine L_nil ?_|(apply L_plain;first|(apply L_go;first|refine lP ?_|(refine lPg ?_;intro w hw))|(apply L_mf;refine lMakeFunc ?_)|refine lY ?_)|(apply L_guarded;first|refine lGT ?_ (hct:=rfl)|refine lGF ?_ (hct:=rfl)|(apply L_go;first|refine lPG ?_|(refine lPgG ?_;intro w hw))|refine lG ?_))|(refine lAlloc ?_;intro _ w hw)|(refine lBox ?_;intro _ w hw)|(refine lStore ?_;intro w hw))
    refine W_cond_true rfl ?_
    refine byG ?_;refine⟨_,rfl,ret_b rfl ?_,hw.ds [0,0]⟩
    rw[hal,hS,h1,decide_eq_false h3];rfl
   | false=>
    have h3:x.Base.tmod x.Size=0:=Classical.byContradiction fun q=>(of_decide_eq_false hb1) q
    rw[hS,h1,decide_eq_true h3]at hal;have hal:H.Mems.all memAR=(H.Mems.drop (k+1)).all memAR:=hal
    repeat(first|(first|refine W_seq ?_|refine W_block ?_|refine W_region ?_|refine W_skip ?_|refine W_ret ?_|refine W_exit ?_)|((first|apply L_bin|apply L_notop);first|(refine lT ?_ ?_;(first|exact hb1|exact hb2|exact hb3|exact hb4))|(refine lF ?_ ?_;(first|exact hb1|exact hb2|exact hb3|exact hb4)))|(first|refine L_nil ?_|(apply L_plain;first|(apply L_go;first|refine lP ?_|(refine lPg ?_;intro w hw))|(apply L_mf;refine lMakeFunc ?_)|refine lY ?_)|(apply L_guarded;first|refine lGT ?_ (hct:=rfl)|refine lGF ?_ (hct:=rfl)|(apply L_go;first|refine lPG ?_|(refine lPgG ?_;intro w hw))|refine lG ?_))|(refine lAlloc ?_;intro _ w hw)|(refine lBox ?_;intro _ w hw)|(refine lStore ?_;intro w hw))
    refine W_cond_false rfl ?_
    refine byG ?_;exact⟨μ-1,by omega,k+1,by omega,⟨rfl,rfl,trivial⟩,hal,hw.drop⟩
 have hkn:n4≤k:=by have:=of_decide_eq_false h;omega
 clear h;rw[allE (by omega)]at hal
 rw[hal,Bool.true_and];clear hk hρ;refine byG ?_;refine W_loop (fun μ ρ w=>∃(k:Nat),μ+k=n5∧Has ρ [(1,.pointer (some ⟨b1,0,none⟩)),(5,.int .i64 k)]∧H.Devs.all (devAB)=(H.Devs.drop k).all (devAB)∧Wd Γ (.blk b1 (hwC H a1 n1 c1 a2 n2 c2 a3 n3 c3 a4 n4 c4 a5 n5 c5)::S) w) n5 ⟨0,by omega,⟨rfl,rfl,trivial⟩,rfl,hw⟩ ?_
 clear hw hal;rintro μ ρ w ⟨k,hk,hρ,hal,hw⟩
 rw[hρ.eq];refine byG ?_;refine W_cond rfl (fun h=>?_) (fun h=>?_)
 ·have hkn:k<n5:=by have:=of_decide_eq_true h;omega
  clear h;obtain⟨x,hx⟩:=get_lt (l:=H.Devs) (k:=k) (by omega)
  rw[allD hx]at hal;refine byG ?_;refine lAlloc ?_;intro b6 w hw;refine lStore ?_;intro w hw;have hw:Wd Γ (.blk b6 (.cells (enc x).toArray 72)::.blk b1 (hwC H a1 n1 c1 a2 n2 c2 a3 n3 c3 a4 n4 c4 a5 n5 c5)::S) w:=hw
  refine byG ?_;refine W_cond rfl (fun h=>?_) (fun h=>?_)
  ·have h:(decide (x.Base.tmod 4096≠0)||decide (x.Size.tmod 4096≠0))=true:=h
   have hz:devAB x=false:=by
    unfold devAB;simp only[Bool.or_eq_true,decide_eq_true_eq]at h
    rw[Bool.and_eq_false_iff,decide_eq_false_iff_not,decide_eq_false_iff_not];exact h
   refine byG ?_;refine⟨_,rfl,ret_b rfl ?_,hw.ds [0,0]⟩
   rw[hal,hz];rfl
  ·have h:(decide (x.Base.tmod 4096≠0)||decide (x.Size.tmod 4096≠0))=false:=h
   have hz:devAB x=true:=by
    unfold devAB;simp only[Bool.or_eq_false_iff,decide_eq_false_iff_not,Decidable.not_not]at h
    rw[Bool.and_eq_true,decide_eq_true_eq,decide_eq_true_eq];exact h
   rw[hz,Bool.true_and]at hal;refine byG ?_;exact⟨μ-1,by omega,k+1,by omega,⟨rfl,rfl,trivial⟩,hal,hw.drop⟩
 have hkn:n5≤k:=by have:=of_decide_eq_false h;omega
 clear h;rw[allE (by omega)]at hal
 rw[hal];clear hk hρ;refine byG ?_;exact⟨_,rfl,rfl,hw.drop⟩
theorem pow_of_and:∀(n:Nat),0<n→n &&& (n-1)=0→∃e,n=2 ^ e:=by
 intro n;induction n using Nat.strongRecOn with
 | ind n ih=>
  intro h0 h;have h1:(n / 2) &&& ((n-1) / 2)=0:=by rw[←Nat.and_div_two,h]
  by_cases e:n%2=0
  ·have h2:(n-1) / 2=n / 2-1:=by omega
   rw[h2]at h1;obtain⟨e1,he⟩:=ih (n / 2) (by omega) (by omega) h1
   exact⟨e1+1,by rw[Nat.pow_succ,←he];omega⟩
  ·have h2:(n-1) / 2=n / 2:=by omega
   rw[h2,Nat.and_self]at h1;exact⟨0,by omega⟩
def u64I(n:Int):Prop:=0≤n∧n<18446744073709551616
theorem bitsU{a b:Int}(ha:u64I a)(hb:u64I b):bitsZ .and .u64 a b=((a.toNat &&& b.toNat:Nat):Int):=by
 unfold u64I at ha hb;have h1:(BitVec.ofInt 64 a).toNat=a.toNat:=by rw[BitVec.toNat_ofInt];omega
 have h2:(BitVec.ofInt 64 b).toNat=b.toNat:=by rw[BitVec.toNat_ofInt];omega
 have h3:(BitVec.ofInt 64 a &&& BitVec.ofInt 64 b).toNat=a.toNat &&& b.toNat:=by rw[BitVec.toNat_and,h1,h2]
 have h4:a.toNat &&& b.toNat≤a.toNat:=Nat.and_le_left
 show IntKind.u64.wrap ((BitVec.ofInt 64 a &&& BitVec.ofInt 64 b).toNat:Nat)=_
 rw[h3];simp[IntKind.wrap,IntKind.bits,IntKind.signed]
 omega
theorem align_eq{b s:Int}(hb:u64I b)(hs:4096≤s∧s≤1099511627776) :
  (powB s&&decide (b.tmod s=0))=(decide (bitsZ .and .u64 s (IntKind.u64.wrap (s-1))=0)&&decide (bitsZ .and .u64 b (IntKind.u64.wrap (s-1))=0)):=by
 have hw:IntKind.u64.wrap (s-1)=s-1:=by simp[IntKind.wrap,IntKind.bits,IntKind.signed];omega
 have hs1:u64I s:=by unfold u64I;omega
 have hs2:u64I (s-1):=by unfold u64I;omega
 unfold powB;rw[hw,bitsU hs1 hs2,bitsU hb hs2,decide_eq_true (show 0<s by omega),Bool.true_and]
 by_cases e:((s.toNat &&& (s-1).toNat:Nat):Int)=0
 ·rw[decide_eq_true e,Bool.true_and,Bool.true_and];have e0:s.toNat &&& (s.toNat-1)=0:=by
   have:(s-1).toNat=s.toNat-1:=by omega
   rw[this]at e;omega
  obtain⟨p,hp⟩:=pow_of_and s.toNat (by omega) e0
  have h1:(s-1).toNat=2 ^ p-1:=by omega
  rw[h1,Nat.and_two_pow_sub_one_eq_mod,←hp];unfold u64I at hb;rw[Int.tmod_eq_emod_of_nonneg hb.1];congr 1
  apply propext
  have h2:b%s=((b.toNat%s.toNat:Nat):Int):=by
   rw[Int.natCast_emod];congr 1 <;> omega
  rw[h2]
 ·rw[decide_eq_false e,Bool.false_and,Bool.false_and]
def MemWide(H:HwT):Prop:=∀x∈H.Mems,u64I x.Base
theorem align_ref{H:HwT}(hw:MemWide H)(hr:regionsRB H=true):(H.Mems.all memAR&&H.Devs.all devAB)=alignRB H:=by
 have:H.Mems.all memAR=H.Mems.all memAB:=by
  unfold regionsRB at hr;simp only[Bool.and_eq_true,List.all_eq_true]at hr
  rw[Bool.eq_iff_iff,List.all_eq_true,List.all_eq_true];have key:∀x∈H.Mems,memAR x=memAB x:=fun x hx=>by
   have h1:=hr.1 x hx
   simp only[memRB,inSpaceB,Bool.and_eq_true,decide_eq_true_eq]at h1
   exact align_eq (hw x hx) (by omega)
  exact⟨fun h x hx=>by rw[←key x hx];exact h x hx,fun h x hx=>by rw[key x hx];exact h x hx⟩
 unfold alignRB;rw[this]
end Go.Proofs.YthgighljhoneeaaGreat
end
section
namespace Go.Proofs.YthgighljhoneeaaGreat
abbrev Pl:=Int×Int
def hk(l:List Pl)(i:Nat):Int:=(l.getD i (0,0)).2
end Go.Proofs.YthgighljhoneeaaGreat
end
section
open Go Mk
open Go.ChangeShapes Go.WideShapes Go.ChangeAt Go.RowKit
namespace Go.Proofs.YthgighljhoneeaaGreat
section
variable {H:Type}{en:TypeId×Value→H}{W W':World}{base:Nat}{sp:Nat→Bool}{held:Bool}{S:List Res}
theorem read_slice{α:Type}[Inhabited α]{F:α→List Value}{p:α→Prop}{t e sz:Nat}(hc:Tryz.prog.cellsOf e=sz)(h0:0<sz)(hF:∀x,(F x).length=sz)(ht:Tryz.prog.underlying t=some (.slice e))
  (hel:∀ {n:Nat} {cs:List Value} {y:DataW H×List MemPlace},DataW.trod en Tryz.prog W base sp held n e cs=some y→∃x:α,cs=F x∧p x)
  {n:Nat} {v:Value} {y:DataW H×List MemPlace} (h:DataW.trod en Tryz.prog W base sp held n t [v]=some y):∃xs:List α,RepS (allG W) v sz (xs.map F)∧∀x∈xs,p x:=by
 rcases Deep.open_slice ht h with⟨h0,-⟩|⟨a,len,cap,m,k,D,Pl,h1,-,hlc,hcm,hm,-,hel2⟩
 ·cases h0
  exact⟨[],RepS.nil,fun x hx=>by cases hx⟩
 ·cases h1
  have hlm:len≤m:=by rw[hm];split <;> omega
  have hx:∀i,i<len→∃x:α,p x∧∀j u,(F x)[j]? = some u→W.cell? (a.add (i*sz+j))=some u:=fun i hi=>by
   obtain⟨cs',h1,h2⟩:=hel2 i (by omega)
   rw[hc]at h1;obtain⟨-,hl,hat⟩:=World.cells?_some h1
   obtain⟨x,rfl,hp⟩:=hel h2
   refine⟨x,hp,fun j u hu=>?_⟩
   have hj:j<sz:=by rw[←hl];exact(List.getElem?_eq_some_iff.1 hu).1
   have:=hat j hj
   rw[hu,Go.Deep.add_add]at this;exact this
  obtain⟨f,hf⟩:∃f:Nat→α,∀i,i<len→p (f i)∧∀j u,(F (f i))[j]? = some u→W.cell? (a.add (i*sz+j))=some u:=by
   refine⟨fun i=>if hi:i<len then (hx i hi).choose else default,fun i hi=>?_⟩
   simp only[hi,dif_pos]
   exact(hx i hi).choose_spec
  refine⟨(List.range len).map f,?_,fun x hx=>?_⟩
  ·unfold RepS;refine⟨fun r hr=>?_,some a,len,cap,rfl,by simp,hlc,hcm,fun hpos=>?_⟩
   ·obtain⟨x,-,rfl⟩:=List.mem_map.1 hr
    exact hF x
   ·have hpos:0<len:=by simpa using hpos
    obtain⟨u0,hu0⟩:∃u,(F (f 0))[0]? = some u:=⟨_,List.getElem?_eq_getElem (by rw[hF];exact h0)⟩
    have h00:=(hf 0 hpos).2 0 u0 hu0
    obtain⟨g,o,spt⟩:=a;have h01:W.cell? ⟨g,o,spt⟩=some u0:=by
     rw[Nat.zero_mul]at h00;simpa[Addr.add] using h00
    unfold World.cell? at h01
    cases hg:W.heap[g]? with
    | none=>rw[hg]at h01;simp at h01
    | some ob=>
     rw[hg]at h01;cases ob with
     | cells cur e fr=>
      cases spt with
      | some q=>simp at h01
      | none=>
       refine⟨g,o,cur,e,fr,rfl,hg,fun j u hj=>?_⟩
       obtain⟨i,r,row,h1,h2,h3⟩:=flat_inv (sz:=sz) (rows:=((List.range len).map f).map F) (fun r hr=>by
        obtain⟨x,-,rfl⟩:=List.mem_map.1 hr
        exact hF x) hj
       rw[List.getElem?_map,List.getElem?_map]at h1;have hi:i<len:=by
        by_cases hi:i<len
        ·exact hi
        ·rw[List.getElem?_eq_none (by simpa using hi)]at h1;simp at h1
       rw[List.getElem?_range hi]at h1;simp only[Option.map_some,Option.some.injEq]at h1
       subst h1;have h4:W.cell? ⟨g,o+(i*sz+r),none⟩=some u:=by
        have h5:=(hf i hi).2 r u h2
        rwa [show Addr.add ⟨g,o,none⟩ (i*sz+r)=⟨g,o+(i*sz+r),none⟩ from by
         unfold Addr.add;by_cases h0:i*sz+r=0
         ·rw[if_pos h0,h0];rfl
         ·rw[if_neg h0]]at h5
       unfold World.cell? at h4
       rw[hg]at h4;rw[h3];simpa using h4
     | _=>simp at h01
  ·obtain⟨i,hi,rfl⟩:=List.mem_map.1 hx
   exact(hf i (List.mem_range.1 hi)).1
end
section
variable {H:Type}{en:TypeId×Value→H}{W W':World}{base:Nat}{sp:Nat→Bool}{held:Bool}{S:List Res}
def okI(n:Int):Prop:=-9223372036854775808≤n∧n≤9223372036854775807
theorem list5:∀cs:List Value,cs.length=5→∃a b c d e,cs=[a,b,c,d,e]
 | [a,b,c,d,e],_=>⟨a,b,c,d,e,rfl⟩
theorem read_i{n:Nat}{cs:List Value}{y:DataW H×List MemPlace}(h:DataW.trod en Tryz.prog W base sp held n 3 cs=some y):∃x:Int,cs=[.int .i64 x]∧okI x:=by
 obtain⟨a,ha,-,hw⟩:=DataW.trod_int Tryz.underlying3 h
 subst ha;refine⟨a,rfl,?_⟩
 simp only[Lit.wf,IntKind.min,IntKind.max,IntKind.bits,IntKind.signed]at hw
 simpa[okI] using hw
end
end Go.Proofs.YthgighljhoneeaaGreat
end
section
open Go
namespace Mk
attribute [local irreducible] Calls
section
variable {α β:Type}[DecidableEq α]
theorem aGet_cons'(a b:α)(v:β)(l:List (α×β)):aGet ((a,v)::l) b=if a=b then some v else aGet l b:=by
 unfold aGet aIx;by_cases h:a=b
 ·subst h;simp[List.findIdx?_cons]
 ·simp only[List.findIdx?_cons,decide_eq_true_eq,h,decide_false,Bool.false_eq_true,if_false]
  cases l.findIdx? (fun p=>decide (p.1=b)) <;> simp
theorem aSet_cons'(a b:α)(v u:β)(l:List (α×β)):aSet ((a,v)::l) b u=if a=b then (b,u)::l else (a,v)::aSet l b u:=by
 unfold aSet aIx;by_cases h:a=b
 ·subst h;simp[List.findIdx?_cons]
 ·simp only[List.findIdx?_cons,h,decide_false,Bool.false_eq_true,if_false]
  cases l.findIdx? (fun p=>decide (p.1=b)) <;> simp
theorem aGet_none'{l:List (α×β)}{a:α}:aGet l a=none↔a∉l.map (·.1):=by
 induction l with
 | nil=>simp[aGet,aIx]
 | cons p l ih=>
  obtain⟨x,v⟩:=p;rw[aGet_cons'];by_cases h:x=a
  ·simp[h]
  ·rw[if_neg h,ih];simp[Ne.symm h]
theorem aSet_perm{l:List (α×β)}(h:(l.map (·.1)).Nodup)(a:α)(u:β):(aSet l a u).Perm ((a,u)::l.filter fun p=>!decide (p.1=a)):=by
 induction l with
 | nil=>simp[aSet,aIx]
 | cons p l ih=>
  obtain⟨x,v⟩:=p;simp only[List.map_cons,List.nodup_cons]at h
  rw[aSet_cons'];by_cases e:x=a
  ·subst e;rw[if_pos rfl];simp only[List.filter_cons,decide_true,Bool.not_true,Bool.false_eq_true,if_false]
   rw[List.filter_eq_self.2 (fun p hp=>by simp;intro e;exact h.1 (e ▸ List.mem_map_of_mem hp))]
  ·rw[if_neg e];simp only[List.filter_cons,decide_eq_false e,Bool.not_false,if_true]
   exact((ih h.2).cons _).trans (.swap _ _ _)
theorem aGet_perm{l:List (α×β)}(h:(l.map (·.1)).Nodup){a:α}{v:β}(hg:aGet l a=some v):l.Perm ((a,v)::l.filter fun p=>!decide (p.1=a)):=by
 induction l with
 | nil=>simp[aGet,aIx]at hg
 | cons p l ih=>
  obtain⟨x,u⟩:=p;simp only[List.map_cons,List.nodup_cons]at h
  rw[aGet_cons']at hg;by_cases e:x=a
  ·subst e;rw[if_pos rfl]at hg;cases hg
   simp only[List.filter_cons,decide_true,Bool.not_true,Bool.false_eq_true,if_false]
   rw[List.filter_eq_self.2 (fun p hp=>by simp;intro e;exact h.1 (e ▸ List.mem_map_of_mem hp))]
  ·rw[if_neg e]at hg;simp only[List.filter_cons,decide_eq_false e,Bool.not_false,if_true]
   exact((ih h.2 hg).cons _).trans (.swap _ _ _)
end
section
variable {P:Program}{n:Nat}{ops:List Oper}{Γ:Gho}{K:List Res}{wr tc stab:List (List Nat)}{Q:Fr→World→Prop}{i:Nat}{rest:List Oper}{ρ:Fr}{M:Nat→Fr→List Res}
variable {ty T:TypeId}{pos:String}{es:Array Edge}{x y:Operand}
end
def hpG(Γ:Gho)(w:World):Gho:=⟨hp w,Γ.os,Γ.tape,Γ.out,Γ.dr⟩
theorem hpG_le{Γ:Gho}{S:List Res}{w:World}(h:Wd Γ S w):Γ.le (hpG Γ w):=⟨h.imm,rfl,rfl,rfl,rfl⟩
theorem hpG_wd{Γ:Gho}{S:List Res}{w:World}(h:Wd Γ S w):Wd (hpG Γ w) [] w:=⟨h.os,h.tape,h.out,h.dr,fun _ _ h=>h,[],trivial,by simp,by simp⟩
theorem Holds.noimm{m m' h}:∀(R:List Res) (bss:List (List Nat)),(∀r∈R,∀bs,r.holds m bs h→r.holds m' bs h)→Holds m R bss h→Holds m' R bss h
 | [],[],_,_=>trivial
 | r::R,bs::bss,hr,hh=>⟨hr r (by simp) bs hh.1,Holds.noimm R bss (fun r h=>hr r (by simp[h])) hh.2⟩
 | [],_::_,_,hh=>hh.elim
 | _::_,[],_,hh=>hh.elim
theorem wd_keptG{Γ Γ':Gho}{S R:List Res}{w w':World}(h:Wd Γ S w)(hle:(hpG Γ w).le Γ')(hR:∀r∈R,∀bs,r.holds Γ'.imm bs (hp w')→r.holds Γ.imm bs (hp w'))(h':Wd Γ' R w'):Wd Γ (R++S) w':=by
 obtain⟨cs,k6,k7,k8⟩:=h'.own;have him:=h.imm
 obtain⟨h1,h2,h3,h4,h5,dss,d6,d7,d8⟩:=h;have hat:∀b∈dss.flatten,∃o,w.heap[b]? = some o:=fun b hbm=>⟨_,Array.getElem?_eq_getElem (d8 b hbm).1⟩
 have hnew:∀b∈cs.flatten,w.heap[b]? = none:=fun b hbm=>by
  cases hq:w.heap[b]? with
  | none=>rfl
  | some o=>have:=hle.imm b o hq;rw[(k8 b hbm).2]at this;cases this
 have hold:∀b∈dss.flatten,b∉cs.flatten:=fun b hbm hbs=>by
  obtain⟨o,ho⟩:=hat b hbm
  rw[hnew b hbs]at ho;cases ho
 have hkeep:∀b∈dss.flatten,w'.heap[b]? = w.heap[b]?:=fun b hbm=>by
  obtain⟨o,ho⟩:=hat b hbm
  rw[ho];exact h'.imm b o (hle.imm b o ho)
 refine⟨h'.os.trans hle.os,h'.tape.trans hle.tape,h'.out.trans hle.out,by have:=h'.dr;rw[hle.dr]at this;exact this,fun b o hb=>h'.imm b o (hle.imm b o (him b o hb)),cs++dss,Holds.append _ _ _ _ (Holds.noimm R cs hR k6) (Holds.loc (fun b o h=>h) S dss hkeep d6),?_,?_⟩
 ·rw[List.flatten_append,List.nodup_append];exact⟨k7,d7,fun a ha b hb' e=>hold b hb' (e ▸ ha)⟩
 ·intro b hbm;rw[List.flatten_append,List.mem_append]at hbm;rcases hbm with hbm|hbm
  ·refine⟨(k8 b hbm).1,?_⟩
   cases hq:Γ.imm b with
   | none=>rfl
   | some o=>have:=him b o hq;rw[hnew b hbm]at this;cases this
  ·obtain⟨o,ho⟩:=hat b hbm
   have:=hkeep b hbm
   rw[ho]at this;exact⟨(Array.getElem?_eq_some_iff.1 this).1,(d8 b hbm).2⟩
theorem freeze_list{α:Type}{f:α→Value}{e sz:Nat}{g:α→List (List Value)}{S:List Res}{w:World}:∀(l:List α) {Γ:Gho},Wd Γ (l.map (fun x=>Res.own (f x) e sz (g x))++S) w→∃Γ',Γ.le Γ'∧(∀x∈l,RepS Γ' (f x) sz (g x))∧Wd Γ' S w
 | [],Γ,hw=>⟨Γ,.refl _,by simp,hw⟩
 | x::l,Γ,hw=>by
  obtain⟨Γ1,h1,h2,hw⟩:=Wd.freeze (S:=l.map (fun x=>Res.own (f x) e sz (g x))++S) hw
  obtain⟨Γ2,h3,h4,hw⟩:=freeze_list l hw
  refine⟨Γ2,h1.trans h3,fun y hy=>?_,hw⟩
  rcases List.mem_cons.1 hy with rfl|hy
  ·exact h2.mono h3
  ·exact h4 y hy
end Mk
end
section
open Go Mk
namespace Go.Proofs.YthgighljhoneeaaGreat
set_option maxHeartbeats 4000000
attribute [local irreducible] Calls
def nbrL(ls:List LinkT)(x:Int):List Pl:=ls.flatMap fun l=>(if l.A=x then [(l.B,l.Latency)] else [])++(if l.B=x then [(l.A,l.Latency)] else [])
end Go.Proofs.YthgighljhoneeaaGreat
end
section
namespace Go.Proofs.YthgighljhoneeaaGreat
inductive Way (nb:Int→List Pl) (s:Int):Int→Int→Prop
 | refl:Way nb s s 0
 | step {x d:Int} {q:Pl}:Way nb s x d→q∈nb x→Way nb s q.1 (d+q.2)
def Dst(nb:Int→List Pl)(s x d:Int):Prop:=(0≤d∧Way nb s x d∧∀d',Way nb s x d'→d≤d')∨(d = -1∧∀d',¬Way nb s x d')
theorem Dst.uniq{nb:Int→List Pl}{s x d e:Int}(h:Dst nb s x d)(k:Dst nb s x e):d=e:=by
 rcases h with⟨h0,h1,h2⟩|⟨h1,h2⟩ <;> rcases k with⟨k0,k1,k2⟩|⟨k1,k2⟩
 ·have:=h2 _ k1;have:=k2 _ h1;omega
 ·exact(k2 _ h1).elim
 ·exact(h2 _ k1).elim
 ·rw[h1,k1]
structure NbOk(nb:Int→List Pl)(s L:Int):Prop where
 rng:∀x,∀q∈nb x,0≤q.1∧q.1<64∧0≤q.2∧q.2≤L
 st:0≤s∧s<64
theorem Way.nonneg{nb:Int→List Pl}{s L:Int}(hn:NbOk nb s L){x d:Int}(h:Way nb s x d):0≤d:=by
 induction h with
 | refl=>omega
 | step _ hq ih=>have:=hn.rng _ _ hq;omega
theorem Way.rng{nb:Int→List Pl}{s L:Int}(hn:NbOk nb s L){x d:Int}(h:Way nb s x d):0≤x∧x<64:=by
 cases h with
 | refl=>exact hn.st
 | step _ hq=>have:=hn.rng _ _ hq;omega
section
variable {nb:Int→List Pl}{s L:Int}{O:List Int}{xs ys:List Pl}
end
end Go.Proofs.YthgighljhoneeaaGreat
end
section
open Go Mk
namespace Go.Proofs.YthgighljhoneeaaGreat
set_option maxHeartbeats 8000000
attribute [local irreducible] Calls
def LinksOk(ls:List LinkT):Prop:=ls.length≤1000∧∀l∈ls,0≤l.A∧l.A<64∧0≤l.B∧l.B<64∧1≤l.Latency∧l.Latency≤1000000
theorem nbr_ok{ls:List LinkT}{s:Int}(h:LinksOk ls)(hs:0≤s∧s<64):NbOk (nbrL ls) s 1000000:=⟨fun x q hq=>by
 unfold nbrL at hq;obtain⟨l,hl,hq⟩:=List.mem_flatMap.1 hq
 have:=h.2 l hl
 rcases List.mem_append.1 hq with hq|hq
 ·split at hq
  ·simp only[List.mem_singleton]at hq;subst hq;simp only[];omega
  ·simp at hq
 ·split at hq
  ·simp only[List.mem_singleton]at hq;subst hq;simp only[];omega
  ·simp at hq,hs⟩
noncomputable def dstI(nb:Int→List Pl)(s x:Int):Int:=@Classical.epsilon _ ⟨(0:Int)⟩ (Dst nb s x)
theorem Dst.eq{nb:Int→List Pl}{s x d:Int}(h:Dst nb s x d):dstI nb s x=d:=(Classical.epsilon_spec_aux ⟨0⟩ (Dst nb s x) ⟨d,h⟩).uniq h
theorem valid_all{H:HwT}(h:validS H=0):namesB H=true∧countsB H=true∧(coresRB H&&regionsRB H)=true∧alignRB H=true∧uniqueB H=true∧knownB H=true∧hierB H=true∧disjB H=true∧connB H=true:=by
 unfold validS at h;by_cases e1:namesB H=false
 ·rw[if_pos e1]at h;cases h
 rw[if_neg e1]at h;by_cases e2:countsB H=false
 ·rw[if_pos e2]at h;cases h
 rw[if_neg e2]at h;by_cases e3:(coresRB H&&regionsRB H)=false
 ·rw[if_pos e3]at h;cases h
 rw[if_neg e3]at h;by_cases e4:alignRB H=false
 ·rw[if_pos e4]at h;cases h
 rw[if_neg e4]at h;by_cases e5:uniqueB H=false
 ·rw[if_pos e5]at h;cases h
 rw[if_neg e5]at h;by_cases e6:knownB H=false
 ·rw[if_pos e6]at h;cases h
 rw[if_neg e6]at h;by_cases e7:hierB H=false
 ·rw[if_pos e7]at h;cases h
 rw[if_neg e7]at h;by_cases e8:disjB H=false
 ·rw[if_pos e8]at h;cases h
 rw[if_neg e8]at h;by_cases e9:connB H=false
 ·rw[if_pos e9]at h;cases h
 exact⟨by simpa using e1,by simpa using e2,by simpa using e3,by simpa using e4,by simpa using e5,by simpa using e6,by simpa using e7,by simpa using e8,by simpa using e9⟩
theorem valid_links{H:HwT}(h:validS H=0):LinksOk H.Links:=by
 obtain⟨-,h2,h3,-⟩:=valid_all h
 obtain⟨-,-,-,l3,-⟩:=counts_le h2
 refine⟨by omega,fun l hl=>?_⟩
 unfold coresRB at h3;simp only[Bool.and_eq_true]at h3
 have:=List.all_eq_true.1 h3.1.2.2 l hl
 simp[linkRB,isNodeB,isLatB]at this
 omega
theorem nbr_sym{ls:List LinkT}{x:Int}{q:Pl}(h:q∈nbrL ls x):(x,q.2)∈nbrL ls q.1:=by
 unfold nbrL at h ⊢
 obtain⟨l,hl,hq⟩:=List.mem_flatMap.1 h
 refine List.mem_flatMap.2 ⟨l,hl,?_⟩
 rcases List.mem_append.1 hq with hq|hq
 ·split at hq
  ·rename_i e;simp only[List.mem_singleton]at hq;subst hq;subst e;simp
  ·simp at hq
 ·split at hq
  ·rename_i e;simp only[List.mem_singleton]at hq;subst hq;subst e;simp
  ·simp at hq
theorem nbr_pos{ls:List LinkT}{x:Int}{q:Pl}(hL:LinksOk ls)(h:q∈nbrL ls x):1≤q.2:=by
 unfold nbrL at h;obtain⟨l,hl,hq⟩:=List.mem_flatMap.1 h
 have:=hL.2 l hl
 rcases List.mem_append.1 hq with hq|hq <;>
 ·split at hq
  ·simp only[List.mem_singleton]at hq;subst hq;simp only[];omega
  ·simp at hq
end Go.Proofs.YthgighljhoneeaaGreat
end
section
open Go Mk
namespace Go.Proofs.YthgighljhoneeaaGreat
theorem Way.least{nb:Int→List Pl}{s L:Int}(hn:NbOk nb s L){x:Int}:∀(n:Nat) (d:Int),Way nb s x d→d.toNat≤n→∃m,Way nb s x m∧∀d',Way nb s x d'→m≤d'
 | 0,d,h,hd=>⟨d,h,fun d' h'=>by have:=h'.nonneg hn;have:=h.nonneg hn;omega⟩
 | n+1,d,h,hd=>by
  by_cases e:∃d',Way nb s x d'∧d'<d
  ·obtain⟨d',h',hlt⟩:=e;have:=h'.nonneg hn
   exact Way.least hn n d' h' (by omega)
  ·exact⟨d,h,fun d' h'=>by
    by_cases hlt:d'<d
    ·exact(e ⟨d',h',hlt⟩).elim
    ·omega⟩
theorem dst_ex{nb:Int→List Pl}{s L:Int}(hn:NbOk nb s L)(x:Int):Dst nb s x (dstI nb s x):=by
 have:∃d,Dst nb s x d:=by
  by_cases h:∃d,Way nb s x d
  ·obtain⟨d,h⟩:=h;obtain⟨m,h1,h2⟩:=Way.least hn d.toNat d h (Nat.le_refl _)
   exact⟨m,.inl ⟨h1.nonneg hn,h1,h2⟩⟩
  ·exact⟨-1,.inr ⟨rfl,fun d hd=>h ⟨d,hd⟩⟩⟩
 obtain⟨d,hd⟩:=this;rw[hd.eq];exact hd
noncomputable def cntD(nb:Int→List Pl)(s k:Int):Nat:=(List.range 64).countP fun y:Nat=>decide (0≤dstI nb s y)&&decide (dstI nb s y≤k)
theorem countP_lt{α:Type}{p q:α→Bool}:∀(l:List α),(∀x∈l,p x=true→q x=true)→(∃x∈l,q x=true∧p x=false)→l.countP p+1≤l.countP q
 | [],_,⟨x,hx,_⟩=>by simp at hx
 | y::l,h,⟨x,hx,h1,h2⟩=>by
  rw[List.countP_cons,List.countP_cons];have hle:l.countP p≤l.countP q:=List.countP_mono_left fun x hx=>h x (by simp[hx])
  have hy:=h y (by simp)
  rcases List.mem_cons.1 hx with rfl|hx
  ·rw[h1,h2];simp;omega
  ·have ih:=countP_lt l (fun x hx=>h x (by simp[hx])) ⟨x,hx,h1,h2⟩
   by_cases e:p y=true
   ·rw[e,hy e];simp;omega
   ·have e:p y=false:=by simpa using e
    rw[e];simp only[Bool.false_eq_true,if_false];omega
theorem dst_bound{ls:List LinkT}{s:Int}(hL:LinksOk ls)(hs:0≤s∧s<64):∀(n:Nat) (x:Int),(dstI (nbrL ls) s x).toNat≤n→0≤dstI (nbrL ls) s x→dstI (nbrL ls) s x+1000000≤1000000*(cntD (nbrL ls) s (dstI (nbrL ls) s x):Int):=by
 have hn:=nbr_ok hL hs
 have hself:∀x,0≤x→x<64→0≤dstI (nbrL ls) s x→1≤cntD (nbrL ls) s (dstI (nbrL ls) s x):=fun x h0 h1 hd=>by
  unfold cntD;refine List.countP_pos_iff.2 ⟨x.toNat,by simp;omega,?_⟩
  rw[show ((x.toNat:Nat):Int)=x by omega]
  simp[hd]
 intro n;induction n with
 | zero=>
  intro x hx h0;have hr:0≤x∧x<64:=by
   rcases dst_ex hn x with⟨-,h,-⟩|⟨h,-⟩
   ·exact h.rng hn
   ·omega
  have:=hself x hr.1 hr.2 h0
  omega
 | succ n ih=>
  intro x hx h0;rcases dst_ex hn x with⟨-,hw,hmin⟩|⟨h,-⟩
  ·have hr:=hw.rng hn
   generalize hd:dstI (nbrL ls) s x=d at *
   cases hw with
   | refl=>
    have:=hself s hs.1 hs.2 (by omega)
    rw[hd]at this;omega
   | @step u d' q hu hq=>
    have hur:=hu.rng hn
    have hqp:=nbr_pos hL hq
    have hqr:=hn.rng _ _ hq
    rcases dst_ex hn u with⟨hu0,hu1,hu2⟩|⟨-,h⟩
    ·have e1:=hu2 _ hu
     have e2:=hmin _ (hu1.step hq)
     have hi:=ih u (by omega) hu0
     have hc:cntD (nbrL ls) s (dstI (nbrL ls) s u)+1≤cntD (nbrL ls) s (d'+q.2):=by
      unfold cntD;refine countP_lt _ (fun y _ hy=>?_) ⟨q.1.toNat,by simp;omega,?_,?_⟩
      ·simp at hy ⊢;omega
      ·rw[show ((q.1.toNat:Nat):Int)=q.1 by omega,hd];simp;omega
      ·rw[show ((q.1.toNat:Nat):Int)=q.1 by omega,hd];simp;omega
     omega
    ·exact(h _ hu).elim
  ·omega
theorem dst_le{ls:List LinkT}{s x:Int}(hL:LinksOk ls)(hs:0≤s∧s<64):-1≤dstI (nbrL ls) s x∧dstI (nbrL ls) s x≤63000000:=by
 have hn:=nbr_ok hL hs
 rcases dst_ex hn x with⟨h0,-⟩|⟨h,-⟩
 ·have:=dst_bound hL hs _ x (Nat.le_refl _) h0
  have h64:cntD (nbrL ls) s (dstI (nbrL ls) s x)≤64:=by
   unfold cntD;exact Nat.le_trans List.countP_le_length (by simp)
  omega
 ·omega
theorem Way.trans{nb:Int→List Pl}{s x d:Int}(h:Way nb s x d){y e:Int}(k:Way nb x y e):Way nb s y (d+e):=by
 induction k with
 | refl=>rw[Int.add_zero];exact h
 | step _ hq ih=>rw[←Int.add_assoc];exact ih.step hq
theorem Way.one{nb:Int→List Pl}{x:Int}{q:Pl}(h:q∈nb x):Way nb x q.1 q.2:=by
 have:=(Way.refl (nb:=nb) (s:=x)).step h
 rwa [Int.zero_add]at this
theorem Way.symm{ls:List LinkT}{s x d:Int}(h:Way (nbrL ls) s x d):Way (nbrL ls) x s d:=by
 induction h with
 | refl=>exact .refl
 | @step x d q _ hq ih=>
  have:=(Way.one (nbr_sym hq)).trans ih
  simp only[]at this
  rwa [Int.add_comm]at this
theorem mem_nbr_ab{ls:List LinkT}{l:LinkT}(h:l∈ls):(l.B,l.Latency)∈nbrL ls l.A:=List.mem_flatMap.2 ⟨l,h,by simp⟩
theorem mem_nbr_ba{ls:List LinkT}{l:LinkT}(h:l∈ls):(l.A,l.Latency)∈nbrL ls l.B:=List.mem_flatMap.2 ⟨l,h,by simp⟩
theorem reach_way{ls:List LinkT}{s x:Int}(h:Reach ls s x):∃d,Way (nbrL ls) s x d:=by
 induction h with
 | refl=>exact⟨0,.refl⟩
 | ab hl _ ih=>obtain⟨d,ih⟩:=ih;exact⟨_,ih.step (mem_nbr_ab hl)⟩
 | ba hl _ ih=>obtain⟨d,ih⟩:=ih;exact⟨_,ih.step (mem_nbr_ba hl)⟩
theorem dstI_reach{ls:List LinkT}{s a b:Int}(hL:LinksOk ls)(ha:0≤a∧a<64)(h1:Reach ls s a)(h2:Reach ls s b):0≤dstI (nbrL ls) a b:=by
 obtain⟨d,h1⟩:=reach_way h1
 obtain⟨e,h2⟩:=reach_way h2
 rcases dst_ex (nbr_ok hL ha) b with⟨h,-⟩|⟨-,h⟩
 ·exact h
 ·exact(h _ (h1.symm.trans h2)).elim
abbrev Mx:=Int→Int→Int
def nIn(x:Int):Prop:=0≤x∧x<64
inductive WM (E:Mx) (m:Int):Int→Int→Int→Prop
 | base {i k:Int}:nIn i→nIn k→0≤E i k→WM E m i k (E i k)
 | join {i c k x y:Int}:c<m→WM E m i c x→WM E m c k y→WM E m i k (x+y)
section
variable {E:Mx}{m i k L:Int}
theorem WM.nonneg(h:WM E m i k L):0≤L:=by
 induction h with
 | base _ _ h=>exact h
 | join _ _ _ h1 h2=>omega
theorem WM.rng(h:WM E m i k L):nIn i∧nIn k:=by
 induction h with
 | base h1 h2 _=>exact⟨h1,h2⟩
 | join _ _ _ h1 h2=>exact⟨h1.1,h2.2⟩
theorem WM.more(h:WM E m i k L):WM E (m+1) i k L:=by
 induction h with
 | base h1 h2 h3=>exact .base h1 h2 h3
 | join hc _ _ h1 h2=>exact .join (by omega) h1 h2
theorem WM.step(h:WM E (m+1) i k L):∃L',L'≤L∧(WM E m i k L'∨∃a b,L'=a+b∧WM E m i m a∧WM E m m k b):=by
 induction h with
 | base h1 h2 h3=>exact⟨_,Int.le_refl _,.inl (.base h1 h2 h3)⟩
 | @join i c k x y hc _ _ ih1 ih2=>
  obtain⟨x',hx,h1⟩:=ih1;obtain⟨y',hy,h2⟩:=ih2;by_cases e:c<m
  ·rcases h1 with h1|⟨a,b,rfl,ha,hb⟩ <;> rcases h2 with h2|⟨a2,b2,rfl,ha2,hb2⟩
   ·exact⟨x'+y',by omega,.inl (.join e h1 h2)⟩
   ·exact⟨x'+a2+b2,by omega,.inr ⟨x'+a2,b2,rfl,.join e h1 ha2,hb2⟩⟩
   ·exact⟨a+(b+y'),by omega,.inr ⟨a,b+y',rfl,ha,.join e hb h2⟩⟩
   ·have:=hb.nonneg;have:=ha2.nonneg
    exact⟨a+b2,by omega,.inr ⟨a,b2,rfl,ha,hb2⟩⟩
  ·have e:c=m:=by omega
   subst e;rcases h1 with h1|⟨a,b,rfl,ha,hb⟩ <;> rcases h2 with h2|⟨a2,b2,rfl,ha2,hb2⟩
   ·exact⟨x'+y',by omega,.inr ⟨x',y',rfl,h1,h2⟩⟩
   ·have:=ha2.nonneg
    exact⟨x'+b2,by omega,.inr ⟨x',b2,rfl,h1,hb2⟩⟩
   ·have:=hb.nonneg
    exact⟨a+y',by omega,.inr ⟨a,y',rfl,ha,h2⟩⟩
   ·have:=hb.nonneg;have:=ha2.nonneg
    exact⟨a+b2,by omega,.inr ⟨a,b2,rfl,ha,hb2⟩⟩
end
def OkM(E:Mx)(m i k d:Int):Prop:=(d = -1∧∀L,¬WM E m i k L)∨(0≤d∧WM E m i k d∧∀L,WM E m i k L→d≤L)
theorem OkM.zero{E:Mx}(hE:∀i k,E i k = -1∨0≤E i k){i k:Int}(hi:nIn i)(hk:nIn k):OkM E 0 i k (E i k):=by
 have hb:∀ {i k L:Int},WM E 0 i k L→L=E i k:=fun {i k L} h=>by
  induction h with
  | base=>rfl
  | join hc h1 h2=>have:=h1.rng.2;unfold nIn at this;omega
 rcases hE i k with h|h
 ·refine .inl ⟨h,fun L hL=>?_⟩
  have h1:=hb hL
  have h2:=hL.nonneg
  omega
 ·exact .inr ⟨h,.base hi hk h,fun L hL=>by rw[hb hL];exact Int.le_refl _⟩
def FW(E D:Mx)(m i k:Int):Prop:=∀a b,nIn a→nIn b→if a<i∨(a=i∧b<k) then OkM E (m+1) a b (D a b) else OkM E m a b (D a b)
def updM(D:Mx)(a b v:Int):Mx:=fun x y=>if x=a∧y=b then v else D x y
def relaxB(D:Mx)(m i k:Int):Bool:=(decide (0≤D i m)&&decide (0≤D m k))&&(decide (D i k<0)||decide (D i m+D m k<D i k))
section
variable {E D:Mx}{m i k:Int}
theorem FW.either(h:FW E D m i k){a b:Int}(ha:nIn a)(hb:nIn b):(D a b = -1∨0≤D a b)∧(0≤D a b→WM E (m+1) a b (D a b))∧(∀L,WM E m a b L→0≤D a b∧D a b≤L):=by
 have h1:=h a b ha hb
 split at h1
 ·rcases h1 with⟨h2,h3⟩|⟨h2,h3,h4⟩
  ·exact⟨.inl h2,fun h5=>by omega,fun L hL=>absurd hL.more (h3 L)⟩
  ·exact⟨.inr h2,fun _=>h3,fun L hL=>⟨h2,h4 L hL.more⟩⟩
 ·rcases h1 with⟨h2,h3⟩|⟨h2,h3,h4⟩
  ·exact⟨.inl h2,fun h5=>by omega,fun L hL=>absurd hL (h3 L)⟩
  ·exact⟨.inr h2,fun _=>h3.more,fun L hL=>⟨h2,h4 L hL⟩⟩
theorem FW.next(h:FW E D m i k)(hm:nIn m)(hi:nIn i)(hk:nIn k):FW E (if relaxB D m i k=true then updM D i k (D i m+D m k) else D) m i (k+1):=by
 intro a b ha hb;by_cases e:a=i∧b=k
 ·obtain⟨rfl,rfl⟩:=e;rw[if_pos (by omega)]
  obtain⟨p1,p2,p3⟩:=h.either hi hm
  obtain⟨q1,q2,q3⟩:=h.either hm hk
  have h0:=h a b hi hk
  rw[if_neg (by omega)]at h0
  by_cases c:relaxB D m a b=true
  ·rw[if_pos c];unfold relaxB at c;simp only[Bool.and_eq_true,Bool.or_eq_true,decide_eq_true_eq]at c
   obtain⟨⟨c1,c2⟩,c3⟩:=c;have hv:updM D a b (D a m+D m b) a b=D a m+D m b:=by unfold updM;rw[if_pos ⟨rfl,rfl⟩]
   rw[hv];refine .inr ⟨by omega,.join (by omega) (p2 c1) (q2 c2),fun L hL=>?_⟩
   obtain⟨L',hL',hs⟩:=hL.step;rcases hs with hs|⟨x,y,rfl,hx,hy⟩
   ·rcases h0 with⟨g1,g2⟩|⟨g1,g2,g3⟩
    ·exact absurd hs (g2 L')
    ·have:=g3 L' hs;omega
   ·have:=p3 x hx;have:=q3 y hy;omega
  ·rw[if_neg c];unfold relaxB at c;simp only[Bool.and_eq_true,Bool.or_eq_true,decide_eq_true_eq]at c
   rcases h0 with⟨g1,g2⟩|⟨g1,g2,g3⟩
   ·refine .inl ⟨g1,fun L hL=>?_⟩
    obtain⟨L',hL',hs⟩:=hL.step;rcases hs with hs|⟨x,y,rfl,hx,hy⟩
    ·exact g2 L' hs
    ·have:=p3 x hx;have:=q3 y hy
     exact c ⟨⟨by omega,by omega⟩,.inl (by omega)⟩
   ·refine .inr ⟨g1,g2.more,fun L hL=>?_⟩
    obtain⟨L',hL',hs⟩:=hL.step;rcases hs with hs|⟨x,y,rfl,hx,hy⟩
    ·have:=g3 L' hs;omega
    ·have:=p3 x hx;have:=q3 y hy
     have:¬D a m+D m b<D a b:=fun hlt=>c ⟨⟨by omega,by omega⟩,.inr hlt⟩
     omega
 ·have hv:(if relaxB D m i k=true then updM D i k (D i m+D m k) else D) a b=D a b:=by
   split
   ·unfold updM;rw[if_neg e]
   ·rfl
  rw[hv];have h0:=h a b ha hb
  by_cases c:a<i∨(a=i∧b<k)
  ·rw[if_pos c]at h0;rw[if_pos (by omega)];exact h0
  ·rw[if_neg c]at h0;rw[if_neg (by omega)];exact h0
theorem FW.row(h:FW E D m i 64):FW E D m (i+1) 0:=fun a b ha hb=>by
 have h0:=h a b ha hb
 unfold nIn at hb;by_cases c:a<i∨(a=i∧b<64)
 ·rw[if_pos c]at h0;rw[if_pos (by omega)];exact h0
 ·rw[if_neg c]at h0;rw[if_neg (by omega)];exact h0
theorem FW.phase(h:FW E D m 64 0):FW E D (m+1) 0 0:=fun a b ha hb=>by
 have h0:=h a b ha hb
 unfold nIn at ha hb;rw[if_pos (by omega)]at h0
 rw[if_neg (by omega)]
 exact h0
end
structure LinkM(ls:List LinkT)(E:Mx):Prop where
 neg:∀i k,E i k = -1∨0≤E i k
 self:∀i,nIn i→E i i=0
 link:∀i k,nIn i→nIn k→i≠k→0≤E i k→∃l∈ls,((l.A=i∧l.B=k)∨(l.A=k∧l.B=i))∧E i k=l.Latency
 has:∀l∈ls,E l.A l.B=l.Latency∧E l.B l.A=l.Latency
section
variable {ls:List LinkT}{E:Mx}{m i k L:Int}
theorem LinkM.nbr(h:LinkM ls E){q:Pl}(hq:q∈nbrL ls i):E i q.1=q.2:=by
 obtain⟨l,hl,hq⟩:=List.mem_flatMap.1 hq
 have:=h.has l hl
 rcases List.mem_append.1 hq with h1|h1 <;> split at h1 <;> simp at h1
 ·rename_i e;subst e;rw[h1];exact this.1
 ·rename_i e;subst e;rw[h1];exact this.2
theorem LinkM.way(h:LinkM ls E)(hw:WM E m i k L):Way (nbrL ls) i k L:=by
 induction hw with
 | @base i k hi hk h0=>
  by_cases e:i=k
  ·subst e;rw[h.self i hi];exact .refl
  ·obtain⟨l,hl,hc,hE⟩:=h.link i k hi hk e h0
   rw[hE];rcases hc with⟨rfl,rfl⟩|⟨rfl,rfl⟩
   ·have:=(Way.refl (nb:=nbrL ls) (s:=l.A)).step (mem_nbr_ab hl)
    simpa using this
   ·have:=(Way.refl (nb:=nbrL ls) (s:=l.B)).step (mem_nbr_ba hl)
    simpa using this
 | join _ _ _ h1 h2=>exact h1.trans h2
theorem LinkM.walk(h:LinkM ls E)(hL:LinksOk ls)(hi:nIn i)(hw:Way (nbrL ls) i k L):WM E 64 i k L:=by
 induction hw with
 | refl=>
  have:=WM.base (E:=E) (m:=64) hi hi (by rw[h.self i hi];omega)
  rwa [h.self i hi]at this
 | @step x d q hx hq ih=>
  have hxr:=ih.rng.2
  have hr:=(nbr_ok hL hi).rng x q hq
  have he:=h.nbr hq
  have h2:=WM.base (E:=E) (m:=64) hxr ⟨hr.1,hr.2.1⟩ (by rw[he];exact hr.2.2.1)
  rw[he]at h2;exact .join hxr.2 ih h2
theorem OkM.dst(h:LinkM ls E)(hL:LinksOk ls)(hi:nIn i){d:Int}(ho:OkM E 64 i k d):dstI (nbrL ls) i k=d:=by
 refine Dst.eq ?_
 rcases ho with⟨h1,h2⟩|⟨h1,h2,h3⟩
 ·exact .inr ⟨h1,fun d' hw=>h2 d' (h.walk hL hi hw)⟩
 ·exact .inl ⟨h1,h.way h2,fun d' hw=>h3 d' (h.walk hL hi hw)⟩
theorem WM.short(h:LinkM ls E)(hL:LinksOk ls)(hw:WM E m i k L):∃L',WM E m i k L'∧L'≤63000000:=by
 obtain⟨hi,hk⟩:=hw.rng;let ins:Int→Bool:=fun x=>decide (x<m)||decide (x=i)||decide (x=k)
 let ls':=ls.filter fun l=>ins l.A&&ins l.B
 have hL':LinksOk ls':=⟨Nat.le_trans (List.length_filter_le _ _) hL.1,fun l hl=>hL.2 l (List.mem_filter.1 hl).1⟩
 have hway:∀ {a b d:Int},WM E m a b d→ins a=true→ins b=true→Way (nbrL ls') a b d:=fun {a b d} hw=>by
  induction hw with
  | @base a b ha hb h0=>
   intro h1 h2;by_cases e:a=b
   ·subst e;rw[h.self a ha];exact .refl
   ·obtain⟨l,hl,hc,hE⟩:=h.link a b ha hb e h0
    rw[hE];have hl':l∈ls':=List.mem_filter.2 ⟨hl,by rcases hc with⟨rfl,rfl⟩|⟨rfl,rfl⟩ <;> simp only[h1,h2,Bool.and_true]⟩
    rcases hc with⟨rfl,rfl⟩|⟨rfl,rfl⟩
    ·have:=(Way.refl (nb:=nbrL ls') (s:=l.A)).step (mem_nbr_ab hl')
     simpa using this
    ·have:=(Way.refl (nb:=nbrL ls') (s:=l.B)).step (mem_nbr_ba hl')
     simpa using this
  | @join a c b x y hc _ _ ih1 ih2=>
   intro h1 h2;have hci:ins c=true:=by show (decide _||decide _||decide _)=true;rw[decide_eq_true hc];simp
   exact(ih1 h1 hci).trans (ih2 hci h2)
 have hii:ins i=true:=by show (decide _||decide _||decide _)=true;simp
 have hkk:ins k=true:=by show (decide _||decide _||decide _)=true;simp
 have hwk:=hway hw hii hkk
 have key:∀ {x d:Int},Way (nbrL ls') i x d→(∃L',L'≤d∧WM E m i x L')∨∃L',L'≤d∧WM E m i k L':=fun {x d} hx=>by
  induction hx with
  | refl=>
   have:=WM.base (E:=E) (m:=m) hi hi (by rw[h.self i hi];omega)
   rw[h.self i hi]at this;exact .inl ⟨0,Int.le_refl _,this⟩
  | @step x d q hx hq ih=>
   have hr:=(nbr_ok hL' hi).rng x q hq
   rcases ih with⟨L',h1,h2⟩|⟨L',h1,h2⟩
   ·have hq2:q∈nbrL ls x:=by
     obtain⟨l,hl,hq⟩:=List.mem_flatMap.1 hq
     exact List.mem_flatMap.2 ⟨l,(List.mem_filter.1 hl).1,hq⟩
    have he:=h.nbr hq2
    have hxr:=h2.rng.2
    have h3:=WM.base (E:=E) (m:=m) hxr ⟨hr.1,hr.2.1⟩ (by rw[he];exact hr.2.2.1)
    rw[he]at h3;have hxin:ins x=true:=by
     obtain⟨l,hl,hq⟩:=List.mem_flatMap.1 hq
     have hl2:=(List.mem_filter.1 hl).2
     rw[Bool.and_eq_true]at hl2;rcases List.mem_append.1 hq with g|g <;> split at g <;> simp at g
     ·rename_i e;rw[←e];exact hl2.1
     ·rename_i e;rw[←e];exact hl2.2
    have hxc:x<m∨x=i∨x=k:=by
     have:(decide (x<m)||decide (x=i)||decide (x=k))=true:=hxin
     simp only[Bool.or_eq_true,decide_eq_true_eq]at this;omega
    rcases hxc with e|e|e
    ·exact .inl ⟨L'+q.2,by omega,.join e h2 h3⟩
    ·rw[e]at h3;have:=h2.nonneg
     exact .inl ⟨q.2,by omega,h3⟩
    ·rw[e]at h2;exact .inr ⟨L',by omega,h2⟩
   ·exact .inr ⟨L',by omega,h2⟩
 have hd:=dst_ex (nbr_ok hL' hi) k
 have hb:=(dst_le (x:=k) hL' hi).2
 rcases hd with⟨-,h1,-⟩|⟨-,h1⟩
 ·rcases key h1 with⟨L',g1,g2⟩|⟨L',g1,g2⟩ <;> exact⟨L',g2,by omega⟩
 ·exact absurd hwk (h1 _)
theorem FW.bound(h:LinkM ls E)(hL:LinksOk ls){D:Mx}(hF:FW E D m i k){a b:Int}(ha:nIn a)(hb:nIn b):-1≤D a b∧D a b≤63000000:=by
 have h1:=hF a b ha hb
 split at h1 <;> rcases h1 with⟨h2,h3⟩|⟨h2,h3,h4⟩
 ·omega
 ·obtain⟨L',g1,g2⟩:=h3.short h hL
  have:=h4 L' g1;omega
 ·omega
 ·obtain⟨L',g1,g2⟩:=h3.short h hL
  have:=h4 L' g1;omega
end
def linkStep(D:Mx)(l:LinkT):Mx:=updM (updM D l.A l.B l.Latency) l.B l.A l.Latency
def linkD(ls:List LinkT):Mx:=ls.foldl linkStep fun i k=>if i=k then 0 else -1
theorem linkD_snoc{ls:List LinkT}{k:Nat}{l:LinkT}(h:ls[k]? = some l):linkStep (linkD (ls.take k)) l=linkD (ls.take (k+1)):=by
 unfold linkD;rw[take_succ_of h,List.foldl_append];rfl
theorem linkD_ok:∀(n:Nat) {ls:List LinkT},ls.length=n→(∀l∈ls,l.A≠l.B∧0≤l.Latency)→(ls.map linkKey).Nodup→LinkM ls (linkD ls)
 | 0,ls,hn,_,_=>by
  have:ls=[]:=List.eq_nil_of_length_eq_zero hn
  subst this;refine⟨fun i k=>?_,fun i _=>by unfold linkD;simp,fun i k _ _ hne h0=>?_,by simp⟩
  ·unfold linkD;by_cases e:i=k <;> simp[e]
  ·unfold linkD at h0;simp[hne]at h0
 | n+1,ls,hn,hA,hk=>by
  obtain⟨l,hl⟩:=get_lt (l:=ls) (k:=n) (by omega)
  have hsp:ls=ls.take n++[l]:=by rw[←take_succ_of hl,List.take_of_length_le (by omega)]
  have hlm:=List.mem_of_getElem? hl
  have ih:=linkD_ok n (ls:=ls.take n) (by simp;omega) (fun x hx=>hA x (List.mem_of_mem_take hx)) (hk.sublist ((List.take_sublist _ _).map _))
  have hD:linkD ls=linkStep (linkD (ls.take n)) l:=by rw[linkD_snoc hl,List.take_of_length_le (by omega)]
  have hAB:=hA l hlm
  have hfresh:∀x∈ls.take n,linkKey x≠linkKey l:=fun x hx e=>by
   rw[hsp,List.map_append,List.nodup_append]at hk;exact hk.2.2 _ (List.mem_map_of_mem hx) _ (by simp) e
  have val:∀i k,linkD ls i k=if (i=l.B∧k=l.A)∨(i=l.A∧k=l.B) then l.Latency else linkD (ls.take n) i k:=fun i k=>by
   rw[hD];unfold linkStep updM;by_cases e1:i=l.B∧k=l.A
   ·rw[if_pos e1,if_pos (.inl e1)]
   ·rw[if_neg e1];by_cases e2:i=l.A∧k=l.B
    ·rw[if_pos e2,if_pos (.inr e2)]
    ·rw[if_neg e2,if_neg (by rintro (h|h) <;> contradiction)]
  refine⟨fun i k=>?_,fun i hi=>?_,fun i k hi hk' hne h0=>?_,fun x hx=>?_⟩
  ·rw[val];split
   ·exact .inr hAB.2
   ·exact ih.neg i k
  ·rw[val,if_neg (by rintro (⟨h1,h2⟩|⟨h1,h2⟩) <;> exact hAB.1 (by omega))]
   exact ih.self i hi
  ·rw[val]at h0 ⊢
   split at h0
   ·rename_i e
    rw[if_pos e];exact⟨l,hlm,by omega,rfl⟩
   ·rename_i e
    rw[if_neg e];obtain⟨x,hx,h1,h2⟩:=ih.link i k hi hk' hne h0
    exact⟨x,List.mem_of_mem_take hx,h1,h2⟩
  ·rw[val,val];rw[hsp]at hx;rcases List.mem_append.1 hx with hx|hx
   ·have hne:=hfresh x hx
    have h1:¬((x.A=l.B∧x.B=l.A)∨(x.A=l.A∧x.B=l.B)):=fun e=>hne (by
     unfold linkKey;rcases e with⟨e1,e2⟩|⟨e1,e2⟩
     ·rw[e1,e2];simp only[Prod.mk.injEq];omega
     ·rw[e1,e2])
    have h2:¬((x.B=l.B∧x.A=l.A)∨(x.B=l.A∧x.A=l.B)):=fun e=>h1 (by omega)
    rw[if_neg h1,if_neg h2];exact ih.has x hx
   ·have:=List.mem_singleton.1 hx
    subst this;rw[if_pos (.inr ⟨rfl,rfl⟩),if_pos (.inl ⟨rfl,rfl⟩)];exact⟨rfl,rfl⟩
def farV:Int:=1152921504606846976
def fM(D:Mx):Mx:=fun a b=>if D a b<0 then farV else D a b
theorem fM_upd{D:Mx}{i k v:Int}(hv:0≤v):updM (fM D) i k v=fM (updM D i k v):=by
 funext a b
 unfold fM updM;by_cases e:a=i∧b=k
 ·rw[if_pos e,if_pos e,if_neg (by omega)]
 ·rw[if_neg e,if_neg e]
theorem fM_bound{D:Mx}{a b B:Int}(h:-1≤D a b∧D a b≤B)(hB:B≤farV):0≤fM D a b∧fM D a b≤farV:=by
 unfold fM farV at *
 split <;> omega
theorem fM_relax{D:Mx}{m i k:Int}(h1:-1≤D i m∧D i m≤1000000000)(h2:-1≤D m k∧D m k≤1000000000)(h3:-1≤D i k∧D i k≤1000000000) :
  updM (fM D) i k (min (fM D i k) (fM D i m+fM D m k))=fM (if relaxB D m i k=true then updM D i k (D i m+D m k) else D):=by
 funext a b
 by_cases e:a=i∧b=k
 ·obtain⟨rfl,rfl⟩:=e;have hl:updM (fM D) a b (min (fM D a b) (fM D a m+fM D m b)) a b=min (fM D a b) (fM D a m+fM D m b):=by unfold updM;rw[if_pos ⟨rfl,rfl⟩]
  rw[hl];by_cases c:relaxB D m a b=true
  ·rw[if_pos c];unfold relaxB at c;simp only[Bool.and_eq_true,Bool.or_eq_true,decide_eq_true_eq]at c
   have hr:fM (updM D a b (D a m+D m b)) a b=D a m+D m b:=by
    have e2:updM D a b (D a m+D m b) a b=D a m+D m b:=by unfold updM;rw[if_pos ⟨rfl,rfl⟩]
    unfold fM;rw[e2,if_neg (by omega)]
   rw[hr];unfold fM farV;rw[if_neg (show ¬D a m<0 by omega),if_neg (show ¬D m b<0 by omega)]
   split <;> omega
  ·rw[if_neg c];unfold relaxB at c;simp only[Bool.and_eq_true,Bool.or_eq_true,decide_eq_true_eq]at c
   unfold fM farV;split <;> split <;> split <;> omega
 ·have hl:updM (fM D) i k (min (fM D i k) (fM D i m+fM D m k)) a b=fM D a b:=by unfold updM;rw[if_neg e]
  rw[hl];have e2:(if relaxB D m i k=true then updM D i k (D i m+D m k) else D) a b=D a b:=by
   split
   ·unfold updM;rw[if_neg e]
   ·rfl
  unfold fM;rw[e2]
def sumZ(f:Nat→Int):Nat→Int
 | 0=>0
 | k+1=>sumZ f k+f k
theorem sumZ_le{f g:Nat→Int}:∀ {k:Nat},(∀i,i<k→f i≤g i)→sumZ f k≤sumZ g k
 | 0,_=>Int.le_refl _
 | k+1,h=>by
  have h1:=sumZ_le (k:=k) fun i hi=>h i (by omega)
  have h2:=h k (by omega)
  simp only[sumZ];omega
theorem sumZ_congr{f g:Nat→Int}:∀ {k:Nat},(∀i,i<k→f i=g i)→sumZ f k=sumZ g k
 | 0,_=>rfl
 | k+1,h=>by
  simp only[sumZ];rw[sumZ_congr (k:=k) fun i hi=>h i (by omega),h k (by omega)]
theorem sumZ_add{f g:Nat→Int}:∀ {k:Nat},sumZ (fun i=>f i+g i) k=sumZ f k+sumZ g k
 | 0=>rfl
 | k+1=>by simp only[sumZ];rw[sumZ_add (k:=k)];omega
theorem sumZ_sub{f g:Nat→Int}:∀ {k:Nat},sumZ (fun i=>f i-g i) k=sumZ f k-sumZ g k
 | 0=>rfl
 | k+1=>by simp only[sumZ];rw[sumZ_sub (k:=k)];omega
theorem sumZ_one{c:Nat}{v:Int}:∀ {k:Nat},c<k→sumZ (fun i=>if i=c then v else 0) k=v
 | 0,h=>by omega
 | k+1,h=>by
  simp only[sumZ]
  by_cases e:c=k
  ·subst e;rw[if_pos rfl,sumZ_congr (g:=fun _=>0) fun i hi=>if_neg (by omega)]
   have:∀m,sumZ (fun _=>0) m=0:=fun m=>by induction m with|zero=>rfl|succ m ih=>simp only[sumZ];omega
   rw[this];omega
  ·rw[sumZ_one (k:=k) (by omega),if_neg (by omega)];omega
theorem sumZ_zero:∀ {k:Nat},sumZ (fun _=>0) k=0
 | 0=>rfl
 | k+1=>by simp only[sumZ];rw[sumZ_zero];rfl
theorem sumZ_cons(f:Nat→Int):∀k,sumZ f (k+1)=f 0+sumZ (fun i=>f (i+1)) k
 | 0=>by simp[sumZ]
 | k+1=>by rw[sumZ,sumZ_cons f k];simp only[sumZ];omega
def atI(x:List Int)(i:Nat):Int:=x.getD i (-1)
theorem atI_mem{x:List Int}{i:Nat}(h:i<x.length):atI x i∈x:=by
 unfold atI;rw[List.getD_eq_getElem?_getD,List.getElem?_eq_getElem h];exact List.getElem_mem h
theorem atI_set{x:List Int}{d:Nat}{v:Int}(hd:d<x.length)(i:Nat):atI (x.set d v) i=if i=d then v else atI x i:=by
 unfold atI;rw[List.getD_eq_getElem?_getD,List.getD_eq_getElem?_getD,List.getElem?_set];by_cases h:d=i
 ·subst h;simp[hd]
 ·rw[if_neg h,if_neg (fun e=>h e.symm)]
theorem map_sum{f:Int→Int}:∀(x:List Int),(x.map f).sum=sumZ (fun i=>f (atI x i)) x.length
 | []=>rfl
 | v::x=>by
  rw[List.map_cons,List.sum_cons,List.length_cons,sumZ_cons,map_sum x];rfl
theorem count_sum{n:Nat}{f:Int→Int}:∀(x:List Int),(∀v∈x,0≤v∧v<n)→(x.map f).sum=sumZ (fun u=>(x.count (u:Int):Int)*f u) n
 | [],_=>by simp[sumZ_zero]
 | v::x,h=>by
  rw[List.map_cons,List.sum_cons,count_sum x fun u hu=>h u (by simp[hu])]
  have hv:=h v (by simp)
  have h1:sumZ (fun u=>(((v::x).count (u:Int):Nat):Int)*f u) n=sumZ (fun u=>((x.count (u:Int):Nat):Int)*f u+if u=v.toNat then f v else 0) n:=sumZ_congr fun u hu=>by
   rw[List.count_cons];by_cases e:v=(u:Int)
   ·subst e;rw[if_pos (by simp),if_pos (by omega)]
    push_cast;rw[Int.add_mul];omega
   ·rw[if_neg (by simpa using e),if_neg (by omega)];simp
  rw[h1,sumZ_add,sumZ_one (by omega)];omega
def costA(a:Nat→Int→Int)(x:List Int):Int:=sumZ (fun i=>a i (atI x i)) x.length
structure Full(n cap:Nat)(x:List Int):Prop where
 rng:∀v∈x,0≤v∧v<n
 cap:∀u:Nat,u<n→x.count (u:Int)≤cap
structure Pot(n cap:Nat)(a:Nat→Int→Int)(x:List Int)(π:Int→Int):Prop where
 rng:∀i,i<x.length→-1≤atI x i∧atI x i<n
 neg:∀u:Nat,u<n→π u≤0
 lo:∀u:Nat,u<n→-100000000000≤π u
 dev:∀i,i<x.length→0≤atI x i→∀z:Nat,z<n→π z≤π (atI x i)+a i z-a i (atI x i)
 room:∀u:Nat,u<n→x.count (u:Int)<cap→π u=0
 cap:∀u:Nat,u<n→x.count (u:Int)≤cap
section
variable {n cap:Nat}{a:Nat→Int→Int}{x y:List Int}{π:Int→Int}
theorem dual_sum(hx:∀v∈x,0≤v∧v<n)(hy:∀v∈y,0≤v∧v<n)(hl:y.length=x.length){p:Int→Int}(h:∀u:Nat,u<n→0≤((y.count (u:Int):Int)-x.count (u:Int))*p u) :
  sumZ (fun i=>p (atI x i)) x.length≤sumZ (fun i=>p (atI y i)) x.length:=by
 rw[←map_sum,←hl,←map_sum,count_sum x hx,count_sum y hy];refine sumZ_le fun u hu=>?_
 have:=h u hu
 rw[Int.sub_mul]at this;omega
theorem Pot.least(hp:Pot n cap a x π)(hx:∀v∈x,0≤v∧v<n)(hy:Full n cap y)(hl:y.length=x.length):costA a x≤costA a y:=by
 have h1:=dual_sum (p:=π) hx hy.rng hl fun u hu=>by
  by_cases c:x.count (u:Int)<cap
  ·rw[hp.room u hu c];simp
  ·have:=hp.cap u hu
   have:=hy.cap u hu
   exact Int.mul_nonneg_of_nonpos_of_nonpos (by omega) (hp.neg u hu)
 have h2:sumZ (fun i=>π (atI y i)-π (atI x i)) x.length≤sumZ (fun i=>a i (atI y i)-a i (atI x i)) x.length:=sumZ_le fun i hi=>by
  have m1:=hx _ (atI_mem hi)
  have m2:=hy.rng _ (atI_mem (x:=y) (i:=i) (by omega))
  have:=hp.dev i hi m1.1 (atI y i).toNat (by omega)
  rw[show (((atI y i).toNat:Nat):Int)=atI y i by omega]at this
  omega
 rw[sumZ_sub,sumZ_sub]at h2;unfold costA;rw[hl];omega
end
structure GOk(n cap first:Nat)(a:Nat→Int→Int)(x:List Int)(W V:Nat→Nat→Int):Prop where
 real:∀u v,u≤n→v≤n→W u v<farV →
  (u<n∧v=n∧x.count (u:Int)<cap∧W u v=0∧V u v = -1)∨(u=n∧v<n∧0<x.count (v:Int)∧W u v=0∧V u v = -1) ∨
  (u<n∧v<n∧u≠v∧∃d:Nat,first≤d∧d<x.length∧V u v=d∧atI x d=u∧W u v=a d v-a d u)
 dev:∀d u v:Nat,first≤d→d<x.length→atI x d=(u:Int)→u<n→v<n→u≠v→W u v≤a d v-a d u
 out:∀u,u<n→x.count (u:Int)<cap→W u n≤0
 inn:∀v,v<n→0<x.count (v:Int)→W n v≤0
def PotG(n:Nat)(W:Nat→Nat→Int)(φ:Nat→Int):Prop:=∀u v,u≤n→v≤n→W u v<farV→φ v≤φ u+W u v
def phiN(n:Nat)(π:Int→Int)(u:Nat):Int:=if u<n then π u else 0
theorem Pot.graph{n cap first:Nat}{a:Nat→Int→Int}{x:List Int}{π:Int→Int}{W V:Nat→Nat→Int}(hp:Pot n cap a x π)(hg:GOk n cap first a x W V):PotG n W (phiN n π):=fun u v hu hv hw=>by
 unfold phiN;rcases hg.real u v hu hv hw with⟨h1,h2,h3,h4,-⟩|⟨h1,h2,h3,h4,-⟩|⟨h1,h2,h3,d,h4,h5,h6,h7,h8⟩
 ·rw[if_neg (by omega),if_pos h1,hp.room u h1 h3];omega
 ·rw[if_pos h2,if_neg (by omega)];have:=hp.neg v h2;omega
 ·rw[if_pos h2,if_pos h1];have:=hp.dev d h5 (by omega) v h2
  rw[h7]at this;omega
inductive Bk (n:Nat) (W:Nat→Nat→Int) (D:Nat→Int) (R:Nat→Int) (s:Nat):Nat→List Nat→Prop
 | nil:Bk n W D R s s [s]
 | cons {u v:Nat} {l:List Nat}:v≠s→u≤n→v≤n→R v=u→W u v<farV→D u<farV→D u+W u v≤D v→Bk n W D R s u l→Bk n W D R s v (v::l)
def setN(f:Nat→Int)(v:Nat)(z:Int):Nat→Int:=fun k=>if k=v then z else f k
section
variable {n s:Nat}{W:Nat→Nat→Int}{D R:Nat→Int}{φ:Nat→Int}
theorem Bk.det{v:Nat}{l:List Nat}(h:Bk n W D R s v l):∀ {l'},Bk n W D R s v l'→l=l':=by
 induction h with
 | nil=>intro l' h';cases h' with|nil=>rfl|cons h1=>exact absurd rfl h1
 | cons h1 h2 h3 h4 h5 h6 h7 h8 ih=>
  intro l' h';cases h' with
  | nil=>exact absurd rfl h1
  | cons g1 g2 g3 g4 g5 g6 g7 g8=>
   have:(_:Int)=_:=h4.symm.trans g4
   have e:=Int.ofNat.inj this
   subst e;rw[ih g8]
theorem Bk.sub{v:Nat}{l:List Nat}(h:Bk n W D R s v l):∀ {z},z∈l→∃l',Bk n W D R s z l'∧l'.length≤l.length:=by
 induction h with
 | nil=>intro z hz;simp at hz;subst hz;exact⟨_,.nil,Nat.le_refl _⟩
 | cons h1 h2 h3 h4 h5 h6 h7 h8 ih=>
  intro z hz;rcases List.mem_cons.1 hz with rfl|hz
  ·exact⟨_,.cons h1 h2 h3 h4 h5 h6 h7 h8,Nat.le_refl _⟩
  ·obtain⟨l',g1,g2⟩:=ih hz
   exact⟨l',g1,by simp;omega⟩
theorem Bk.nodup{v:Nat}{l:List Nat}(h:Bk n W D R s v l):l.Nodup:=by
 induction h with
 | nil=>simp
 | cons h1 h2 h3 h4 h5 h6 h7 h8 ih=>
  refine List.nodup_cons.2 ⟨fun hm=>?_,ih⟩
  obtain⟨l',g1,g2⟩:=h8.sub hm
  have:=(Bk.cons h1 h2 h3 h4 h5 h6 h7 h8).det g1
  rw[←this]at g2;simp only[List.length_cons]at g2;omega
theorem Bk.le{v:Nat}{l:List Nat}(h:Bk n W D R s v l)(hs:s≤n):∀z∈l,z≤n:=by
 induction h with
 | nil=>intro z hz;simp at hz;omega
 | cons h1 h2 h3 h4 h5 h6 h7 h8 ih=>
  intro z hz;rcases List.mem_cons.1 hz with rfl|hz
  ·exact h3
  ·exact ih z hz
theorem Bk.mono(hφ:PotG n W φ){v:Nat}{l:List Nat}(h:Bk n W D R s v l):∀z∈l,D z-φ z≤D v-φ v:=by
 induction h with
 | nil=>intro z hz;simp at hz;subst hz;omega
 | @cons u v l h1 h2 h3 h4 h5 h6 h7 h8 ih=>
  intro z hz;rcases List.mem_cons.1 hz with rfl|hz
  ·omega
  ·have:=ih z hz
   have:=hφ u v h2 h3 h5
   omega
structure PI(n:Nat)(W:Nat→Nat→Int)(φ:Nat→Int)(s:Nat)(D R:Nat→Int):Prop where
 src:D s=0
 far:∀v,v≤n→D v≤farV
 low:∀v,v≤n→D v<farV→φ v-φ s≤D v
 back:∀v,v≤n→D v<farV→∃l,Bk n W D R s v l
theorem PI.relax(hφ:PotG n W φ)(h:PI n W φ s D R){u v:Nat}(hs:s≤n)(hu:u≤n)(hv:v≤n)(h1:D u<farV)(h2:W u v<farV)(h3:D u+W u v<D v) :
  PI n W φ s (setN D v (D u+W u v)) (setN R v u):=by
 have hp:=hφ u v hu hv h2
 have hl:=h.low u hu h1
 have hvs:v≠s:=fun e=>by subst e;have:=h.src;omega
 obtain⟨l,hb⟩:=h.back u hu h1
 have hnl:v∉l:=fun hm=>by have:=hb.mono hφ v hm;omega
 have huv:u≠v:=fun e=>by subst e;omega
 have keep:∀ {z l},Bk n W D R s z l→v∉l→Bk n W (setN D v (D u+W u v)) (setN R v u) s z l:=fun {z l} hz=>by
  induction hz with
  | nil=>intro _;exact .nil
  | @cons a b l g1 g2 g3 g4 g5 g6 g7 g8 ih=>
   intro hn;have hb2:b≠v:=fun e=>hn (by simp[e])
   have ha:a≠v:=fun e=>hn (by cases g8 <;> simp[e])
   exact .cons g1 g2 g3 (by unfold setN;rw[if_neg hb2];exact g4) g5 (by unfold setN;rw[if_neg ha];exact g6) (by unfold setN;rw[if_neg ha,if_neg hb2];exact g7) (ih fun hm=>hn (by simp[hm]))
 have new:∀ {z l},Bk n W D R s z l→∃l',Bk n W (setN D v (D u+W u v)) (setN R v u) s z l':=fun {z l} hz=>by
  induction hz with
  | nil=>exact⟨_,.nil⟩
  | @cons a b l g1 g2 g3 g4 g5 g6 g7 g8 ih=>
   by_cases e:b=v
   ·subst e;exact⟨_,.cons g1 hu hv (by unfold setN;rw[if_pos rfl]) h2 (by unfold setN;rw[if_neg huv];exact h1) (by unfold setN;rw[if_neg huv,if_pos rfl];omega) (keep hb hnl)⟩
   ·obtain⟨l',ih⟩:=ih;refine⟨_,.cons g1 g2 g3 (by unfold setN;rw[if_neg e];exact g4) g5 ?_ ?_ ih⟩
    ·have:=h.far v hv;unfold setN;split <;> omega
    ·unfold setN;rw[if_neg e];split
     ·rename_i ea;subst ea;omega
     ·exact g7
 refine⟨by unfold setN;rw[if_neg (fun e=>hvs e.symm)];exact h.src,fun z hz=>?_,fun z hz hf=>?_,fun z hz hf=>?_⟩
 ·unfold setN;split
  ·have:=h.far v hv;omega
  ·exact h.far z hz
 ·unfold setN at hf ⊢;split
  ·rename_i e;subst e;omega
  ·rename_i e;rw[if_neg e]at hf;exact h.low z hz hf
 ·by_cases e:z=v
  ·subst e;exact⟨_,.cons hvs hu hv (by unfold setN;rw[if_pos rfl]) h2 (by unfold setN;rw[if_neg huv];exact h1) (by unfold setN;rw[if_neg huv,if_pos rfl];omega) (keep hb hnl)⟩
  ·unfold setN at hf;rw[if_neg e]at hf;obtain⟨l',hb'⟩:=h.back z hz hf
   exact new hb'
theorem PI.start:PI n W φ s (setN (fun _=>farV) s 0) (fun _=>-1):=by
 refine⟨by unfold setN;rw[if_pos rfl],fun v _=>?_,fun v _ h=>?_,fun v _ h=>?_⟩
 ·unfold setN farV;split
  ·omega
  ·exact Int.le_refl _
 ·unfold setN at h ⊢
  split
  ·rename_i e;subst e;omega
  ·rename_i e;rw[if_neg e]at h;exact absurd h (Int.lt_irrefl _)
 ·unfold setN at h;by_cases e:v=s
  ·subst e;exact⟨_,.nil⟩
  ·rw[if_neg e]at h;exact absurd h (Int.lt_irrefl _)
structure PathsOk(n:Nat)(W:Nat→Nat→Int)(s:Nat)(D R:Nat→Int):Prop where
 src:D s=0
 far:∀v,v≤n→D v≤farV
 tri:∀u v,u≤n→v≤n→D u<farV→W u v<farV→D v≤D u+W u v
 back:∀v,v≤n→D v<farV→∃l,Bk n W D R s v l
end
end Go.Proofs.YthgighljhoneeaaGreat
end
