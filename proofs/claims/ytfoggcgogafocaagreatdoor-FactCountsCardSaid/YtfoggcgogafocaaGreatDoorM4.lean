/- Texts of this proof, one behind another. -/
import Derived.Test.YtfoggcgogafocaaGreatDoorM3
set_option linter.unusedVariables false
set_option linter.unusedSimpArgs false
section
open Go Mk
namespace Go.Proofs.YtfoggcgogafocaaGreatDoor
set_option maxHeartbeats 4000000
attribute [local irreducible] Calls
def maxS:Nat:=4611686018427387904
def HwSz(H:HwT):Prop:=H.Name.size≤maxS∧(∀c∈H.Caches,c.Name.size≤maxS)∧(∀c∈H.Mems,c.Name.size≤maxS)∧∀c∈H.Devs,c.Name.size≤maxS
class HwR(Γ:Gho)(u:Value)(H:outParam HwT):Prop where
 h:∃(a1:Option Addr) (n1 c1:Nat) (a2:Option Addr) (n2 c2:Nat) (a3:Option Addr) (n3 c3:Nat) (a4:Option Addr) (n4 c4:Nat) (a5:Option Addr) (n5 c5:Nat) (cs:List CacheH),
  u=.agg #[.string H.Name,.slice a1 n1 c1,.slice a2 n2 c2,.slice a3 n3 c3,.slice a4 n4 c4,.slice a5 n5 c5]∧cs.map CacheH.T=H.Caches∧(∀c∈cs,COk Γ c)∧HwSz H ∧
  RepS Γ (.slice a1 n1 c1) 4 (H.Cores.map enc)∧RepS Γ (.slice a2 n2 c2) 5 (cs.map cC)∧RepS Γ (.slice a3 n3 c3) 3 (H.Links.map enc)∧RepS Γ (.slice a4 n4 c4) 5 (H.Mems.map enc)∧RepS Γ (.slice a5 n5 c5) 5 (H.Devs.map enc)
theorem HwR.mono{Γ Γ':Gho}{u:Value}{H:HwT}(hh:HwR Γ u H)(hle:Γ.le Γ'):HwR Γ' u H:=by
 obtain⟨a1,n1,c1,a2,n2,c2,a3,n3,c3,a4,n4,c4,a5,n5,c5,cs,h1,h2,h3,h4,r1,r2,r3,r4,r5⟩:=hh.h;exact⟨a1,n1,c1,a2,n2,c2,a3,n3,c3,a4,n4,c4,a5,n5,c5,cs,h1,h2,fun c hc=>RepS.mono (h3 c hc) hle,h4,r1.mono hle,r2.mono hle,r3.mono hle,r4.mono hle,r5.mono hle⟩
theorem rep_facts{Γ:Gho}{a:Option Addr}{n c sz:Nat}{rows:List (List Value)}(h:RepS Γ (.slice a n c) sz rows):n=rows.length∧n≤c∧c≤9223372036854775807:=by
 obtain⟨_,_,_,h1,h2,h3⟩:=h.shape;cases h1;exact⟨h2,h3⟩
theorem COk.facts{Γ:Gho}{c:CacheH}(h:COk Γ c):c.N=c.Cores.length∧c.N≤c.C∧c.C≤9223372036854775807:=by
 have:=rep_facts h
 simpa[intRows] using this
section
variable {α:Type}{l:List α}{p:α→Bool}{k:Nat}{x:α}
theorem all_step(h:∀i x,i<k→l[i]? = some x→p x=true)(hx:l[k]? = some x)(ht:p x=true):∀i x,i<k+1→l[i]? = some x→p x=true:=fun i y hi hy=>by
 by_cases e:i=k
 ·subst e;rw[hx]at hy;cases hy;exact ht
 ·exact h i y (by omega) hy
theorem all_end(h:∀i x,i<k→l[i]? = some x→p x=true)(hk:l.length≤k):l.all p=true:=by
 rw[List.all_eq_true];intro x hm;obtain⟨i,hi,hx⟩:=List.getElem_of_mem hm
 exact h i x (by omega) (by rw[List.getElem?_eq_getElem hi,hx])
theorem all_no(hx:l[k]? = some x)(hf:p x=false):l.all p=false:=by
 rw[List.all_eq_false];exact⟨x,List.mem_of_getElem? hx,by rw[hf];simp⟩
theorem and_no1{a b:Bool}(h:a=false):(a&&b)=false:=by rw[h];rfl
theorem and_no2{a b:Bool}(h:b=false):(a&&b)=false:=by rw[h];simp
end
def isNodeB(n:Int):Bool:=decide (0≤n)&&decide (n<64)
def isLatB(n:Int):Bool:=decide (1≤n)&&decide (n≤1000000)
instance pc_isNode(n:Int):PC Tryz.prog 76 [.int .i64 n] (.bool (isNodeB n)):=⟨fun w=>by
 refine calls_of_W Tryz.func76 rfl rfl ?_
 refine byG ?_;exact⟨_,rfl,rfl,rfl⟩⟩
instance pc_isLatency(n:Int):PC Tryz.prog 77 [.int .i64 n] (.bool (isLatB n)):=⟨fun w=>by
 refine calls_of_W Tryz.func77 rfl rfl ?_
 refine byG ?_;exact⟨_,rfl,rfl,rfl⟩⟩
def inSpaceB(b s:Int):Bool:=(decide (4096≤s)&&decide (s≤1099511627776))&&decide (b≤IntKind.u64.wrap (1099511627776-s))
theorem pc_inSpace(b s:Int):PC Tryz.prog 78 [.int .u64 b,.int .u64 s] (.bool (inSpaceB b s)):=⟨fun w=>by
 refine calls_of_W Tryz.func78 rfl rfl ?_
 refine byG ?_;exact⟨_,rfl,rfl,rfl⟩⟩
def coreRB(c:CoreT):Bool:=decide (0≤c.ID)&&decide (c.ID<32)&&(decide (c.Width=32)||decide (c.Width=39))&&decide (1≤c.Speed)&&decide (c.Speed≤1000000)&&isNodeB c.Node
def cacheRB(c:CacheT):Bool:=decide (1≤c.Level)&&decide (c.Level≤4)&&decide (16≤c.Line)&&decide (c.Line≤256)&&decide (bitsZ .and .i64 c.Line (IntKind.i64.wrap (c.Line-1))=0)&&decide (IntKind.u64.wrap c.Line≤c.Size)&&decide (c.Size≤1099511627776)&&decide (0<c.Cores.length)
def cacheRH(c:CacheH):Bool:=cacheRB c.T
theorem all_cache(cs:List CacheH):(cs.map CacheH.T).all cacheRB=cs.all cacheRH:=by rw[List.all_map];rfl
def linkRB(l:LinkT):Bool:=isNodeB l.A&&isNodeB l.B&&decide (l.A≠l.B)&&isLatB l.Latency
def memRB(m:MemT):Bool:=isNodeB m.Node&&isLatB m.Latency&&inSpaceB m.Base m.Size
def devRB(d:DevT):Bool:=isNodeB d.Node&&decide (0≤d.IRQ)&&decide (d.IRQ<256)&&inSpaceB d.Base d.Size
def memAB(m:MemT):Bool:=decide (bitsZ .and .u64 m.Size (IntKind.u64.wrap (m.Size-1))=0)&&decide (bitsZ .and .u64 m.Base (IntKind.u64.wrap (m.Size-1))=0)
def devAB(d:DevT):Bool:=decide (d.Base.tmod 4096=0)&&decide (d.Size.tmod 4096=0)
def coresRB(H:HwT):Bool:=H.Cores.all coreRB&&(H.Caches.all cacheRB&&H.Links.all linkRB)
def regionsRB(H:HwT):Bool:=H.Mems.all memRB&&H.Devs.all devRB
def alignRB(H:HwT):Bool:=H.Mems.all memAB&&H.Devs.all devAB
def countsB(H:HwT):Bool:=decide (1≤H.Cores.length)&&decide (H.Cores.length≤32)&&decide (H.Caches.length≤64)&&decide (H.Links.length≤256)&&decide (H.Mems.length≤64)&&decide (H.Devs.length≤32)
theorem mem_key(x:MemT):(!isNodeB x.Node || !isLatB x.Latency || !inSpaceB x.Base x.Size) = !memRB x:=by
 simp only[memRB,Bool.not_and]
theorem dev_key(x:DevT):(!isNodeB x.Node||decide (x.IRQ<0)||decide (256≤x.IRQ) || !inSpaceB x.Base x.Size) = !devRB x:=by
 simp only[devRB,Bool.not_and,←decide_not,Int.not_le,Int.not_lt]
theorem mema_key(x:MemT):(decide (bitsZ .and .u64 x.Size (IntKind.u64.wrap (x.Size-1))≠0)||decide (bitsZ .and .u64 x.Base (IntKind.u64.wrap (x.Size-1))≠0)) = !memAB x:=by
 simp only[memAB,Bool.not_and,←decide_not,ne_eq]
theorem deva_key(x:DevT):(decide (x.Base.tmod 4096≠0)||decide (x.Size.tmod 4096≠0)) = !devAB x:=by
 simp only[devAB,Bool.not_and,←decide_not,ne_eq]
theorem cache_key(x:CacheH)(hn:x.N=x.Cores.length):(decide (x.Level<1)||decide (4<x.Level)||decide (x.Line<16)||decide (256<x.Line)||decide (bitsZ .and .i64 x.Line (IntKind.i64.wrap (x.Line-1))≠0)||decide (x.Size<IntKind.u64.wrap x.Line)||decide (1099511627776<x.Size)||decide ((x.N:Int)=0)) = !cacheRH x:=by
 have h:decide ((x.N:Int)=0) = !decide (0<x.Cores.length):=by rw[←decide_not];exact decide_eq_decide.2 (by omega)
 rw[h];have nle:∀a b:Int,decide (a≤b) = !decide (b<a):=fun a b=>by rw[←decide_not];exact decide_eq_decide.2 Int.not_lt.symm
 show _ = !(decide (1≤x.Level)&&decide (x.Level≤4)&&decide (16≤x.Line)&&decide (x.Line≤256)&&decide (bitsZ .and .i64 x.Line (IntKind.i64.wrap (x.Line-1))=0)&&decide (IntKind.u64.wrap x.Line≤x.Size)&&decide (x.Size≤1099511627776)&&decide (0<x.Cores.length))
 rw[nle 1,nle x.Level,nle 16,nle x.Line,nle (IntKind.u64.wrap x.Line),nle x.Size,show decide (bitsZ .and .i64 x.Line (IntKind.i64.wrap (x.Line-1))≠0) = !decide (bitsZ .and .i64 x.Line (IntKind.i64.wrap (x.Line-1))=0) from decide_not];simp only[Bool.not_and,Bool.not_not]
theorem key_no{a b:Bool}(h:a = !b)(h2:a=true):b=false:=by subst h;simpa using h2
theorem key_yes{a b:Bool}(h:a = !b)(h2:a=false):b=true:=by subst h;simpa using h2
instance pg_coresInRange{Γ:Gho}{u:Value}{H:HwT}[hh:HwR Γ u H]:PG Tryz.prog Γ 33 [u] (.bool (coresRB H)):=⟨fun S w hw=>by
 obtain⟨a1,n1,c1,a2,n2,c2,a3,n3,c3,a4,n4,c4,a5,n5,c5,cs,rfl,hcs,hok,hsz,r1,r2,r3,r4,r5⟩:=hh.h;obtain⟨hn1,hm1,hx1⟩:=rep_facts r1
 obtain⟨hn2,hm2,hx2⟩:=rep_facts r2
 obtain⟨hn3,hm3,hx3⟩:=rep_facts r3
 obtain⟨hn4,hm4,hx4⟩:=rep_facts r4
 obtain⟨hn5,hm5,hx5⟩:=rep_facts r5
 simp only[List.length_map]at hn1 hn2 hn3 hn4 hn5
 refine calls_of_W Tryz.func33 rfl rfl ?_
 refine byG ?_;refine lBox ?_;intro b1 w hw;have hw:Wd Γ (.blk b1 (.cells #[.string H.Name,.slice a1 n1 c1,.slice a2 n2 c2,.slice a3 n3 c3,.slice a4 n4 c4,.slice a5 n5 c5] 30)::S) w:=hw
 refine byG ?_;refine W_loop (fun μ ρ w=>∃(k:Nat),μ+k=n1∧Has ρ [(1,.pointer (some ⟨b1,0,none⟩)),(10,.slice a1 n1 c1),(11,.int .i64 n1),(12,.int .i64 k)]∧(∀i x,i<k→(H.Cores)[i]? = some x→coreRB x=true)∧Wd Γ (.blk b1 (.cells #[.string H.Name,.slice a1 n1 c1,.slice a2 n2 c2,.slice a3 n3 c3,.slice a4 n4 c4,.slice a5 n5 c5] 30)::S) w) n1 ⟨0,by omega,⟨rfl,rfl,rfl,rfl,trivial⟩,fun i x h=>by omega,hw⟩ ?_
 clear hw;rintro μ ρ w ⟨k,hk,hρ,hall,hw⟩
 rw[hρ.eq];refine byG ?_;refine W_cond rfl (fun h=>?_) (fun h=>?_)
 ·have hkn:k<n1:=by simpa using h
  obtain⟨x,hx⟩:=get_lt (l:=H.Cores) (k:=k) (by omega)
  refine byG ?_;refine lAlloc ?_;intro b9 w hw;refine lStore ?_;intro w hw;have hw:Wd Γ (.blk b9 (.cells (enc x).toArray 74)::.blk b1 (.cells #[.string H.Name,.slice a1 n1 c1,.slice a2 n2 c2,.slice a3 n3 c3,.slice a4 n4 c4,.slice a5 n5 c5] 30)::S) w:=hw
  refine byG ?_;refine W_cond rfl (fun h2=>?_) (fun h2=>?_)
  ·have hf:coreRB x=false:=by
    simp[coreRB,isNodeB]at h2 ⊢;omega
   refine byG ?_;exact⟨_,rfl,ret_b rfl (by exact(and_no1 (all_no hx hf)).symm),hw.drop.drop⟩
  ·have ht:coreRB x=true:=by
    simp[coreRB,isNodeB]at h2 ⊢;omega
   refine byG ?_;exact⟨μ-1,by omega,k+1,by omega,⟨rfl,rfl,rfl,rfl,trivial⟩,all_step hall hx ht,hw.drop⟩
 have hAc:(H.Cores).all coreRB=true:=all_end hall (by have hkn:¬k<n1:=(by simpa using h);omega)
 clear h hall hρ hk;refine byG ?_;refine W_loop (fun μ ρ w=>∃(k:Nat),μ+k=n2∧Has ρ [(1,.pointer (some ⟨b1,0,none⟩)),(52,.slice a2 n2 c2),(53,.int .i64 n2),(54,.int .i64 k)]∧(∀i x,i<k→(cs)[i]? = some x→cacheRH x=true)∧Wd Γ (.blk b1 (.cells #[.string H.Name,.slice a1 n1 c1,.slice a2 n2 c2,.slice a3 n3 c3,.slice a4 n4 c4,.slice a5 n5 c5] 30)::S) w) n2 ⟨0,by omega,⟨rfl,rfl,rfl,rfl,trivial⟩,fun i x h=>by omega,hw⟩ ?_
 clear hw;rintro μ ρ w ⟨k,hk,hρ,hall,hw⟩
 rw[hρ.eq];refine byG ?_;refine W_cond rfl (fun h=>?_) (fun h=>?_)
 ·have hkn:k<n2:=by simpa using h
  obtain⟨x,hx⟩:=get_lt (l:=cs) (k:=k) (by omega)
  have hcx:=(hok x (List.mem_of_getElem? hx)).facts
  refine byG ?_;refine lAlloc ?_;intro b9 w hw;refine lStore ?_;intro w hw;have hw:Wd Γ (.blk b9 (.cells (cC x).toArray 38)::.blk b1 (.cells #[.string H.Name,.slice a1 n1 c1,.slice a2 n2 c2,.slice a3 n3 c3,.slice a4 n4 c4,.slice a5 n5 c5] 30)::S) w:=hw
  refine byG ?_;refine W_cond rfl (fun h2=>?_) (fun h2=>?_)
  ·have hf:cacheRH x=false:=by
    exact key_no (cache_key x hcx.1) h2
   refine byG ?_;exact⟨_,rfl,ret_b rfl (by rw[coresRB,←hcs,all_cache,hAc];exact(and_no2 (and_no1 (all_no hx hf))).symm),hw.drop.drop⟩
  ·have ht:cacheRH x=true:=by
    exact key_yes (cache_key x hcx.1) h2
   refine byG ?_;exact⟨μ-1,by omega,k+1,by omega,⟨rfl,rfl,rfl,rfl,trivial⟩,all_step hall hx ht,hw.drop⟩
 have hAh:(cs).all cacheRH=true:=all_end hall (by have hkn:¬k<n2:=(by simpa using h);omega)
 clear h hall hρ hk;refine byG ?_;refine W_loop (fun μ ρ w=>∃(k:Nat),μ+k=n3∧Has ρ [(1,.pointer (some ⟨b1,0,none⟩)),(106,.slice a3 n3 c3),(107,.int .i64 n3),(108,.int .i64 k)]∧(∀i x,i<k→(H.Links)[i]? = some x→linkRB x=true)∧Wd Γ (.blk b1 (.cells #[.string H.Name,.slice a1 n1 c1,.slice a2 n2 c2,.slice a3 n3 c3,.slice a4 n4 c4,.slice a5 n5 c5] 30)::S) w) n3 ⟨0,by omega,⟨rfl,rfl,rfl,rfl,trivial⟩,fun i x h=>by omega,hw⟩ ?_
 clear hw;rintro μ ρ w ⟨k,hk,hρ,hall,hw⟩
 rw[hρ.eq];refine byG ?_;refine W_cond rfl (fun h=>?_) (fun h=>?_)
 ·have hkn:k<n3:=by simpa using h
  obtain⟨x,hx⟩:=get_lt (l:=H.Links) (k:=k) (by omega)
  refine byG ?_;refine lAlloc ?_;intro b9 w hw;refine lStore ?_;intro w hw;have hw:Wd Γ (.blk b9 (.cells (enc x).toArray 76)::.blk b1 (.cells #[.string H.Name,.slice a1 n1 c1,.slice a2 n2 c2,.slice a3 n3 c3,.slice a4 n4 c4,.slice a5 n5 c5] 30)::S) w:=hw
  refine byG ?_;refine W_cond rfl (fun h2=>?_) (fun h2=>?_)
  ·have hf:linkRB x=false:=by
    simp[linkRB,isNodeB,isLatB]at h2 ⊢;omega
   refine byG ?_;exact⟨_,rfl,ret_b rfl (by rw[coresRB,←hcs,all_cache,hAc,hAh];exact(and_no2 (and_no2 (all_no hx hf))).symm),hw.drop.drop⟩
  ·have ht:linkRB x=true:=by
    simp[linkRB,isNodeB,isLatB]at h2 ⊢;omega
   refine byG ?_;exact⟨μ-1,by omega,k+1,by omega,⟨rfl,rfl,rfl,rfl,trivial⟩,all_step hall hx ht,hw.drop⟩
 have hAl:(H.Links).all linkRB=true:=all_end hall (by have hkn:¬k<n3:=(by simpa using h);omega)
 clear h hall hρ hk;refine byG ?_;exact⟨_,rfl,ret_b rfl (by rw[coresRB,←hcs,all_cache,hAc,hAh,hAl];rfl),hw.drop⟩⟩
instance pg_regionsInRange{Γ:Gho}{u:Value}{H:HwT}[hh:HwR Γ u H]:PG Tryz.prog Γ 34 [u] (.bool (regionsRB H)):=⟨fun S w hw=>by
 obtain⟨a1,n1,c1,a2,n2,c2,a3,n3,c3,a4,n4,c4,a5,n5,c5,cs,rfl,hcs,hok,hsz,r1,r2,r3,r4,r5⟩:=hh.h;obtain⟨hn1,hm1,hx1⟩:=rep_facts r1
 obtain⟨hn2,hm2,hx2⟩:=rep_facts r2
 obtain⟨hn3,hm3,hx3⟩:=rep_facts r3
 obtain⟨hn4,hm4,hx4⟩:=rep_facts r4
 obtain⟨hn5,hm5,hx5⟩:=rep_facts r5
 simp only[List.length_map]at hn1 hn2 hn3 hn4 hn5
 refine calls_of_W Tryz.func34 rfl rfl ?_
 refine byG ?_;refine lBox ?_;intro b1 w hw;have hw:Wd Γ (.blk b1 (.cells #[.string H.Name,.slice a1 n1 c1,.slice a2 n2 c2,.slice a3 n3 c3,.slice a4 n4 c4,.slice a5 n5 c5] 30)::S) w:=hw
 refine byG ?_;refine W_loop (fun μ ρ w=>∃(k:Nat),μ+k=n4∧Has ρ [(1,.pointer (some ⟨b1,0,none⟩)),(3,.func (.func 78) #[] #[]),(9,.slice a4 n4 c4),(10,.int .i64 n4),(11,.int .i64 k)]∧(∀i x,i<k→(H.Mems)[i]? = some x→memRB x=true)∧Wd Γ (.blk b1 (.cells #[.string H.Name,.slice a1 n1 c1,.slice a2 n2 c2,.slice a3 n3 c3,.slice a4 n4 c4,.slice a5 n5 c5] 30)::S) w) n4 ⟨0,by omega,⟨rfl,rfl,rfl,rfl,rfl,trivial⟩,fun i x h=>by omega,hw⟩ ?_
 clear hw;rintro μ ρ w ⟨k,hk,hρ,hall,hw⟩
 rw[hρ.eq];refine byG ?_;refine W_cond rfl (fun h=>?_) (fun h=>?_)
 ·have hkn:k<n4:=by simpa using h
  obtain⟨x,hx⟩:=get_lt (l:=H.Mems) (k:=k) (by omega)
  refine byG ?_;refine lAlloc ?_;intro b9 w hw;refine lStore ?_;intro w hw;have hw:Wd Γ (.blk b9 (.cells (enc x).toArray 42)::.blk b1 (.cells #[.string H.Name,.slice a1 n1 c1,.slice a2 n2 c2,.slice a3 n3 c3,.slice a4 n4 c4,.slice a5 n5 c5] 30)::S) w:=hw
  refine byG ?_;refine lPvG (pc_inSpace x.Base x.Size) ?_
  refine byG ?_;refine W_cond rfl (fun h2=>?_) (fun h2=>?_)
  ·have hf:memRB x=false:=by
    exact key_no (mem_key x) h2
   refine byG ?_;exact⟨_,rfl,ret_b rfl (by exact(and_no1 (all_no hx hf)).symm),hw.drop.drop⟩
  ·have ht:memRB x=true:=by
    exact key_yes (mem_key x) h2
   refine byG ?_;exact⟨μ-1,by omega,k+1,by omega,⟨rfl,rfl,rfl,rfl,rfl,trivial⟩,all_step hall hx ht,hw.drop⟩
 have hAm:(H.Mems).all memRB=true:=all_end hall (by have hkn:¬k<n4:=(by simpa using h);omega)
 clear h hall hρ hk;refine byG ?_;refine W_loop (fun μ ρ w=>∃(k:Nat),μ+k=n5∧Has ρ [(1,.pointer (some ⟨b1,0,none⟩)),(3,.func (.func 78) #[] #[]),(36,.slice a5 n5 c5),(37,.int .i64 n5),(38,.int .i64 k)]∧(∀i x,i<k→(H.Devs)[i]? = some x→devRB x=true)∧Wd Γ (.blk b1 (.cells #[.string H.Name,.slice a1 n1 c1,.slice a2 n2 c2,.slice a3 n3 c3,.slice a4 n4 c4,.slice a5 n5 c5] 30)::S) w) n5 ⟨0,by omega,⟨rfl,rfl,rfl,rfl,rfl,trivial⟩,fun i x h=>by omega,hw⟩ ?_
 clear hw;rintro μ ρ w ⟨k,hk,hρ,hall,hw⟩
 rw[hρ.eq];refine byG ?_;refine W_cond rfl (fun h=>?_) (fun h=>?_)
 ·have hkn:k<n5:=by simpa using h
  obtain⟨x,hx⟩:=get_lt (l:=H.Devs) (k:=k) (by omega)
  refine byG ?_;refine lAlloc ?_;intro b9 w hw;refine lStore ?_;intro w hw;have hw:Wd Γ (.blk b9 (.cells (enc x).toArray 79)::.blk b1 (.cells #[.string H.Name,.slice a1 n1 c1,.slice a2 n2 c2,.slice a3 n3 c3,.slice a4 n4 c4,.slice a5 n5 c5] 30)::S) w:=hw
  refine byG ?_;refine lPvG (pc_inSpace x.Base x.Size) ?_
  refine byG ?_;refine W_cond rfl (fun h2=>?_) (fun h2=>?_)
  ·have hf:devRB x=false:=by
    exact key_no (dev_key x) h2
   refine byG ?_;exact⟨_,rfl,ret_b rfl (by rw[regionsRB,hAm];exact(all_no hx hf).symm),hw.drop.drop⟩
  ·have ht:devRB x=true:=by
    exact key_yes (dev_key x) h2
   refine byG ?_;exact⟨μ-1,by omega,k+1,by omega,⟨rfl,rfl,rfl,rfl,rfl,trivial⟩,all_step hall hx ht,hw.drop⟩
 have hAd:(H.Devs).all devRB=true:=all_end hall (by have hkn:¬k<n5:=(by simpa using h);omega)
 clear h hall hρ hk;refine byG ?_;exact⟨_,rfl,ret_b rfl (by rw[regionsRB,hAm,hAd];rfl),hw.drop⟩⟩
instance pg_alignedOK{Γ:Gho}{u:Value}{H:HwT}[hh:HwR Γ u H]:PG Tryz.prog Γ 35 [u] (.bool (alignRB H)):=⟨fun S w hw=>by
 obtain⟨a1,n1,c1,a2,n2,c2,a3,n3,c3,a4,n4,c4,a5,n5,c5,cs,rfl,hcs,hok,hsz,r1,r2,r3,r4,r5⟩:=hh.h;obtain⟨hn1,hm1,hx1⟩:=rep_facts r1
 obtain⟨hn2,hm2,hx2⟩:=rep_facts r2
 obtain⟨hn3,hm3,hx3⟩:=rep_facts r3
 obtain⟨hn4,hm4,hx4⟩:=rep_facts r4
 obtain⟨hn5,hm5,hx5⟩:=rep_facts r5
 simp only[List.length_map]at hn1 hn2 hn3 hn4 hn5
 refine calls_of_W Tryz.func35 rfl rfl ?_
 refine byG ?_;refine lBox ?_;intro b1 w hw;have hw:Wd Γ (.blk b1 (.cells #[.string H.Name,.slice a1 n1 c1,.slice a2 n2 c2,.slice a3 n3 c3,.slice a4 n4 c4,.slice a5 n5 c5] 30)::S) w:=hw
 refine byG ?_;refine W_loop (fun μ ρ w=>∃(k:Nat),μ+k=n4∧Has ρ [(1,.pointer (some ⟨b1,0,none⟩)),(8,.slice a4 n4 c4),(9,.int .i64 n4),(10,.int .i64 k)]∧(∀i x,i<k→(H.Mems)[i]? = some x→memAB x=true)∧Wd Γ (.blk b1 (.cells #[.string H.Name,.slice a1 n1 c1,.slice a2 n2 c2,.slice a3 n3 c3,.slice a4 n4 c4,.slice a5 n5 c5] 30)::S) w) n4 ⟨0,by omega,⟨rfl,rfl,rfl,rfl,trivial⟩,fun i x h=>by omega,hw⟩ ?_
 clear hw;rintro μ ρ w ⟨k,hk,hρ,hall,hw⟩
 rw[hρ.eq];refine byG ?_;refine W_cond rfl (fun h=>?_) (fun h=>?_)
 ·have hkn:k<n4:=by simpa using h
  obtain⟨x,hx⟩:=get_lt (l:=H.Mems) (k:=k) (by omega)
  refine byG ?_;refine lAlloc ?_;intro b9 w hw;refine lStore ?_;intro w hw;have hw:Wd Γ (.blk b9 (.cells (enc x).toArray 42)::.blk b1 (.cells #[.string H.Name,.slice a1 n1 c1,.slice a2 n2 c2,.slice a3 n3 c3,.slice a4 n4 c4,.slice a5 n5 c5] 30)::S) w:=hw
  refine byG ?_;refine W_cond rfl (fun h2=>?_) (fun h2=>?_)
  ·have hf:memAB x=false:=by
    exact key_no (mema_key x) h2
   refine byG ?_;exact⟨_,rfl,ret_b rfl (by exact(and_no1 (all_no hx hf)).symm),hw.drop.drop⟩
  ·have ht:memAB x=true:=by
    exact key_yes (mema_key x) h2
   refine byG ?_;exact⟨μ-1,by omega,k+1,by omega,⟨rfl,rfl,rfl,rfl,trivial⟩,all_step hall hx ht,hw.drop⟩
 have hAm:(H.Mems).all memAB=true:=all_end hall (by have hkn:¬k<n4:=(by simpa using h);omega)
 clear h hall hρ hk;refine byG ?_;refine W_loop (fun μ ρ w=>∃(k:Nat),μ+k=n5∧Has ρ [(1,.pointer (some ⟨b1,0,none⟩)),(32,.slice a5 n5 c5),(33,.int .i64 n5),(34,.int .i64 k)]∧(∀i x,i<k→(H.Devs)[i]? = some x→devAB x=true)∧Wd Γ (.blk b1 (.cells #[.string H.Name,.slice a1 n1 c1,.slice a2 n2 c2,.slice a3 n3 c3,.slice a4 n4 c4,.slice a5 n5 c5] 30)::S) w) n5 ⟨0,by omega,⟨rfl,rfl,rfl,rfl,trivial⟩,fun i x h=>by omega,hw⟩ ?_
 clear hw;rintro μ ρ w ⟨k,hk,hρ,hall,hw⟩
 rw[hρ.eq];refine byG ?_;refine W_cond rfl (fun h=>?_) (fun h=>?_)
 ·have hkn:k<n5:=by simpa using h
  obtain⟨x,hx⟩:=get_lt (l:=H.Devs) (k:=k) (by omega)
  refine byG ?_;refine lAlloc ?_;intro b9 w hw;refine lStore ?_;intro w hw;have hw:Wd Γ (.blk b9 (.cells (enc x).toArray 79)::.blk b1 (.cells #[.string H.Name,.slice a1 n1 c1,.slice a2 n2 c2,.slice a3 n3 c3,.slice a4 n4 c4,.slice a5 n5 c5] 30)::S) w:=hw
  refine byG ?_;refine W_cond rfl (fun h2=>?_) (fun h2=>?_)
  ·have hf:devAB x=false:=by
    exact key_no (deva_key x) h2
   refine byG ?_;exact⟨_,rfl,ret_b rfl (by rw[alignRB,hAm];exact(all_no hx hf).symm),hw.drop.drop⟩
  ·have ht:devAB x=true:=by
    exact key_yes (deva_key x) h2
   refine byG ?_;exact⟨μ-1,by omega,k+1,by omega,⟨rfl,rfl,rfl,rfl,trivial⟩,all_step hall hx ht,hw.drop⟩
 have hAd:(H.Devs).all devAB=true:=all_end hall (by have hkn:¬k<n5:=(by simpa using h);omega)
 clear h hall hρ hk;refine byG ?_;exact⟨_,rfl,ret_b rfl (by rw[alignRB,hAm,hAd];rfl),hw.drop⟩⟩
class SlC(Γ:Gho)(v:Value)(sz:outParam Nat)(rows:outParam (List (List Value))):Prop where
 h:RepS Γ v sz rows
instance:TPair Tryz.prog 128:=⟨⟨3,by kernel_rfl,by kernel_rfl,by kernel_rfl⟩⟩
abbrev pairRows(l:List (Int×Int)):List (List Value):=l.map fun p=>[.int .i64 p.1,.int .i64 p.2]
theorem take_succ_of{α:Type}{l:List α}{k:Nat}{x:α}(h:l[k]? = some x):l.take (k+1)=l.take k++[x]:=by rw[List.take_add_one,h];rfl
theorem nodup_snoc{α:Type}{l:List α}{x:α}:(l++[x]).Nodup↔l.Nodup∧x∉l:=by
 rw[List.nodup_append];constructor
 ·rintro⟨h1,-,h3⟩;exact⟨h1,fun hx=>h3 x hx x (by simp) rfl⟩
 ·rintro⟨h1,h2⟩;exact⟨h1,by simp,fun a ha b hb=>by simp at hb;subst hb;rintro rfl;exact h2 ha⟩
theorem not_nodup_at{α:Type}{l:List α}{k:Nat}{x:α}(h:l[k]? = some x)(hm:x∈l.take k):¬l.Nodup:=fun hn=>by
 have h1:(l.take (k+1)).Nodup:=hn.sublist (List.take_sublist _ _)
 rw[take_succ_of h,nodup_snoc]at h1;exact h1.2 hm
section
variable {α:Type}[DecidableEq α]{l:List α}{x:α}
abbrev seenL(l:List α):List (α×Bool):=l.map fun x=>(x,true)
theorem seen_ix:∀ {l:List α},(aIx (seenL l) x).isSome=true↔x∈l
 | []=>by simp[aIx,seenL]
 | y::l=>by
  have ih:=seen_ix (l:=l)
  unfold aIx at ih ⊢
  by_cases h:y=x
  ·simp[seenL,List.findIdx?_cons,h]
  ·simp only[seenL,List.map_cons,List.findIdx?_cons,h,decide_false,Bool.false_eq_true,if_false,Option.isSome_map]
   rw[ih];simp[Ne.symm h]
theorem seen_some(h:x∈l):aGet (seenL l) x=some true:=by
 have h2:=seen_ix.2 h
 unfold aGet;cases hi:aIx (seenL l) x with
 | none=>rw[hi]at h2;cases h2
 | some i=>
  obtain⟨v,hv⟩:=aIx_get hi
  obtain⟨y,hy,he⟩:=List.mem_map.1 (List.mem_of_getElem? hv)
  cases he
  simp only[Option.bind_some,hv];rfl
theorem seen_none(h:x∉l):aGet (seenL l) x=none:=by
 unfold aGet;cases hi:aIx (seenL l) x with
 | none=>rfl
 | some i=>exact absurd (seen_ix.1 (by rw[hi];rfl)) h
theorem seen_set(h:x∉l):aSet (seenL l) x true=seenL (l++[x]):=by
 unfold aSet;cases hi:aIx (seenL l) x with
 | none=>simp[seenL]
 | some i=>exact absurd (seen_ix.1 (by rw[hi];rfl)) h
end
theorem distinct_int_any{Γ:Gho}{S:List Res}{w:World}{v:Value}{xs:List (Int)}(hr:RdS Γ S v 1 (intRows xs))(hw:Wd Γ S w):Calls Tryz.prog 79 #[v] w fun e w'=>e=.returned (.bool (decide xs.Nodup))∧Wd Γ S w':=by
 obtain⟨a,n,c,rfl,hn,hnc,hc⟩:=hr.shape;have hnr:=hn
 simp only[intRows,List.length_map]at hn
 refine calls_of_W Tryz.func79 rfl rfl ?_
 refine byG ?_;refine L_step rfl rfl (s_makeMap (K:=3) (α:=Int) (f:=Value.bool) hw fun bm w hw=>?_)
 refine byG ?_;refine W_loop (fun μ ρ w=>∃(k:Nat),μ+k=n∧Has ρ [(3,.map (some bm)),(7,.slice a n c),(8,.int .i64 n),(9,.int .i64 k)]∧(xs.take k).Nodup∧Wd Γ (Res.mpT Tryz.prog 3 Value.bool bm (seenL (xs.take k))::S) w) n ⟨0,by omega,⟨rfl,rfl,rfl,rfl,trivial⟩,by simp,hw⟩ ?_
 clear hw;rintro μ ρ w ⟨k,hk,hρ,hnd,hw⟩
 have hr1:RdS Γ (Res.mpT Tryz.prog 3 Value.bool bm (seenL (xs.take k))::S) (.slice a n c) 1 (intRows xs):=hr.cons
 rw[hρ.eq];refine byG ?_;refine W_cond rfl (fun h=>?_) (fun h=>?_)
 ·have hkn:k<n:=by simpa using h
  obtain⟨x,hx⟩:=get_lt (l:=xs) (k:=k) (by omega)
  refine byG ?_;letI hdm:Decidable (x∈xs.take k):=Classical.propDecidable _
  refine L_y rfl rfl (v:=.bool (decide (x∈xs.take k))) ?_ ?_
  ·by_cases hm:x∈xs.take k
   ·rw[decide_eq_true hm];exact y_lookup_some (P:=Tryz.prog) (K:=3) (α:=Int) (f:=Value.bool) (i:=0) hw rfl rfl rfl (seen_some hm) false
   ·rw[decide_eq_false hm];exact y_lookup_none (P:=Tryz.prog) (K:=3) (α:=Int) (f:=Value.bool) (i:=0) hw rfl rfl rfl (seen_none hm) false
  refine byG ?_;refine W_cond rfl (fun h2=>?_) (fun h2=>?_)
  ·have hm:x∈xs.take k:=by simpa using h2
   refine byG ?_;exact⟨_,rfl,ret_b rfl (decide_eq_false (not_nodup_at hx hm)).symm,hw.drop⟩
  ·have hm:x∉xs.take k:=by simpa using h2
   refine byG ?_;refine L_step rfl rfl (s_mapUpdate (P:=Tryz.prog) (K:=3) (α:=Int) (f:=Value.bool) (i:=0) (v:=true) hw rfl rfl rfl rfl fun w hw=>?_)
   rw[seen_set hm,←take_succ_of hx]at hw;refine byG ?_;exact⟨μ-1,by omega,k+1,by omega,⟨rfl,rfl,rfl,rfl,trivial⟩,by rw[take_succ_of hx];exact nodup_snoc.2 ⟨hnd,hm⟩,hw⟩
 ·have hkn:¬k<n:=by simpa using h
  rw[List.take_of_length_le (by omega)]at hnd
  refine byG ?_;exact⟨_,rfl,ret_b rfl (decide_eq_true hnd).symm,hw.drop⟩
theorem distinct_string_any{Γ:Gho}{S:List Res}{w:World}{v:Value}{xs:List (ByteArray)}(hr:RdS Γ S v 1 (strRows xs))(hw:Wd Γ S w):Calls Tryz.prog 80 #[v] w fun e w'=>e=.returned (.bool (decide xs.Nodup))∧Wd Γ S w':=by
 obtain⟨a,n,c,rfl,hn,hnc,hc⟩:=hr.shape;have hnr:=hn
 simp only[List.length_map]at hn
 refine calls_of_W Tryz.func80 rfl rfl ?_
 refine byG ?_;refine L_step rfl rfl (s_makeMap (K:=9) (α:=ByteArray) (f:=Value.bool) hw fun bm w hw=>?_)
 refine byG ?_;refine W_loop (fun μ ρ w=>∃(k:Nat),μ+k=n∧Has ρ [(3,.map (some bm)),(7,.slice a n c),(8,.int .i64 n),(9,.int .i64 k)]∧(xs.take k).Nodup∧Wd Γ (Res.mpT Tryz.prog 9 Value.bool bm (seenL (xs.take k))::S) w) n ⟨0,by omega,⟨rfl,rfl,rfl,rfl,trivial⟩,by simp,hw⟩ ?_
 clear hw;rintro μ ρ w ⟨k,hk,hρ,hnd,hw⟩
 have hr1:RdS Γ (Res.mpT Tryz.prog 9 Value.bool bm (seenL (xs.take k))::S) (.slice a n c) 1 (strRows xs):=hr.cons
 rw[hρ.eq];refine byG ?_;refine W_cond rfl (fun h=>?_) (fun h=>?_)
 ·have hkn:k<n:=by simpa using h
  obtain⟨x,hx⟩:=get_lt (l:=xs) (k:=k) (by omega)
  refine byG ?_;refine W_cond rfl (fun h2=>?_) (fun h2=>?_)
  ·have hm:x∈xs.take k:=Classical.byContradiction fun hm=>by rw[seen_none hm]at h2;cases h2
   refine byG ?_;exact⟨_,rfl,ret_b rfl (decide_eq_false (not_nodup_at hx hm)).symm,hw.drop⟩
  ·have hm:x∉xs.take k:=fun hm=>by rw[seen_some hm]at h2;cases h2
   refine byG ?_;refine lMapUpdS (i:=0) (f:=Value.bool) (v:=true) ?_
   intro w hw;rw[seen_set hm,←take_succ_of hx]at hw;refine byG ?_;exact⟨μ-1,by omega,k+1,by omega,⟨rfl,rfl,rfl,rfl,trivial⟩,by rw[take_succ_of hx];exact nodup_snoc.2 ⟨hnd,hm⟩,hw⟩
 ·have hkn:¬k<n:=by simpa using h
  rw[List.take_of_length_le (by omega)]at hnd
  refine byG ?_;exact⟨_,rfl,ret_b rfl (decide_eq_true hnd).symm,hw.drop⟩
theorem distinct_pairint_any{Γ:Gho}{S:List Res}{w:World}{v:Value}{xs:List (Int×Int)}(hr:RdS Γ S v 2 (pairRows xs))(hw:Wd Γ S w):Calls Tryz.prog 81 #[v] w fun e w'=>e=.returned (.bool (decide xs.Nodup))∧Wd Γ S w':=by
 obtain⟨a,n,c,rfl,hn,hnc,hc⟩:=hr.shape;have hnr:=hn
 simp only[List.length_map]at hn
 refine calls_of_W Tryz.func81 rfl rfl ?_
 refine byG ?_;refine L_step rfl rfl (s_makeMap (K:=128) (α:=Int×Int) (f:=Value.bool) hw fun bm w hw=>?_)
 refine byG ?_;refine W_loop (fun μ ρ w=>∃(k:Nat),μ+k=n∧Has ρ [(3,.map (some bm)),(7,.slice a n c),(8,.int .i64 n),(9,.int .i64 k)]∧(xs.take k).Nodup∧Wd Γ (Res.mpT Tryz.prog 128 Value.bool bm (seenL (xs.take k))::S) w) n ⟨0,by omega,⟨rfl,rfl,rfl,rfl,trivial⟩,by simp,hw⟩ ?_
 clear hw;rintro μ ρ w ⟨k,hk,hρ,hnd,hw⟩
 have hr1:RdS Γ (Res.mpT Tryz.prog 128 Value.bool bm (seenL (xs.take k))::S) (.slice a n c) 2 (pairRows xs):=hr.cons
 rw[hρ.eq];refine byG ?_;refine W_cond rfl (fun h=>?_) (fun h=>?_)
 ·have hkn:k<n:=by simpa using h
  obtain⟨x,hx⟩:=get_lt (l:=xs) (k:=k) (by omega)
  refine byG ?_;refine lAlloc ?_;intro b5 w hw;refine lStore ?_;intro w hw;have hw:Wd Γ (.blk b5 (.cells #[.int .i64 x.1,.int .i64 x.2] 128)::Res.mpT Tryz.prog 128 Value.bool bm (seenL (xs.take k))::S) w:=hw
  refine byG ?_;letI hdm:Decidable (x∈xs.take k):=Classical.propDecidable _
  refine L_y rfl rfl (v:=.bool (decide (x∈xs.take k))) ?_ ?_
  ·by_cases hm:x∈xs.take k
   ·rw[decide_eq_true hm];exact y_lookup_some (P:=Tryz.prog) (K:=128) (α:=Int×Int) (f:=Value.bool) (i:=1) hw rfl rfl rfl (seen_some hm) false
   ·rw[decide_eq_false hm];exact y_lookup_none (P:=Tryz.prog) (K:=128) (α:=Int×Int) (f:=Value.bool) (i:=1) hw rfl rfl rfl (seen_none hm) false
  refine byG ?_;refine W_cond rfl (fun h2=>?_) (fun h2=>?_)
  ·have hm:x∈xs.take k:=by simpa using h2
   refine byG ?_;exact⟨_,rfl,ret_b rfl (decide_eq_false (not_nodup_at hx hm)).symm,hw.drop.drop⟩
  ·have hm:x∉xs.take k:=by simpa using h2
   refine byG ?_;refine L_step rfl rfl (s_mapUpdate (P:=Tryz.prog) (K:=128) (α:=Int×Int) (f:=Value.bool) (i:=1) (v:=true) hw rfl rfl rfl rfl fun w hw=>?_)
   rw[seen_set hm,←take_succ_of hx]at hw;refine byG ?_;exact⟨μ-1,by omega,k+1,by omega,⟨rfl,rfl,rfl,rfl,trivial⟩,by rw[take_succ_of hx];exact nodup_snoc.2 ⟨hnd,hm⟩,hw.drop⟩
 ·have hkn:¬k<n:=by simpa using h
  rw[List.take_of_length_le (by omega)]at hnd
  refine byG ?_;exact⟨_,rfl,ret_b rfl (decide_eq_true hnd).symm,hw.drop⟩
def inTextC(b:UInt8):Bool:=!(((decide (((b.toNat:Nat):Int)<32)||decide (126<((b.toNat:Nat):Int)))||decide (((b.toNat:Nat):Int)=34))||decide (((b.toNat:Nat):Int)=92))
def textB(s:ByteArray):Bool:=s.data.toList.all inTextC
instance pc_isText(s:ByteArray)[hs:SB s]:PC Tryz.prog 74 [.string s] (.bool (textB s)):=⟨fun w=>by
 have hs:=hs.h
 have hl:=bts_len s
 refine calls_of_W Tryz.func74 rfl rfl ?_
 refine byG ?_;refine W_loop (fun μ ρ w'=>∃k:Nat,μ+k=s.size∧Has ρ [(0,.string s),(3,.int .i64 k)]∧(∀i x,i<k→(bts s)[i]? = some x→inTextC x=true)∧w'=w) s.size ⟨0,by omega,⟨rfl,rfl,trivial⟩,fun i x h=>by omega,rfl⟩ ?_
 rintro μ ρ w' ⟨k,hk,hρ,hall,rfl⟩
 rw[hρ.eq];refine byG ?_;refine W_cond rfl (fun h=>?_) (fun h=>?_)
 ·have hkn:k<s.size:=by simpa using h
  obtain⟨c,hc⟩:=get_lt (l:=bts s) (k:=k) (by omega)
  have hg:s.data.toList.getD (k:Int).toNat 0=c:=by
   show (bts s).getD k 0=c
   rw[List.getD_eq_getElem?_getD,hc];rfl
  refine byG ?_;rw[hg];refine W_cond rfl (fun h2=>?_) (fun h2=>?_)
  ·have hf:inTextC c=false:=by unfold inTextC;rw[h2];rfl
   refine byG ?_;exact⟨_,rfl,ret_b rfl (all_no hc hf).symm,rfl⟩
  ·have hf:inTextC c=true:=by unfold inTextC;rw[h2];rfl
   refine byG ?_;exact⟨μ-1,by omega,k+1,by omega,⟨rfl,rfl,trivial⟩,all_step hall hc hf,rfl⟩
 ·have hkn:¬k<s.size:=by simpa using h
  refine byG ?_;exact⟨_,rfl,ret_b rfl (all_end hall (by omega)).symm,rfl⟩⟩
def headB(H:HwT):Bool:=(decide (H.Name≠⟨#[]⟩)&&decide (H.Name.size≤24))&&textB H.Name
def namesB(H:HwT):Bool:=((headB H&&H.Caches.all fun c=>nameS c.Name)&&H.Mems.all fun c=>nameS c.Name)&&H.Devs.all fun c=>nameS c.Name
theorem all_cnames(cs:List CacheH):((cs.map CacheH.T).all fun c=>nameS c.Name)=cs.all fun c=>nameS c.Name:=by rw[List.all_map];rfl
theorem take_all{α:Type}{l:List α}{k:Nat}{x:α}{p:α→Bool}{a:Bool}(hx:l[k]? = some x):Value.bool ((a&&(l.take k).all p)&&p x)=.bool (a&&(l.take (k+1)).all p):=by
 rw[take_succ_of hx,List.all_append];simp[Bool.and_assoc]
theorem andB{p q:Prop}[Decidable p][Decidable q]{a b:Bool}(h:p↔q)(h2:a=b):(decide p&&a)=(decide q&&b):=by rw[decide_eq_decide.2 h,h2]
instance pg_namesOK{Γ:Gho}{u:Value}{H:HwT}[hh:HwR Γ u H]:PG Tryz.prog Γ 31 [u] (.bool (namesB H)):=⟨fun S w hw=>by
 obtain⟨a1,n1,c1,a2,n2,c2,a3,n3,c3,a4,n4,c4,a5,n5,c5,cs,rfl,hcs,hok,hsz,r1,r2,r3,r4,r5⟩:=hh.h;obtain⟨hn1,hm1,hx1⟩:=rep_facts r1
 obtain⟨hn2,hm2,hx2⟩:=rep_facts r2
 obtain⟨hn3,hm3,hx3⟩:=rep_facts r3
 obtain⟨hn4,hm4,hx4⟩:=rep_facts r4
 obtain⟨hn5,hm5,hx5⟩:=rep_facts r5
 simp only[List.length_map]at hn1 hn2 hn3 hn4 hn5
 refine calls_of_W Tryz.func31 rfl rfl ?_
 refine byG ?_;refine lBox ?_;intro b1 w hw;have hw:Wd Γ (.blk b1 (.cells #[.string H.Name,.slice a1 n1 c1,.slice a2 n2 c2,.slice a3 n3 c3,.slice a4 n4 c4,.slice a5 n5 c5] 30)::S) w:=hw
 obtain⟨z1,z2,z3,z4⟩:=hsz;haveI:SB H.Name:=⟨z1⟩
 refine byG ?_;have hk0:((decide (H.Name≠⟨#[]⟩)&&decide ((H.Name.size:Int)≤24))&&textB H.Name)=headB H:=by
  unfold headB;rw[show decide ((H.Name.size:Int)≤24)=decide (H.Name.size≤24) from decide_eq_decide.2 (by omega)]
 rw[hk0];have hq:(headB H)=(headB H&&(cs.take 0).all fun c=>nameS c.Name):=by simp
 rw[hq];refine byG ?_;refine W_loop (fun μ ρ w=>∃(k:Nat),μ+k=n2∧Has ρ [(1,.pointer (some ⟨b1,0,none⟩)),(3,.bool (headB H&&(cs.take k).all fun c=>nameS c.Name)),(25,.slice a2 n2 c2),(26,.int .i64 n2),(27,.int .i64 k)]∧Wd Γ (.blk b1 (.cells #[.string H.Name,.slice a1 n1 c1,.slice a2 n2 c2,.slice a3 n3 c3,.slice a4 n4 c4,.slice a5 n5 c5] 30)::S) w) n2 ⟨0,by omega,⟨rfl,rfl,rfl,rfl,rfl,trivial⟩,hw⟩ ?_
 clear hw hq;rintro μ ρ w ⟨k,hk,hρ,hw⟩
 rw[hρ.eq];refine byG ?_;refine W_cond rfl (fun h=>?_) (fun h=>?_)
 ·have hkn:k<n2:=by simpa using h
  obtain⟨x,hx⟩:=get_lt (l:=cs) (k:=k) (by omega)
  haveI:SB x.Name:=⟨z2 x.T (by rw[←hcs];exact List.mem_map.2 ⟨x,List.mem_of_getElem? hx,rfl⟩)⟩
  refine byG ?_;refine lAlloc ?_;intro b9 w hw;refine lStore ?_;intro w hw;have hw:Wd Γ (.blk b9 (.cells (cC x).toArray 38)::.blk b1 (.cells #[.string H.Name,.slice a1 n1 c1,.slice a2 n2 c2,.slice a3 n3 c3,.slice a4 n4 c4,.slice a5 n5 c5] 30)::S) w:=hw
  refine byG ?_;exact⟨μ-1,by omega,k+1,by omega,⟨rfl,take_all hx,rfl,rfl,rfl,trivial⟩,hw.drop⟩
 have hkn:¬k<n2:=by simpa using h
 rw[List.take_of_length_le (l:=cs) (by omega)]
 clear h hkn hρ hk;have hq:((headB H&&cs.all fun c=>nameS c.Name))=((headB H&&cs.all fun c=>nameS c.Name)&&(H.Mems.take 0).all fun c=>nameS c.Name):=by simp
 rw[hq];refine byG ?_;refine W_loop (fun μ ρ w=>∃(k:Nat),μ+k=n4∧Has ρ [(1,.pointer (some ⟨b1,0,none⟩)),(3,.bool ((headB H&&cs.all fun c=>nameS c.Name)&&(H.Mems.take k).all fun c=>nameS c.Name)),(39,.slice a4 n4 c4),(40,.int .i64 n4),(41,.int .i64 k)]∧Wd Γ (.blk b1 (.cells #[.string H.Name,.slice a1 n1 c1,.slice a2 n2 c2,.slice a3 n3 c3,.slice a4 n4 c4,.slice a5 n5 c5] 30)::S) w) n4 ⟨0,by omega,⟨rfl,rfl,rfl,rfl,rfl,trivial⟩,hw⟩ ?_
 clear hw hq;rintro μ ρ w ⟨k,hk,hρ,hw⟩
 rw[hρ.eq];refine byG ?_;refine W_cond rfl (fun h=>?_) (fun h=>?_)
 ·have hkn:k<n4:=by simpa using h
  obtain⟨x,hx⟩:=get_lt (l:=H.Mems) (k:=k) (by omega)
  haveI:SB x.Name:=⟨z3 x (List.mem_of_getElem? hx)⟩
  refine byG ?_;refine lAlloc ?_;intro b9 w hw;refine lStore ?_;intro w hw;have hw:Wd Γ (.blk b9 (.cells (enc x).toArray 42)::.blk b1 (.cells #[.string H.Name,.slice a1 n1 c1,.slice a2 n2 c2,.slice a3 n3 c3,.slice a4 n4 c4,.slice a5 n5 c5] 30)::S) w:=hw
  refine byG ?_;exact⟨μ-1,by omega,k+1,by omega,⟨rfl,take_all hx,rfl,rfl,rfl,trivial⟩,hw.drop⟩
 have hkn:¬k<n4:=by simpa using h
 rw[List.take_of_length_le (l:=H.Mems) (by omega)]
 clear h hkn hρ hk;have hq:(((headB H&&cs.all fun c=>nameS c.Name)&&H.Mems.all fun c=>nameS c.Name))=(((headB H&&cs.all fun c=>nameS c.Name)&&H.Mems.all fun c=>nameS c.Name)&&(H.Devs.take 0).all fun c=>nameS c.Name):=by simp
 rw[hq];refine byG ?_;refine W_loop (fun μ ρ w=>∃(k:Nat),μ+k=n5∧Has ρ [(1,.pointer (some ⟨b1,0,none⟩)),(3,.bool (((headB H&&cs.all fun c=>nameS c.Name)&&H.Mems.all fun c=>nameS c.Name)&&(H.Devs.take k).all fun c=>nameS c.Name)),(53,.slice a5 n5 c5),(54,.int .i64 n5),(55,.int .i64 k)]∧Wd Γ (.blk b1 (.cells #[.string H.Name,.slice a1 n1 c1,.slice a2 n2 c2,.slice a3 n3 c3,.slice a4 n4 c4,.slice a5 n5 c5] 30)::S) w) n5 ⟨0,by omega,⟨rfl,rfl,rfl,rfl,rfl,trivial⟩,hw⟩ ?_
 clear hw hq;rintro μ ρ w ⟨k,hk,hρ,hw⟩
 rw[hρ.eq];refine byG ?_;refine W_cond rfl (fun h=>?_) (fun h=>?_)
 ·have hkn:k<n5:=by simpa using h
  obtain⟨x,hx⟩:=get_lt (l:=H.Devs) (k:=k) (by omega)
  haveI:SB x.Name:=⟨z4 x (List.mem_of_getElem? hx)⟩
  refine byG ?_;refine lAlloc ?_;intro b9 w hw;refine lStore ?_;intro w hw;have hw:Wd Γ (.blk b9 (.cells (enc x).toArray 79)::.blk b1 (.cells #[.string H.Name,.slice a1 n1 c1,.slice a2 n2 c2,.slice a3 n3 c3,.slice a4 n4 c4,.slice a5 n5 c5] 30)::S) w:=hw
  refine byG ?_;exact⟨μ-1,by omega,k+1,by omega,⟨rfl,take_all hx,rfl,rfl,rfl,trivial⟩,hw.drop⟩
 have hkn:¬k<n5:=by simpa using h
 rw[List.take_of_length_le (l:=H.Devs) (by omega)]
 clear h hkn hρ hk;refine byG ?_;refine⟨_,rfl,ret_b rfl ?_,hw.drop⟩
 unfold namesB;rw[←hcs,all_cnames]⟩
instance pg_countsOK{Γ:Gho}{u:Value}{H:HwT}[hh:HwR Γ u H]:PG Tryz.prog Γ 32 [u] (.bool (countsB H)):=⟨fun S w hw=>by
 obtain⟨a1,n1,c1,a2,n2,c2,a3,n3,c3,a4,n4,c4,a5,n5,c5,cs,rfl,hcs,hok,hsz,r1,r2,r3,r4,r5⟩:=hh.h;obtain⟨hn1,hm1,hx1⟩:=rep_facts r1
 obtain⟨hn2,hm2,hx2⟩:=rep_facts r2
 obtain⟨hn3,hm3,hx3⟩:=rep_facts r3
 obtain⟨hn4,hm4,hx4⟩:=rep_facts r4
 obtain⟨hn5,hm5,hx5⟩:=rep_facts r5
 simp only[List.length_map]at hn1 hn2 hn3 hn4 hn5
 refine calls_of_W Tryz.func32 rfl rfl ?_
 refine byG ?_;refine lBox ?_;intro b1 w hw;have hw:Wd Γ (.blk b1 (.cells #[.string H.Name,.slice a1 n1 c1,.slice a2 n2 c2,.slice a3 n3 c3,.slice a4 n4 c4,.slice a5 n5 c5] 30)::S) w:=hw
 refine byG ?_;refine⟨_,rfl,ret_b rfl ?_,hw.drop⟩
 have hl:H.Caches.length=cs.length:=by rw[←hcs];simp
 unfold countsB;rw[hl,hn1,hn2,hn3,hn4,hn5];simp only[Bool.and_assoc]
 refine andB (by omega) (andB (by omega) (andB (by omega) (andB (by omega) (andB (by omega) ?_))))
 exact decide_eq_decide.2 (by omega)⟩
set_option maxHeartbeats 8000000
theorem own_len{Γ:Gho}{S:List Res}{w:World}{i e sz n c:Nat}{a:Option Addr}{rows:List (List Value)}(hw:Wd Γ S w)(hi:S[i]? = some (.own (.slice a n c) e sz rows)):n=rows.length:=by
 obtain⟨_,_,_,h1,h2,-,-⟩:=hw.own_shape hi;cases h1;exact h2
def linkKey(l:LinkT):Int×Int:=(if l.B<l.A then l.B else l.A,if l.A<l.B then l.B else l.A)
def uniqueB(H:HwT):Bool:=(H.Caches.all fun c=>decide c.Cores.Nodup)&&(decide (H.Cores.map (·.ID)).Nodup&&decide (H.Caches.map (·.Name)).Nodup&&decide (H.Mems.map (·.Name)).Nodup&&decide (H.Devs.map (·.Name)).Nodup&&decide (H.Devs.map (·.IRQ)).Nodup&&decide (H.Links.map linkKey).Nodup)
theorem all_cuniq(cs:List CacheH):((cs.map CacheH.T).all fun c=>decide c.Cores.Nodup)=cs.all fun c=>decide c.Cores.Nodup:=by rw[List.all_map];rfl
theorem counts_le{H:HwT}(h:countsB H=true):1≤H.Cores.length∧H.Cores.length≤32∧H.Caches.length≤64∧H.Links.length≤256∧H.Mems.length≤64∧H.Devs.length≤32:=by
 unfold countsB at h;simp only[Bool.and_eq_true,decide_eq_true_eq]at h
 omega
instance:TBA Tryz.prog 128 1 [.int .i64 0,.int .i64 0]:=⟨by kernel_rfl,by kernel_rfl⟩
section
attribute [local semireducible] gv
theorem lCallGd{P:Program}{n:Nat}{opa:Array Oper}{QQ:Exit→Fr→World→Prop}{rest:List Oper}{ρ:Fr}{w:World}{Γ:Gho}{S:List Res}{d:Option Tmp}{ty:TypeId}{pos:String}{es:Array Edge}{f j dj:Nat}{want c:Bool}{args:List Operand}{tys:Array TypeId}{vs:List Value}{v:Value}[FnOk P f]
  (hcall:c=true→Calls P f vs.toArray w fun e w'=>e=.returned v∧Wd Γ S w') (h:∀w',Wd Γ S w'→L P n opa QQ rest (putO ρ d (gv c v)) w') (hw:Wd Γ S w:=by exact hw) (hj:(opa[j]?).bind (·.dst)=some dj:=by exact rfl) (hjn:okDst n (some dj)=true:=by exact rfl) (hc:GuardIs (ρ dj) want c:=by exact byGC) (hd:okDst n d=true:=by exact rfl) (ha:c=true→EvL ρ args vs:=by intro hc;exact byEVG) :
  L P n opa QQ (⟨d,.call { callee:=.value (.func f),args:=args.toArray,argTypes:=tys },ty,pos,es,some (j,want)⟩::rest) ρ w:=
 lGC hj hjn hd hc (fun hct=>lCall ((hcall hct).mono fun e w' ⟨h1,h2⟩=>⟨v,h1,by have:=h w' h2;rw[hct]at this;exact this⟩) (ha hct) hd) (fun hcf=>by have:=h w hw;rw[hcf]at this;exact this)
end
theorem rows_snocI{α:Type}{f:α→Int}{l:List α}{k:Nat}{x:α}(hx:l[k]? = some x):intRows ((l.take k).map f)++[[.int .i64 (f x)]]=intRows ((l.take (k+1)).map f):=by rw[take_succ_of hx];simp[intRows]
theorem rows_snocS{α:Type}{f:α→ByteArray}{l:List α}{k:Nat}{x:α}(hx:l[k]? = some x):strRows ((l.take k).map f)++[[.string (f x)]]=strRows ((l.take (k+1)).map f):=by rw[take_succ_of hx];simp[strRows]
theorem rows_snocP{α:Type}{f:α→Int×Int}{l:List α}{k:Nat}{x:α}(hx:l[k]? = some x):pairRows ((l.take k).map f)++[[.int .i64 (f x).1,.int .i64 (f x).2]]=pairRows ((l.take (k+1)).map f):=by rw[take_succ_of hx];simp[pairRows]
theorem unique_any{Γ:Gho}{S:List Res}{w:World}{u:Value}{H:HwT}[hh:HwR Γ u H](hcnt:countsB H=true)(hw:Wd Γ S w):Calls Tryz.prog 36 #[u] w fun e w'=>e=.returned (.bool (uniqueB H))∧Wd Γ S w':=by
 obtain⟨-,l1,l2,l3,l4,l5⟩:=counts_le hcnt
 obtain⟨a1,n1,c1,a2,n2,c2,a3,n3,c3,a4,n4,c4,a5,n5,c5,cs,rfl,hcs,hok,hsz,r1,r2,r3,r4,r5⟩:=hh.h;obtain⟨hn1,hm1,hx1⟩:=rep_facts r1
 obtain⟨hn2,hm2,hx2⟩:=rep_facts r2
 obtain⟨hn3,hm3,hx3⟩:=rep_facts r3
 obtain⟨hn4,hm4,hx4⟩:=rep_facts r4
 obtain⟨hn5,hm5,hx5⟩:=rep_facts r5
 simp only[List.length_map]at hn1 hn2 hn3 hn4 hn5
 have hcl:cs.length=H.Caches.length:=by rw[←hcs];simp
 refine calls_of_W Tryz.func36 rfl rfl ?_
 refine byG ?_;refine lBox ?_;intro b1 w hw;have hw:Wd Γ (.blk b1 (.cells #[.string H.Name,.slice a1 n1 c1,.slice a2 n2 c2,.slice a3 n3 c3,.slice a4 n4 c4,.slice a5 n5 c5] 30)::S) w:=hw
 have hw:Wd Γ (.own (.slice none 0 0) 3 1 (intRows [])::.own (.slice none 0 0) 3 1 (intRows [])::.own (.slice none 0 0) 9 1 (strRows [])::.own (.slice none 0 0) 9 1 (strRows [])::.own (.slice none 0 0) 9 1 (strRows [])::.own (.slice none 0 0) 128 2 (pairRows [])::.blk b1 (.cells #[.string H.Name,.slice a1 n1 c1,.slice a2 n2 c2,.slice a3 n3 c3,.slice a4 n4 c4,.slice a5 n5 c5] 30)::S) w:=Wd.addNil (Wd.addNil (Wd.addNil (Wd.addNil (Wd.addNil (Wd.addNil (hw))))))
 refine byG ?_;refine W_loop (fun μ ρ w=>∃(k:Nat) (q3:Option Addr) (m3 d3:Nat),μ+k=n1∧Has ρ [(1,.pointer (some ⟨b1,0,none⟩)),(3,.slice q3 m3 d3),(4,.slice none 0 0),(5,.slice none 0 0),(6,.slice none 0 0),(7,.slice none 0 0),(8,.slice none 0 0),(20,.slice a1 n1 c1),(21,.int .i64 n1),(22,.int .i64 k)]∧Wd Γ (.own (.slice q3 m3 d3) 3 1 (intRows ((H.Cores.take k).map (fun c=>c.ID)))::.own (.slice none 0 0) 3 1 (intRows [])::.own (.slice none 0 0) 9 1 (strRows [])::.own (.slice none 0 0) 9 1 (strRows [])::.own (.slice none 0 0) 9 1 (strRows [])::.own (.slice none 0 0) 128 2 (pairRows [])::.blk b1 (.cells #[.string H.Name,.slice a1 n1 c1,.slice a2 n2 c2,.slice a3 n3 c3,.slice a4 n4 c4,.slice a5 n5 c5] 30)::S) w) n1 ⟨0,none,0,0,by omega,⟨rfl,rfl,rfl,rfl,rfl,rfl,rfl,rfl,rfl,rfl,trivial⟩,hw⟩ ?_
 clear hw;rintro μ ρ w ⟨k,q3,m3,d3,hk,hρ,hw⟩
 have hm3:=own_len (i:=0) hw rfl
 simp only[intRows,strRows,pairRows,List.length_map,List.length_take]at hm3
 rw[hρ.eq];refine byG ?_;refine W_cond rfl (fun h=>?_) (fun h=>?_)
 ·have hkn:k<n1:=by simpa using h
  obtain⟨x,hx⟩:=get_lt (l:=H.Cores) (k:=k) (by omega)
  refine byG ?_;refine lAlloc ?_;intro b9 w hw;refine lStore ?_;intro w hw;have hw:Wd Γ (.blk b9 (.cells (enc x).toArray 74)::.own (.slice q3 m3 d3) 3 1 (intRows ((H.Cores.take k).map (fun c=>c.ID)))::.own (.slice none 0 0) 3 1 (intRows [])::.own (.slice none 0 0) 9 1 (strRows [])::.own (.slice none 0 0) 9 1 (strRows [])::.own (.slice none 0 0) 9 1 (strRows [])::.own (.slice none 0 0) 128 2 (pairRows [])::.blk b1 (.cells #[.string H.Name,.slice a1 n1 c1,.slice a2 n2 c2,.slice a3 n3 c3,.slice a4 n4 c4,.slice a5 n5 c5] 30)::S) w:=hw
  refine byG ?_;refine lBuildSlice [[.int .i64 x.ID]] ?_
  intro ab w hw;refine lApp (i:=2) (rows2:=[[.int .i64 x.ID]]) ?_ (Wd.own_rd (i:=0) hw rfl)
  intro v' w hw;obtain⟨q3',m3',d3',rfl,-,-,-⟩:=hw.own_shape (i:=2) rfl
  have hw:=hw.drop
  have hw:Wd Γ (.blk b9 (.cells (enc x).toArray 74)::.own (.slice q3' m3' d3') 3 1 (intRows ((H.Cores.take (k+1)).map (fun c=>c.ID)))::.own (.slice none 0 0) 3 1 (intRows [])::.own (.slice none 0 0) 9 1 (strRows [])::.own (.slice none 0 0) 9 1 (strRows [])::.own (.slice none 0 0) 9 1 (strRows [])::.own (.slice none 0 0) 128 2 (pairRows [])::.blk b1 (.cells #[.string H.Name,.slice a1 n1 c1,.slice a2 n2 c2,.slice a3 n3 c3,.slice a4 n4 c4,.slice a5 n5 c5] 30)::S) w:=by
   rw[←rows_snocI hx];exact hw
  refine byG ?_;exact⟨μ-1,by omega,k+1,_,_,_,by omega,⟨rfl,rfl,rfl,rfl,rfl,rfl,rfl,rfl,rfl,rfl,trivial⟩,hw.drop⟩
 have hkn:¬k<n1:=by simpa using h
 rw[List.take_of_length_le (l:=H.Cores) (by omega)]at hw
 clear h hkn hρ hk hm3;refine byG ?_;refine W_loop (fun μ ρ w=>∃(k:Nat) (q5:Option Addr) (m5 d5:Nat),μ+k=n2∧Has ρ [(1,.pointer (some ⟨b1,0,none⟩)),(3,.slice q3 m3 d3),(4,.slice none 0 0),(5,.slice q5 m5 d5),(6,.slice none 0 0),(7,.slice none 0 0),(8,.slice none 0 0),(33,.slice a2 n2 c2),(34,.int .i64 n2),(35,.int .i64 k)]∧(∀i x,i<k→cs[i]? = some x→(fun c:CacheH=>decide c.Cores.Nodup) x=true)∧Wd Γ (.own (.slice q3 m3 d3) 3 1 (intRows (H.Cores.map (fun c=>c.ID)))::.own (.slice none 0 0) 3 1 (intRows [])::.own (.slice q5 m5 d5) 9 1 (strRows ((cs.take k).map (fun c=>c.Name)))::.own (.slice none 0 0) 9 1 (strRows [])::.own (.slice none 0 0) 9 1 (strRows [])::.own (.slice none 0 0) 128 2 (pairRows [])::.blk b1 (.cells #[.string H.Name,.slice a1 n1 c1,.slice a2 n2 c2,.slice a3 n3 c3,.slice a4 n4 c4,.slice a5 n5 c5] 30)::S) w) n2 ⟨0,none,0,0,by omega,⟨rfl,rfl,rfl,rfl,rfl,rfl,rfl,rfl,rfl,rfl,trivial⟩,fun i x h=>by omega,hw⟩ ?_
 clear hw;rintro μ ρ w ⟨k,q5,m5,d5,hk,hρ,hall,hw⟩
 have hm5:=own_len (i:=2) hw rfl
 simp only[intRows,strRows,pairRows,List.length_map,List.length_take]at hm5
 rw[hρ.eq];refine byG ?_;refine W_cond rfl (fun h=>?_) (fun h=>?_)
 ·have hkn:k<n2:=by simpa using h
  obtain⟨x,hx⟩:=get_lt (l:=cs) (k:=k) (by omega)
  refine byG ?_;refine lAlloc ?_;intro b9 w hw;refine lStore ?_;intro w hw;have hw:Wd Γ (.blk b9 (.cells (cC x).toArray 38)::.own (.slice q3 m3 d3) 3 1 (intRows (H.Cores.map (fun c=>c.ID)))::.own (.slice none 0 0) 3 1 (intRows [])::.own (.slice q5 m5 d5) 9 1 (strRows ((cs.take k).map (fun c=>c.Name)))::.own (.slice none 0 0) 9 1 (strRows [])::.own (.slice none 0 0) 9 1 (strRows [])::.own (.slice none 0 0) 128 2 (pairRows [])::.blk b1 (.cells #[.string H.Name,.slice a1 n1 c1,.slice a2 n2 c2,.slice a3 n3 c3,.slice a4 n4 c4,.slice a5 n5 c5] 30)::S) w:=hw
  refine byG ?_;refine lBuildSlice [[.string x.Name]] ?_
  intro ab w hw;refine lApp (i:=4) (rows2:=[[.string x.Name]]) ?_ (Wd.own_rd (i:=0) hw rfl)
  intro v' w hw;obtain⟨q5',m5',d5',rfl,-,-,-⟩:=hw.own_shape (i:=4) rfl
  have hw:=hw.drop
  have hw:Wd Γ (.blk b9 (.cells (cC x).toArray 38)::.own (.slice q3 m3 d3) 3 1 (intRows (H.Cores.map (fun c=>c.ID)))::.own (.slice none 0 0) 3 1 (intRows [])::.own (.slice q5' m5' d5') 9 1 (strRows ((cs.take (k+1)).map (fun c=>c.Name)))::.own (.slice none 0 0) 9 1 (strRows [])::.own (.slice none 0 0) 9 1 (strRows [])::.own (.slice none 0 0) 128 2 (pairRows [])::.blk b1 (.cells #[.string H.Name,.slice a1 n1 c1,.slice a2 n2 c2,.slice a3 n3 c3,.slice a4 n4 c4,.slice a5 n5 c5] 30)::S) w:=by
   rw[←rows_snocS hx];exact hw
  refine byG ?_;refine lCall ?_;refine(distinct_int_any (RepS.rdS (hok x (List.mem_of_getElem? hx))) hw).mono ?_
  rintro r w ⟨rfl,hw⟩
  refine⟨_,rfl,?_⟩;refine byG ?_;refine W_cond rfl (fun h2=>?_) (fun h2=>?_)
  ·have hf:(fun c:CacheH=>decide c.Cores.Nodup) x=false:=by simpa using h2
   refine byG ?_;exact⟨_,rfl,ret_b rfl (by rw[uniqueB,←hcs,all_cuniq];exact(and_no1 (all_no hx hf)).symm),hw.ds [0,0,0,0,0,0,0,0]⟩
  ·have ht:(fun c:CacheH=>decide c.Cores.Nodup) x=true:=by simpa using h2
   refine byG ?_;exact⟨μ-1,by omega,k+1,_,_,_,by omega,⟨rfl,rfl,rfl,rfl,rfl,rfl,rfl,rfl,rfl,rfl,trivial⟩,all_step hall hx ht,hw.drop⟩
 have hkn:¬k<n2:=by simpa using h
 rw[List.take_of_length_le (l:=cs) (by omega)]at hw
 have hA:=all_end hall (by omega)
 clear h hkn hρ hk hall hm5;refine byG ?_;refine W_loop (fun μ ρ w=>∃(k:Nat) (q6:Option Addr) (m6 d6:Nat),μ+k=n4∧Has ρ [(1,.pointer (some ⟨b1,0,none⟩)),(3,.slice q3 m3 d3),(4,.slice none 0 0),(5,.slice q5 m5 d5),(6,.slice q6 m6 d6),(7,.slice none 0 0),(8,.slice none 0 0),(50,.slice a4 n4 c4),(51,.int .i64 n4),(52,.int .i64 k)]∧Wd Γ (.own (.slice q3 m3 d3) 3 1 (intRows (H.Cores.map (fun c=>c.ID)))::.own (.slice none 0 0) 3 1 (intRows [])::.own (.slice q5 m5 d5) 9 1 (strRows (cs.map (fun c=>c.Name)))::.own (.slice q6 m6 d6) 9 1 (strRows ((H.Mems.take k).map (fun c=>c.Name)))::.own (.slice none 0 0) 9 1 (strRows [])::.own (.slice none 0 0) 128 2 (pairRows [])::.blk b1 (.cells #[.string H.Name,.slice a1 n1 c1,.slice a2 n2 c2,.slice a3 n3 c3,.slice a4 n4 c4,.slice a5 n5 c5] 30)::S) w) n4 ⟨0,none,0,0,by omega,⟨rfl,rfl,rfl,rfl,rfl,rfl,rfl,rfl,rfl,rfl,trivial⟩,hw⟩ ?_
 clear hw;rintro μ ρ w ⟨k,q6,m6,d6,hk,hρ,hw⟩
 have hm6:=own_len (i:=3) hw rfl
 simp only[intRows,strRows,pairRows,List.length_map,List.length_take]at hm6
 rw[hρ.eq];refine byG ?_;refine W_cond rfl (fun h=>?_) (fun h=>?_)
 ·have hkn:k<n4:=by simpa using h
  obtain⟨x,hx⟩:=get_lt (l:=H.Mems) (k:=k) (by omega)
  refine byG ?_;refine lAlloc ?_;intro b9 w hw;refine lStore ?_;intro w hw;have hw:Wd Γ (.blk b9 (.cells (enc x).toArray 42)::.own (.slice q3 m3 d3) 3 1 (intRows (H.Cores.map (fun c=>c.ID)))::.own (.slice none 0 0) 3 1 (intRows [])::.own (.slice q5 m5 d5) 9 1 (strRows (cs.map (fun c=>c.Name)))::.own (.slice q6 m6 d6) 9 1 (strRows ((H.Mems.take k).map (fun c=>c.Name)))::.own (.slice none 0 0) 9 1 (strRows [])::.own (.slice none 0 0) 128 2 (pairRows [])::.blk b1 (.cells #[.string H.Name,.slice a1 n1 c1,.slice a2 n2 c2,.slice a3 n3 c3,.slice a4 n4 c4,.slice a5 n5 c5] 30)::S) w:=hw
  refine byG ?_;refine lBuildSlice [[.string x.Name]] ?_
  intro ab w hw;refine lApp (i:=5) (rows2:=[[.string x.Name]]) ?_ (Wd.own_rd (i:=0) hw rfl)
  intro v' w hw;obtain⟨q6',m6',d6',rfl,-,-,-⟩:=hw.own_shape (i:=5) rfl
  have hw:=hw.drop
  have hw:Wd Γ (.blk b9 (.cells (enc x).toArray 42)::.own (.slice q3 m3 d3) 3 1 (intRows (H.Cores.map (fun c=>c.ID)))::.own (.slice none 0 0) 3 1 (intRows [])::.own (.slice q5 m5 d5) 9 1 (strRows (cs.map (fun c=>c.Name)))::.own (.slice q6' m6' d6') 9 1 (strRows ((H.Mems.take (k+1)).map (fun c=>c.Name)))::.own (.slice none 0 0) 9 1 (strRows [])::.own (.slice none 0 0) 128 2 (pairRows [])::.blk b1 (.cells #[.string H.Name,.slice a1 n1 c1,.slice a2 n2 c2,.slice a3 n3 c3,.slice a4 n4 c4,.slice a5 n5 c5] 30)::S) w:=by
   rw[←rows_snocS hx];exact hw
  refine byG ?_;exact⟨μ-1,by omega,k+1,_,_,_,by omega,⟨rfl,rfl,rfl,rfl,rfl,rfl,rfl,rfl,rfl,rfl,trivial⟩,hw.drop⟩
 have hkn:¬k<n4:=by simpa using h
 rw[List.take_of_length_le (l:=H.Mems) (by omega)]at hw
 clear h hkn hρ hk hm6;refine byG ?_;refine W_loop (fun μ ρ w=>∃(k:Nat) (q7:Option Addr) (m7 d7:Nat) (q4:Option Addr) (m4 d4:Nat),μ+k=n5∧Has ρ [(1,.pointer (some ⟨b1,0,none⟩)),(3,.slice q3 m3 d3),(4,.slice q4 m4 d4),(5,.slice q5 m5 d5),(6,.slice q6 m6 d6),(7,.slice q7 m7 d7),(8,.slice none 0 0),(63,.slice a5 n5 c5),(64,.int .i64 n5),(65,.int .i64 k)]∧Wd Γ (.own (.slice q3 m3 d3) 3 1 (intRows (H.Cores.map (fun c=>c.ID)))::.own (.slice q4 m4 d4) 3 1 (intRows ((H.Devs.take k).map (fun c=>c.IRQ)))::.own (.slice q5 m5 d5) 9 1 (strRows (cs.map (fun c=>c.Name)))::.own (.slice q6 m6 d6) 9 1 (strRows (H.Mems.map (fun c=>c.Name)))::.own (.slice q7 m7 d7) 9 1 (strRows ((H.Devs.take k).map (fun c=>c.Name)))::.own (.slice none 0 0) 128 2 (pairRows [])::.blk b1 (.cells #[.string H.Name,.slice a1 n1 c1,.slice a2 n2 c2,.slice a3 n3 c3,.slice a4 n4 c4,.slice a5 n5 c5] 30)::S) w) n5 ⟨0,none,0,0,none,0,0,by omega,⟨rfl,rfl,rfl,rfl,rfl,rfl,rfl,rfl,rfl,rfl,trivial⟩,hw⟩ ?_
 clear hw;rintro μ ρ w ⟨k,q7,m7,d7,q4,m4,d4,hk,hρ,hw⟩
 have hm7:=own_len (i:=4) hw rfl
 simp only[intRows,strRows,pairRows,List.length_map,List.length_take]at hm7
 have hm4:=own_len (i:=1) hw rfl
 simp only[intRows,strRows,pairRows,List.length_map,List.length_take]at hm4
 rw[hρ.eq];refine byG ?_;refine W_cond rfl (fun h=>?_) (fun h=>?_)
 ·have hkn:k<n5:=by simpa using h
  obtain⟨x,hx⟩:=get_lt (l:=H.Devs) (k:=k) (by omega)
  refine byG ?_;refine lAlloc ?_;intro b9 w hw;refine lStore ?_;intro w hw;have hw:Wd Γ (.blk b9 (.cells (enc x).toArray 79)::.own (.slice q3 m3 d3) 3 1 (intRows (H.Cores.map (fun c=>c.ID)))::.own (.slice q4 m4 d4) 3 1 (intRows ((H.Devs.take k).map (fun c=>c.IRQ)))::.own (.slice q5 m5 d5) 9 1 (strRows (cs.map (fun c=>c.Name)))::.own (.slice q6 m6 d6) 9 1 (strRows (H.Mems.map (fun c=>c.Name)))::.own (.slice q7 m7 d7) 9 1 (strRows ((H.Devs.take k).map (fun c=>c.Name)))::.own (.slice none 0 0) 128 2 (pairRows [])::.blk b1 (.cells #[.string H.Name,.slice a1 n1 c1,.slice a2 n2 c2,.slice a3 n3 c3,.slice a4 n4 c4,.slice a5 n5 c5] 30)::S) w:=hw
  refine byG ?_;refine lBuildSlice [[.string x.Name]] ?_
  intro ab w hw;refine lApp (i:=6) (rows2:=[[.string x.Name]]) ?_ (Wd.own_rd (i:=0) hw rfl)
  intro v' w hw;obtain⟨q7',m7',d7',rfl,-,-,-⟩:=hw.own_shape (i:=6) rfl
  have hw:=hw.drop
  have hw:Wd Γ (.blk b9 (.cells (enc x).toArray 79)::.own (.slice q3 m3 d3) 3 1 (intRows (H.Cores.map (fun c=>c.ID)))::.own (.slice q4 m4 d4) 3 1 (intRows ((H.Devs.take k).map (fun c=>c.IRQ)))::.own (.slice q5 m5 d5) 9 1 (strRows (cs.map (fun c=>c.Name)))::.own (.slice q6 m6 d6) 9 1 (strRows (H.Mems.map (fun c=>c.Name)))::.own (.slice q7' m7' d7') 9 1 (strRows ((H.Devs.take (k+1)).map (fun c=>c.Name)))::.own (.slice none 0 0) 128 2 (pairRows [])::.blk b1 (.cells #[.string H.Name,.slice a1 n1 c1,.slice a2 n2 c2,.slice a3 n3 c3,.slice a4 n4 c4,.slice a5 n5 c5] 30)::S) w:=by
   rw[←rows_snocS hx];exact hw
  refine byG ?_;refine lBuildSlice [[.int .i64 x.IRQ]] ?_
  intro ab w hw;refine lApp (i:=3) (rows2:=[[.int .i64 x.IRQ]]) ?_ (Wd.own_rd (i:=0) hw rfl)
  intro v' w hw;obtain⟨q4',m4',d4',rfl,-,-,-⟩:=hw.own_shape (i:=3) rfl
  have hw:=hw.drop
  have hw:Wd Γ (.blk b9 (.cells (enc x).toArray 79)::.own (.slice q3 m3 d3) 3 1 (intRows (H.Cores.map (fun c=>c.ID)))::.own (.slice q4' m4' d4') 3 1 (intRows ((H.Devs.take (k+1)).map (fun c=>c.IRQ)))::.own (.slice q5 m5 d5) 9 1 (strRows (cs.map (fun c=>c.Name)))::.own (.slice q6 m6 d6) 9 1 (strRows (H.Mems.map (fun c=>c.Name)))::.own (.slice q7' m7' d7') 9 1 (strRows ((H.Devs.take (k+1)).map (fun c=>c.Name)))::.own (.slice none 0 0) 128 2 (pairRows [])::.blk b1 (.cells #[.string H.Name,.slice a1 n1 c1,.slice a2 n2 c2,.slice a3 n3 c3,.slice a4 n4 c4,.slice a5 n5 c5] 30)::S) w:=by
   rw[←rows_snocI hx];exact hw
  refine byG ?_;exact⟨μ-1,by omega,k+1,_,_,_,_,_,_,by omega,⟨rfl,rfl,rfl,rfl,rfl,rfl,rfl,rfl,rfl,rfl,trivial⟩,hw.drop⟩
 have hkn:¬k<n5:=by simpa using h
 rw[List.take_of_length_le (l:=H.Devs) (by omega)]at hw
 clear h hkn hρ hk hm7 hm4;refine byG ?_;refine W_loop (fun μ ρ w=>∃(k:Nat) (q8:Option Addr) (m8 d8:Nat),μ+k=n3∧Has ρ [(1,.pointer (some ⟨b1,0,none⟩)),(3,.slice q3 m3 d3),(4,.slice q4 m4 d4),(5,.slice q5 m5 d5),(6,.slice q6 m6 d6),(7,.slice q7 m7 d7),(8,.slice q8 m8 d8),(81,.slice a3 n3 c3),(82,.int .i64 n3),(83,.int .i64 k)]∧Wd Γ (.own (.slice q3 m3 d3) 3 1 (intRows (H.Cores.map (fun c=>c.ID)))::.own (.slice q4 m4 d4) 3 1 (intRows (H.Devs.map (fun c=>c.IRQ)))::.own (.slice q5 m5 d5) 9 1 (strRows (cs.map (fun c=>c.Name)))::.own (.slice q6 m6 d6) 9 1 (strRows (H.Mems.map (fun c=>c.Name)))::.own (.slice q7 m7 d7) 9 1 (strRows (H.Devs.map (fun c=>c.Name)))::.own (.slice q8 m8 d8) 128 2 (pairRows ((H.Links.take k).map linkKey))::.blk b1 (.cells #[.string H.Name,.slice a1 n1 c1,.slice a2 n2 c2,.slice a3 n3 c3,.slice a4 n4 c4,.slice a5 n5 c5] 30)::S) w) n3 ⟨0,none,0,0,by omega,⟨rfl,rfl,rfl,rfl,rfl,rfl,rfl,rfl,rfl,rfl,trivial⟩,hw⟩ ?_
 clear hw;rintro μ ρ w ⟨k,q8,m8,d8,hk,hρ,hw⟩
 have hm8:=own_len (i:=5) hw rfl
 simp only[intRows,strRows,pairRows,List.length_map,List.length_take]at hm8
 rw[hρ.eq];refine byG ?_;refine W_cond rfl (fun h=>?_) (fun h=>?_)
 ·have hkn:k<n3:=by simpa using h
  obtain⟨x,hx⟩:=get_lt (l:=H.Links) (k:=k) (by omega)
  refine byG ?_;refine lAlloc ?_;intro b9 w hw;refine lStore ?_;intro w hw;have hw:Wd Γ (.blk b9 (.cells (enc x).toArray 76)::.own (.slice q3 m3 d3) 3 1 (intRows (H.Cores.map (fun c=>c.ID)))::.own (.slice q4 m4 d4) 3 1 (intRows (H.Devs.map (fun c=>c.IRQ)))::.own (.slice q5 m5 d5) 9 1 (strRows (cs.map (fun c=>c.Name)))::.own (.slice q6 m6 d6) 9 1 (strRows (H.Mems.map (fun c=>c.Name)))::.own (.slice q7 m7 d7) 9 1 (strRows (H.Devs.map (fun c=>c.Name)))::.own (.slice q8 m8 d8) 128 2 (pairRows ((H.Links.take k).map linkKey))::.blk b1 (.cells #[.string H.Name,.slice a1 n1 c1,.slice a2 n2 c2,.slice a3 n3 c3,.slice a4 n4 c4,.slice a5 n5 c5] 30)::S) w:=hw
  refine byG ?_;refine lBuildSlice [[.int .i64 (linkKey x).1,.int .i64 (linkKey x).2]] ?_
  intro ab w hw;refine lApp (i:=7) (rows2:=[[.int .i64 (linkKey x).1,.int .i64 (linkKey x).2]]) ?_ (Wd.own_rd (i:=0) hw rfl)
  intro v' w hw;obtain⟨q8',m8',d8',rfl,-,-,-⟩:=hw.own_shape (i:=7) rfl
  have hw:=hw.drop
  have hw:Wd Γ (.blk b9 (.cells (enc x).toArray 76)::.own (.slice q3 m3 d3) 3 1 (intRows (H.Cores.map (fun c=>c.ID)))::.own (.slice q4 m4 d4) 3 1 (intRows (H.Devs.map (fun c=>c.IRQ)))::.own (.slice q5 m5 d5) 9 1 (strRows (cs.map (fun c=>c.Name)))::.own (.slice q6 m6 d6) 9 1 (strRows (H.Mems.map (fun c=>c.Name)))::.own (.slice q7 m7 d7) 9 1 (strRows (H.Devs.map (fun c=>c.Name)))::.own (.slice q8' m8' d8') 128 2 (pairRows ((H.Links.take (k+1)).map linkKey))::.blk b1 (.cells #[.string H.Name,.slice a1 n1 c1,.slice a2 n2 c2,.slice a3 n3 c3,.slice a4 n4 c4,.slice a5 n5 c5] 30)::S) w:=by
   rw[←rows_snocP hx];exact hw
  refine byG ?_;exact⟨μ-1,by omega,k+1,_,_,_,by omega,⟨rfl,rfl,rfl,rfl,rfl,rfl,rfl,rfl,rfl,rfl,trivial⟩,hw.drop⟩
 have hkn:¬k<n3:=by simpa using h
 rw[List.take_of_length_le (l:=H.Links) (by omega)]at hw
 clear h hkn hρ hk hm8;refine byG ?_;refine lCall ?_;refine(distinct_int_any (RdS.own (i:=0) hw rfl) hw).mono ?_
 rintro r w ⟨rfl,hw⟩
 refine⟨_,rfl,?_⟩;refine byG ?_;refine lCallGd (fun _=>distinct_string_any (RdS.own (i:=2) hw rfl) hw) ?_
 clear hw;intro w hw;refine byG ?_;refine lCallGd (fun _=>distinct_string_any (RdS.own (i:=3) hw rfl) hw) ?_
 clear hw;intro w hw;refine byG ?_;refine lCallGd (fun _=>distinct_string_any (RdS.own (i:=4) hw rfl) hw) ?_
 clear hw;intro w hw;refine byG ?_;refine lCallGd (fun _=>distinct_int_any (RdS.own (i:=1) hw rfl) hw) ?_
 clear hw;intro w hw;refine byG ?_;refine lCallGd (fun _=>distinct_pairint_any (RdS.own (i:=5) hw rfl) hw) ?_
 clear hw;intro w hw;refine byG ?_;refine⟨_,rfl,ret_b rfl ?_,hw.ds [0,0,0,0,0,0,0]⟩
 have e1:(cs.map fun c=>c.Name)=H.Caches.map fun c=>c.Name:=by rw[←hcs,List.map_map];rfl
 unfold uniqueB;rw[show (H.Caches.all fun c=>decide c.Cores.Nodup)=true from by rw[←hcs,all_cuniq];exact hA,←e1]
 rfl
section
variable {Γ:Gho}{S:List Res}{w:World}{a:Option Addr}{n c:Nat}{xs:List CoreT}
theorem IndexFunc_any(p:CoreT→Bool)(f:Nat)(fst cap:List Value)[FnOk Tryz.prog f](hr:RdS Γ S (.slice a n c) 4 (xs.map enc))
  (hf:∀x w,Wd Γ S w→Calls Tryz.prog f (fst++[Value.agg (enc x).toArray]++cap).toArray w fun e w'=>e=.returned (.bool (p x))∧Wd Γ S w') (hw:Wd Γ S w) :
  Calls Tryz.prog 138 #[.slice a n c,.func (.func f) fst.toArray cap.toArray] w fun e w'=>∃i:Int,e=.returned (.int .i64 i)∧decide (0≤i)=xs.any p∧Wd Γ S w':=by
 obtain⟨_,_,_,he,hn,hnc,hc⟩:=hr.shape;cases he
 have hnr:=hn
 simp only[List.length_map]at hn
 refine calls_of_W Tryz.func138 rfl rfl ?_
 refine byG ?_;refine W_loop (fun μ ρ w=>∃(k:Nat),μ+k=n∧Has ρ [(0,.slice a n c),(1,.func (.func f) fst.toArray cap.toArray),(7,.int .i64 n),(8,.int .i64 k)]∧(∀i x,i<k→xs[i]? = some x→(!p x)=true)∧Wd Γ S w) n ⟨0,by omega,⟨rfl,rfl,rfl,rfl,trivial⟩,fun i x h=>by omega,hw⟩ ?_
 clear hw;rintro μ ρ w ⟨k,hk,hρ,hall,hw⟩
 rw[hρ.eq];refine byG ?_;refine W_cond rfl (fun h=>?_) (fun h=>?_)
 ·have hkn:k<n:=by simpa using h
  obtain⟨x,hx⟩:=get_lt (l:=xs) (k:=k) (by omega)
  refine byG ?_;refine lCallv (fst:=fst) (cap:=cap) (vs:=[.agg (enc x).toArray]) ?_
  refine(hf x w hw).mono ?_
  rintro r w ⟨rfl,hw⟩
  refine⟨_,rfl,?_⟩;refine byG ?_;refine W_cond rfl (fun h2=>?_) (fun h2=>?_)
  ·refine byG ?_;exact⟨_,rfl,k,rfl,by rw[decide_eq_true (show (0:Int)≤k by omega)];exact(List.any_eq_true.2 ⟨x,List.mem_of_getElem? hx,h2⟩).symm,hw⟩
  ·refine byG ?_;exact⟨μ-1,by omega,k+1,by omega,⟨rfl,rfl,rfl,rfl,trivial⟩,all_step hall hx (by rw[h2];rfl),hw⟩
 ·have hkn:¬k<n:=by simpa using h
  refine byG ?_;refine⟨_,rfl,-1,rfl,?_,hw⟩
  have:=all_end hall (by omega)
  rw[decide_eq_false (show ¬(0:Int)≤-1 by decide)]
  rw[List.all_eq_true]at this;exact(List.any_eq_false.2 fun x hx=>by simpa using this x hx).symm
theorem ContainsFunc_any(p:CoreT→Bool)(f:Nat)(fst cap:List Value)[FnOk Tryz.prog f](hr:RdS Γ S (.slice a n c) 4 (xs.map enc))
  (hf:∀x w,Wd Γ S w→Calls Tryz.prog f (fst++[Value.agg (enc x).toArray]++cap).toArray w fun e w'=>e=.returned (.bool (p x))∧Wd Γ S w') (hw:Wd Γ S w) :
  Calls Tryz.prog 82 #[.slice a n c,.func (.func f) fst.toArray cap.toArray] w fun e w'=>e=.returned (.bool (xs.any p))∧Wd Γ S w':=by
 refine calls_of_W Tryz.func82 rfl rfl ?_
 refine byG ?_;refine lCall ?_;refine(IndexFunc_any p f fst cap hr hf hw).mono ?_
 rintro r w ⟨i,rfl,hi,hw⟩
 refine⟨_,rfl,?_⟩;refine byG ?_;exact⟨_,rfl,ret_b rfl hi,hw⟩
theorem known1_any{b6 i:Nat}{id:Int}(x:CoreT)(hi:S[i]? = some (.blk b6 (.cells #[.int .i64 id] 3)))(hw:Wd Γ S w) :
  Calls Tryz.prog 83 #[.agg (enc x).toArray,.pointer (some ⟨b6,0,none⟩)] w fun e w'=>e=.returned (.bool (decide (x.ID=id)))∧Wd Γ S w':=by
 refine calls_of_W Tryz.func83 rfl rfl ?_
 refine byG ?_;refine lBox ?_;intro b2 w hw;have hw:Wd Γ (.blk b2 (.cells (enc x).toArray 74)::S) w:=hw
 refine byG ?_;have hi2:(Res.blk b2 (.cells (enc x).toArray 74)::S)[i+1]? = some (.blk b6 (.cells #[.int .i64 id] 3)):=by simpa using hi
 refine lY (v:=.int .i64 id) ?_ (hy:=y_l1b (i:=i+1) hw rfl hi2 rfl)
 refine byG ?_;exact⟨_,rfl,rfl,hw.drop⟩
end
def knownB(H:HwT):Bool:=H.Caches.all fun c=>c.Cores.all fun id=>H.Cores.any fun x=>decide (x.ID=id)
def knownH(H:HwT)(c:CacheH):Bool:=c.Cores.all fun id=>H.Cores.any fun x=>decide (x.ID=id)
theorem all_known(H:HwT)(cs:List CacheH):((cs.map CacheH.T).all fun c=>c.Cores.all fun id=>H.Cores.any fun x=>decide (x.ID=id))=cs.all (knownH H):=by rw[List.all_map];rfl
abbrev hwC(H:HwT)(a1:Option Addr)(n1 c1:Nat)(a2:Option Addr)(n2 c2:Nat)(a3:Option Addr)(n3 c3:Nat)(a4:Option Addr)(n4 c4:Nat)(a5:Option Addr)(n5 c5:Nat):Obj:=.cells #[.string H.Name,.slice a1 n1 c1,.slice a2 n2 c2,.slice a3 n3 c3,.slice a4 n4 c4,.slice a5 n5 c5] 30
instance pg_knownOK{Γ:Gho}{u:Value}{H:HwT}[hh:HwR Γ u H]:PG Tryz.prog Γ 37 [u] (.bool (knownB H)):=⟨fun S w hw=>by
 obtain⟨a1,n1,c1,a2,n2,c2,a3,n3,c3,a4,n4,c4,a5,n5,c5,cs,rfl,hcs,hok,hsz,r1,r2,r3,r4,r5⟩:=hh.h;obtain⟨hn1,hm1,hx1⟩:=rep_facts r1
 obtain⟨hn2,hm2,hx2⟩:=rep_facts r2
 simp only[List.length_map]at hn1 hn2
 refine calls_of_W Tryz.func37 rfl rfl ?_
 refine byG ?_;refine lBox ?_;intro b1 w hw;have hw:Wd Γ (.blk b1 (hwC H a1 n1 c1 a2 n2 c2 a3 n3 c3 a4 n4 c4 a5 n5 c5)::S) w:=hw
 refine byG ?_;refine W_loop (fun μ ρ w=>∃(k:Nat),μ+k=n2∧Has ρ [(1,.pointer (some ⟨b1,0,none⟩)),(8,.slice a2 n2 c2),(9,.int .i64 n2),(10,.int .i64 k)]∧(∀i x,i<k→cs[i]? = some x→knownH H x=true)∧Wd Γ (.blk b1 (hwC H a1 n1 c1 a2 n2 c2 a3 n3 c3 a4 n4 c4 a5 n5 c5)::S) w) n2 ⟨0,by omega,⟨rfl,rfl,rfl,rfl,trivial⟩,fun i x h=>by omega,hw⟩ ?_
 clear hw;rintro μ ρ w ⟨k,hk,hρ,hall,hw⟩
 rw[hρ.eq];refine byG ?_;refine W_cond rfl (fun h=>?_) (fun h=>?_)
 ·have hkn:k<n2:=by simpa using h
  obtain⟨x,hx⟩:=get_lt (l:=cs) (k:=k) (by omega)
  have hcok:=hok x (List.mem_of_getElem? hx)
  obtain⟨hxn,hxm,hxc⟩:=hcok.facts;unfold COk at hcok;refine byG ?_;refine lAlloc ?_;intro b9 w hw;refine lStore ?_;intro w hw;have hw:Wd Γ (.blk b9 (.cells (cC x).toArray 38)::.blk b1 (hwC H a1 n1 c1 a2 n2 c2 a3 n3 c3 a4 n4 c4 a5 n5 c5)::S) w:=hw
  refine byG ?_;refine W_loop (fun μ2 ρ w=>∃(j:Nat),μ2+j=x.N∧Has ρ [(1,.pointer (some ⟨b1,0,none⟩)),(8,.slice a2 n2 c2),(9,.int .i64 n2),(10,.int .i64 k),(15,.slice x.A x.N x.C),(16,.int .i64 x.N),(17,.int .i64 j)]∧(∀i id,i<j→x.Cores[i]? = some id→(H.Cores.any fun y=>decide (y.ID=id))=true)∧Wd Γ (.blk b9 (.cells (cC x).toArray 38)::.blk b1 (hwC H a1 n1 c1 a2 n2 c2 a3 n3 c3 a4 n4 c4 a5 n5 c5)::S) w) x.N ⟨0,by omega,⟨rfl,rfl,rfl,rfl,rfl,rfl,rfl,trivial⟩,fun i x h=>by omega,hw⟩ ?_
  clear hw;rintro μ2 ρ w ⟨j,hj,hρ,hall2,hw⟩
  rw[hρ.eq];refine byG ?_;refine W_cond rfl (fun h2=>?_) (fun h2=>?_)
  ·have hjn:j<x.N:=by simpa using h2
   obtain⟨id,hid⟩:=get_lt (l:=x.Cores) (k:=j) (by omega)
   refine byG ?_;refine lAlloc ?_;intro b6 w hw;refine lStore ?_;intro w hw;have hw:Wd Γ (.blk b6 (.cells #[.int .i64 id] 3)::.blk b9 (.cells (cC x).toArray 38)::.blk b1 (hwC H a1 n1 c1 a2 n2 c2 a3 n3 c3 a4 n4 c4 a5 n5 c5)::S) w:=hw
   refine byG ?_;refine lCall ?_;refine(ContainsFunc_any (fun y=>decide (y.ID=id)) 83 [] [.pointer (some ⟨b6,0,none⟩)] r1.rdS (fun y w hw=>known1_any y (i:=0) rfl hw) hw).mono ?_
   rintro r w ⟨rfl,hw⟩
   refine⟨_,rfl,?_⟩;refine byG ?_;refine W_cond rfl (fun h3=>?_) (fun h3=>?_)
   ·have hf:(H.Cores.any fun y=>decide (y.ID=id))=false:=by simpa using h3
    refine byG ?_;refine⟨_,rfl,ret_b rfl ?_,hw.drop.drop.drop⟩
    have hf2:knownH H x=false:=all_no hid hf
    unfold knownB;rw[←hcs,all_known];exact(all_no hx hf2).symm
   ·have ht:(H.Cores.any fun y=>decide (y.ID=id))=true:=by simpa using h3
    refine byG ?_;exact⟨μ2-1,by omega,j+1,by omega,⟨rfl,rfl,rfl,rfl,rfl,rfl,rfl,trivial⟩,all_step hall2 hid ht,hw.drop⟩
  ·have hjn:¬j<x.N:=by simpa using h2
   have ht:knownH H x=true:=all_end hall2 (by omega)
   refine byG ?_;exact⟨μ-1,by omega,k+1,by omega,⟨rfl,rfl,rfl,rfl,trivial⟩,all_step hall hx ht,hw.drop⟩
 ·have hkn:¬k<n2:=by simpa using h
  refine byG ?_;refine⟨_,rfl,ret_b rfl ?_,hw.drop⟩
  unfold knownB;rw[←hcs,all_known];exact(all_end hall (by omega)).symm⟩
def sortedP(l:List Int):Prop:=∀i a b,l[i]? = some a→l[i+1]? = some b→a≤b
noncomputable def decP(p:Prop):Bool:=@decide p (Classical.propDecidable p)
theorem decP_t{p:Prop}(h:p):decP p=true:=@decide_eq_true p (Classical.propDecidable p) h
theorem decP_f{p:Prop}(h:¬p):decP p=false:=@decide_eq_false p (Classical.propDecidable p) h
theorem decP_iff{p:Prop}:decP p=true↔p:=@decide_eq_true_iff p (Classical.propDecidable p)
noncomputable def sortedB(l:List Int):Bool:=decP (sortedP l)
instance pc_isNaN(x:Int):PC Tryz.prog 131 [.int .i64 x] (.bool false):=⟨fun w=>by
 refine calls_of_W Tryz.func131 rfl rfl ?_
 refine byG ?_;exact⟨_,rfl,ret_b rfl (by simp),rfl⟩⟩
instance pc_Less(x y:Int):PC Tryz.prog 139 [.int .i64 x,.int .i64 y] (.bool (decide (x<y))):=⟨fun w=>by
 refine calls_of_W Tryz.func139 rfl rfl ?_
 repeat(first|(first|refine W_seq ?_|refine W_block ?_|refine W_region ?_|refine W_skip ?_|refine W_ret ?_|refine W_exit ?_)|((first|apply L_bin|apply L_notop);first|(refine lT ?_ ?_;(first|exact rfl|exact decide_eq_true rfl|(simp;done)))|(refine lF ?_ ?_;(first|exact rfl|exact decide_eq_true rfl|(simp;done))))|(first|refine L_nil ?_|(apply L_plain;first|(apply L_go;first|refine lP ?_|(refine lPg ?_;intro w hw))|(apply L_mf;refine lMakeFunc ?_)|refine lY ?_)|(apply L_guarded;first|refine lGT ?_ (hct:=rfl)|refine lGF ?_ (hct:=rfl)|(apply L_go;first|refine lPG ?_|(refine lPgG ?_;intro w hw))|refine lG ?_))|(refine lAlloc ?_;intro _ w hw)|(refine lBox ?_;intro _ w hw)|(refine lStore ?_;intro w hw))
 exact⟨_,rfl,ret_b rfl (by simp),rfl⟩⟩
section
variable {Γ:Gho}{S:List Res}{w:World}{xs:List Int}{v:Value}
theorem IsSorted_any(hr:RdS Γ S v 1 (intRows xs))(hw:Wd Γ S w):Calls Tryz.prog 84 #[v] w fun e w'=>e=.returned (.bool (sortedB xs))∧Wd Γ S w':=by
 obtain⟨a,n,c,rfl,hn,hnc,hc⟩:=hr.shape;have hnr:=hn
 simp only[intRows,List.length_map]at hn
 refine calls_of_W Tryz.func84 rfl rfl ?_
 refine byG ?_;refine W_loop (fun μ ρ w=>∃(m:Nat),μ=m∧m≤n∧Has ρ [(0,.slice a n c),(3,.int .i64 ((m:Int)-1))]∧(∀i a b,m≤i+1→xs[i]? = some a→xs[i+1]? = some b→a≤b)∧Wd Γ S w) n ⟨n,rfl,Nat.le_refl _,⟨rfl,rfl,trivial⟩,fun i a b h1 h2 h3=>by have:=(List.getElem?_eq_some_iff.1 h3).1;omega,hw⟩ ?_
 clear hw;rintro μ ρ w ⟨m,rfl,hm,hρ,hall,hw⟩
 rw[hρ.eq];refine byG ?_;refine W_cond rfl (fun h=>?_) (fun h=>?_)
 ·have hm2:2≤μ:=by have:=of_decide_eq_true h;omega
  obtain⟨x,hx⟩:=get_lt (l:=xs) (k:=μ-1) (by omega)
  obtain⟨y,hy⟩:=get_lt (l:=xs) (k:=μ-2) (by omega)
  have e1:((μ:Int)-1).toNat=μ-1:=by omega
  have e2:((μ:Int)-1-1).toNat=μ-2:=by omega
  have hx':xs[((μ:Int)-1).toNat]? = some x:=by rw[e1];exact hx
  have hy':xs[((μ:Int)-1-1).toNat]? = some y:=by rw[e2];exact hy
  refine byG ?_;refine W_quiet (by kernel_rfl) (by kernel_rfl) hw ?_
  refine byQ ?_;intro w hw;refine W_cond rfl (fun h2=>?_) (fun h2=>?_)
  ·have h2:x<y:=of_decide_eq_true h2
   refine byG ?_;refine⟨_,rfl,ret_b rfl ?_,hw⟩
   exact(decP_f fun hs=>by have:=hs (μ-2) y x hy (by rw[show μ-2+1=μ-1 by omega];exact hx);omega).symm
  ·have h2:¬x<y:=of_decide_eq_false h2
   refine byG ?_;refine⟨μ-1,by omega,μ-1,rfl,by omega,⟨rfl,?_,trivial⟩,fun i p q h3 h4 h5=>?_,hw⟩
   ·show Value.int .i64 ((μ:Int)-1-1)=_
    congr 1;omega
   ·by_cases e:μ≤i+1
    ·exact hall i p q e h4 h5
    ·have:i=μ-2:=by omega
     subst this;rw[show μ-2+1=μ-1 by omega,hx]at h5
     rw[hy]at h4;cases h4;cases h5;omega
 ·have hm2:¬2≤μ:=by have:=of_decide_eq_false h;omega
  refine byG ?_;refine⟨_,rfl,ret_b rfl ?_,hw⟩
  exact(decP_t fun i p q h1 h2=>hall i p q (by omega) h1 h2).symm
def memI(x:Int)(xs:List Int):Bool:=xs.any fun y=>decide (x=y)
theorem ContainsI_any(hr:RdS Γ S v 1 (intRows xs))(x:Int)(hw:Wd Γ S w):Calls Tryz.prog 85 #[v,.int .i64 x] w fun e w'=>e=.returned (.bool (memI x xs))∧Wd Γ S w':=by
 have hI:∀w,Wd Γ S w→Calls Tryz.prog 140 #[v,.int .i64 x] w fun e w'=>∃i:Int,e=.returned (.int .i64 i)∧(decide (0≤i)=memI x xs)∧Wd Γ S w':=by
  intro w hw;obtain⟨a,n,c,rfl,hn,hnc,hc⟩:=hr.shape;have hnr:=hn
  simp only[intRows,List.length_map]at hn
  refine calls_of_W Tryz.func140 rfl rfl ?_
  refine byG ?_;refine W_loop (fun μ ρ w=>∃(k:Nat),μ+k=n∧Has ρ [(0,.slice a n c),(1,.int .i64 x),(7,.int .i64 n),(8,.int .i64 k)]∧(∀i y,i<k→xs[i]? = some y→(!decide (x=y))=true)∧Wd Γ S w) n ⟨0,by omega,⟨rfl,rfl,rfl,rfl,trivial⟩,fun i x h=>by omega,hw⟩ ?_
  clear hw;rintro μ ρ w ⟨k,hk,hρ,hno,hw⟩
  rw[hρ.eq];refine byG ?_;refine W_cond rfl (fun h=>?_) (fun h=>?_)
  ·have hkn:k<n:=by simpa using h
   obtain⟨y,hy⟩:=get_lt (l:=xs) (k:=k) (by omega)
   refine byG ?_;refine W_cond rfl (fun h2=>?_) (fun h2=>?_)
   ·refine byG ?_;exact⟨_,rfl,k,rfl,by rw[decide_eq_true (show (0:Int)≤k by omega)];exact(List.any_eq_true.2 ⟨y,List.mem_of_getElem? hy,h2⟩).symm,hw⟩
   ·refine byG ?_;exact⟨μ-1,by omega,k+1,by omega,⟨rfl,rfl,rfl,rfl,trivial⟩,all_step hno hy (by rw[h2];rfl),hw⟩
  ·have hkn:¬k<n:=by simpa using h
   refine byG ?_;refine⟨_,rfl,-1,rfl,?_,hw⟩
   have:=all_end hno (by omega)
   rw[decide_eq_false (show ¬(0:Int)≤-1 by decide)]
   rw[List.all_eq_true]at this;exact(List.any_eq_false.2 fun y hy=>by simpa using this y hy).symm
 refine calls_of_W Tryz.func85 rfl rfl ?_
 refine byG ?_;refine lCall ?_;refine(hI w hw).mono ?_
 rintro e w ⟨i,rfl,hd,hw⟩
 refine⟨_,rfl,?_⟩;refine byG ?_;exact⟨_,rfl,ret_b rfl hd,hw⟩
end
instance pg_ContainsI{Γ:Gho}{v:Value}{xs:List Int}[hr:SlC Γ v 1 (intRows xs)](x:Int):PG Tryz.prog Γ 85 [v,.int .i64 x] (.bool (memI x xs)):=⟨fun S w hw=>ContainsI_any hr.h.rdS x hw⟩
noncomputable instance pg_IsSorted {Γ:Gho} {v:Value} {xs:List Int} [hr:SlC Γ v 1 (intRows xs)]:PG Tryz.prog Γ 84 [v] (.bool (sortedB xs)):=⟨fun S w hw=>IsSorted_any hr.h.rdS hw⟩
def sharedN(a b:List Int):Nat:=(a.filter fun v=>memI v b).length
def pairB(i k:Nat)(a b:CacheT):Bool:=decide (i=k)||decide (b.Level<a.Level) || !(decide (0<sharedN a.Cores b.Cores)&&(decide (a.Level=b.Level)||decide (sharedN a.Cores b.Cores<a.Cores.length)))
def HierP(l:List CacheT):Prop:=(∀c∈l,sortedP c.Cores)∧∀(i k:Nat) (a b:CacheT),l[i]? = some a→l[k]? = some b→pairB i k a b=true
noncomputable def hierB(H:HwT):Bool:=decP (HierP H.Caches)
theorem allI_step{α:Type}{l:List α}{p:Nat→α→Bool}{k:Nat}{x:α}(h:∀i x,i<k→l[i]? = some x→p i x=true)(hx:l[k]? = some x)(ht:p k x=true):∀i x,i<k+1→l[i]? = some x→p i x=true:=fun i y hi hy=>by
 by_cases e:i=k
 ·subst e;rw[hx]at hy;cases hy;exact ht
 ·exact h i y (by omega) hy
instance pg_hierarchyOK{Γ:Gho}{u:Value}{H:HwT}[hh:HwR Γ u H]:PG Tryz.prog Γ 38 [u] (.bool (hierB H)):=⟨fun S w hw=>by
 obtain⟨a1,n1,c1,a2,n2,c2,a3,n3,c3,a4,n4,c4,a5,n5,c5,cs,rfl,hcs,hok,hsz,r1,r2,r3,r4,r5⟩:=hh.h;obtain⟨hn2,hm2,hx2⟩:=rep_facts r2
 simp only[List.length_map]at hn2
 have hget:∀(i:Nat) (x:CacheH),cs[i]? = some x→H.Caches[i]? = some x.T:=fun i x h=>by rw[←hcs];simp[h]
 refine calls_of_W Tryz.func38 rfl rfl ?_
 refine byG ?_;refine lBox ?_;intro b1 w hw;have hw:Wd Γ (.blk b1 (hwC H a1 n1 c1 a2 n2 c2 a3 n3 c3 a4 n4 c4 a5 n5 c5)::S) w:=hw
 refine byG ?_;refine W_loop (fun μ ρ w=>∃(k:Nat),μ+k=n2∧Has ρ [(1,.pointer (some ⟨b1,0,none⟩)),(13,.slice a2 n2 c2),(14,.int .i64 n2),(15,.int .i64 k)]∧(∀(i:Nat) (x:CacheH),i<k→cs[i]? = some x→sortedB x.Cores=true)∧Wd Γ (.blk b1 (hwC H a1 n1 c1 a2 n2 c2 a3 n3 c3 a4 n4 c4 a5 n5 c5)::S) w) n2 ⟨0,by omega,⟨rfl,rfl,rfl,rfl,trivial⟩,fun i x h=>by omega,hw⟩ ?_
 clear hw;rintro μ ρ w ⟨k,hk,hρ,hall,hw⟩
 rw[hρ.eq];refine byG ?_;refine W_cond rfl (fun h=>?_) (fun h=>?_)
 ·have hkn:k<n2:=by simpa using h
  obtain⟨x,hx⟩:=get_lt (l:=cs) (k:=k) (by omega)
  haveI:SlC Γ (.slice x.A x.N x.C) 1 (intRows x.Cores):=⟨hok x (List.mem_of_getElem? hx)⟩
  refine byG ?_;refine lAlloc ?_;intro b9 w hw;refine lStore ?_;intro w hw;have hw:Wd Γ (.blk b9 (.cells (cC x).toArray 38)::.blk b1 (hwC H a1 n1 c1 a2 n2 c2 a3 n3 c3 a4 n4 c4 a5 n5 c5)::S) w:=hw
  repeat first|refine byW ?_|refine byV ?_;intro w hw
  refine W_cond rfl (fun h2=>?_) (fun h2=>?_)
  ·have hf:sortedB x.Cores=false:=by simpa using h2
   refine byG ?_;refine⟨_,rfl,ret_b rfl ?_,hw.drop.drop⟩
   refine(decP_f fun hP=>?_).symm
   have:=hP.1 x.T (List.mem_of_getElem? (hget k x hx))
   rw[show sortedB x.Cores=true from decP_t this]at hf;cases hf
  ·have ht:sortedB x.Cores=true:=by simpa using h2
   refine byG ?_;exact⟨μ-1,by omega,k+1,by omega,⟨rfl,rfl,rfl,rfl,trivial⟩,all_step hall hx ht,hw.drop⟩
 have hkn:¬k<n2:=by simpa using h
 have hsort:∀(i:Nat) (x:CacheH),cs[i]? = some x→sortedP x.Cores:=fun i x hx=>decP_iff.1 (hall i x (by have:=(List.getElem?_eq_some_iff.1 hx).1;omega) hx)
 clear h hkn hall hρ hk;refine byG ?_;refine W_loop (fun μ ρ w=>∃(k:Nat),μ+k=n2∧Has ρ [(1,.pointer (some ⟨b1,0,none⟩)),(25,.slice a2 n2 c2),(26,.int .i64 n2),(27,.int .i64 k)]∧(∀(i j:Nat) (a b:CacheH),i<k→cs[i]? = some a→cs[j]? = some b→pairB i j a.T b.T=true)∧Wd Γ (.blk b1 (hwC H a1 n1 c1 a2 n2 c2 a3 n3 c3 a4 n4 c4 a5 n5 c5)::S) w) n2 ⟨0,by omega,⟨rfl,rfl,rfl,rfl,trivial⟩,fun i j a b h=>by omega,hw⟩ ?_
 clear hw;rintro μ ρ w ⟨i,hi,hρ,hall,hw⟩
 rw[hρ.eq];refine byG ?_;refine W_cond rfl (fun h=>?_) (fun h=>?_)
 ·have hin:i<n2:=by simpa using h
  obtain⟨x,hx⟩:=get_lt (l:=cs) (k:=i) (by omega)
  have hcx:=hok x (List.mem_of_getElem? hx)
  obtain⟨hxn,hxm,hxc⟩:=hcx.facts;unfold COk at hcx;refine byG ?_;refine lAlloc ?_;intro b6 w hw;refine byG ?_;refine lStore ?_;intro w hw;have hw:Wd Γ (.blk b6 (.cells (cC x).toArray 38)::.blk b1 (hwC H a1 n1 c1 a2 n2 c2 a3 n3 c3 a4 n4 c4 a5 n5 c5)::S) w:=hw
  refine byG ?_;refine W_loop (fun μ2 ρ w=>∃(k:Nat),μ2+k=n2∧Has ρ [(1,.pointer (some ⟨b1,0,none⟩)),(5,.int .i64 i),(6,.pointer (some ⟨b6,0,none⟩)),(25,.slice a2 n2 c2),(26,.int .i64 n2),(27,.int .i64 i),(33,.slice a2 n2 c2),(34,.int .i64 n2),(35,.int .i64 k)]∧(∀(j:Nat) (b:CacheH),j<k→cs[j]? = some b→pairB i j x.T b.T=true)∧Wd Γ (.blk b6 (.cells (cC x).toArray 38)::.blk b1 (hwC H a1 n1 c1 a2 n2 c2 a3 n3 c3 a4 n4 c4 a5 n5 c5)::S) w) n2 ⟨0,by omega,⟨rfl,rfl,rfl,rfl,rfl,rfl,rfl,rfl,rfl,trivial⟩,fun j b h=>by omega,hw⟩ ?_
  clear hw;rintro μ2 ρ w ⟨k,hk,hρ,hall2,hw⟩
  rw[hρ.eq];refine byG ?_;refine W_cond rfl (fun h2=>?_) (fun h2=>?_)
  ·have hkn:k<n2:=by simpa using h2
   obtain⟨y,hy⟩:=get_lt (l:=cs) (k:=k) (by omega)
   have hcy:=hok y (List.mem_of_getElem? hy)
   haveI:SlC Γ (.slice y.A y.N y.C) 1 (intRows y.Cores):=⟨hcy⟩
   refine byG ?_;refine lAlloc ?_;intro b8 w hw;refine byG ?_;refine lStore ?_;intro w hw;have hw:Wd Γ (.blk b8 (.cells (cC y).toArray 38)::.blk b6 (.cells (cC x).toArray 38)::.blk b1 (hwC H a1 n1 c1 a2 n2 c2 a3 n3 c3 a4 n4 c4 a5 n5 c5)::S) w:=hw
   refine byG ?_;refine W_cond rfl (fun h3=>?_) (fun h3=>?_)
   ·have hp:pairB i k x.T y.T=true:=by
     have h3:(decide ((i:Int)=k)||decide (y.Level<x.Level))=true:=h3
     unfold pairB CacheH.T;rw[show decide (i=k)=decide ((i:Int)=k) from decide_eq_decide.2 (by omega)]
     rw[h3];rfl
    refine byG ?_;exact⟨μ2-1,by omega,k+1,by omega,⟨rfl,rfl,rfl,rfl,rfl,rfl,rfl,rfl,rfl,trivial⟩,allI_step (p:=fun j b=>pairB i j x.T b.T) hall2 hy hp,hw.drop⟩
   ·have h3:(decide ((i:Int)=k)||decide (y.Level<x.Level))=false:=h3
    refine byG ?_;refine W_loop (fun μ3 ρ w=>∃(j:Nat),μ3+j=x.N∧Has ρ [(1,.pointer (some ⟨b1,0,none⟩)),(5,.int .i64 i),(6,.pointer (some ⟨b6,0,none⟩)),(8,.pointer (some ⟨b8,0,none⟩)),(9,.int .i64 (sharedN (x.Cores.take j) y.Cores)),(25,.slice a2 n2 c2),(26,.int .i64 n2),(27,.int .i64 i),(33,.slice a2 n2 c2),(34,.int .i64 n2),(35,.int .i64 k),(51,.slice x.A x.N x.C),(52,.int .i64 x.N),(53,.int .i64 j)]∧Wd Γ (.blk b8 (.cells (cC y).toArray 38)::.blk b6 (.cells (cC x).toArray 38)::.blk b1 (hwC H a1 n1 c1 a2 n2 c2 a3 n3 c3 a4 n4 c4 a5 n5 c5)::S) w) x.N ⟨0,by omega,⟨rfl,rfl,rfl,rfl,rfl,rfl,rfl,rfl,rfl,rfl,rfl,rfl,rfl,rfl,trivial⟩,hw⟩ ?_
    clear hw;rintro μ3 ρ w ⟨j,hj,hρ,hw⟩
    rw[hρ.eq];have hle:sharedN (x.Cores.take j) y.Cores≤j:=Nat.le_trans (List.length_filter_le _ _) (by simp;omega)
    refine byG ?_;refine W_cond rfl (fun h4=>?_) (fun h4=>?_)
    ·have hjn:j<x.N:=by simpa using h4
     obtain⟨v,hv⟩:=get_lt (l:=x.Cores) (k:=j) (by omega)
     have hst:sharedN (x.Cores.take (j+1)) y.Cores=sharedN (x.Cores.take j) y.Cores+(if memI v y.Cores=true then 1 else 0):=by
      unfold sharedN;rw[take_succ_of hv,List.filter_append,List.length_append];congr 1
      by_cases e:memI v y.Cores=true <;> simp[e]
     repeat first|refine byW ?_|refine byV ?_;intro w hw
     refine W_cond rfl (fun h5=>?_) (fun h5=>?_)
     ·rw[if_pos h5]at hst;refine byG ?_;exact⟨μ3-1,by omega,j+1,by omega,⟨rfl,rfl,rfl,rfl,by rw[hst];rfl,rfl,rfl,rfl,rfl,rfl,rfl,rfl,rfl,rfl,trivial⟩,hw⟩
     ·rw[if_neg (by rw[h5];simp)]at hst
      refine byG ?_;exact⟨μ3-1,by omega,j+1,by omega,⟨rfl,rfl,rfl,rfl,by rw[hst];rfl,rfl,rfl,rfl,rfl,rfl,rfl,rfl,rfl,rfl,trivial⟩,hw⟩
    ·have hjn:¬j<x.N:=by simpa using h4
     rw[List.take_of_length_le (by omega)]
     refine byG ?_;have key:pairB i k x.T y.T = !(decide ((0:Int)<(sharedN x.Cores y.Cores:Nat))&&(decide (x.Level=y.Level)||decide (((sharedN x.Cores y.Cores:Nat):Int)<x.N))):=by
      unfold pairB CacheH.T;rw[show decide (i=k)=decide ((i:Int)=k) from decide_eq_decide.2 (by omega),h3]
      rw[show decide (0<sharedN x.Cores y.Cores)=decide ((0:Int)<(sharedN x.Cores y.Cores:Nat)) from decide_eq_decide.2 (by omega)]
      rw[show decide (sharedN x.Cores y.Cores<x.Cores.length)=decide (((sharedN x.Cores y.Cores:Nat):Int)<x.N) from decide_eq_decide.2 (by omega)]
      rfl
     refine W_cond rfl (fun h6=>?_) (fun h6=>?_)
     ·have hp:pairB i k x.T y.T=false:=key.trans (congrArg (fun b=>!b) h6)
      refine byG ?_;refine⟨_,rfl,ret_b rfl ?_,hw.drop.drop.drop⟩
      refine(decP_f fun hP=>?_).symm
      rw[hP.2 i k x.T y.T (hget i x hx) (hget k y hy)]at hp;cases hp
     ·have hp:pairB i k x.T y.T=true:=key.trans (congrArg (fun b=>!b) h6)
      refine byG ?_;exact⟨μ2-1,by omega,k+1,by omega,⟨rfl,rfl,rfl,rfl,rfl,rfl,rfl,rfl,rfl,trivial⟩,allI_step (p:=fun j b=>pairB i j x.T b.T) hall2 hy hp,hw.drop⟩
  ·have hkn:¬k<n2:=by simpa using h2
   refine byG ?_;refine⟨μ-1,by omega,i+1,by omega,⟨rfl,rfl,rfl,rfl,trivial⟩,fun i' j a b h1 ha hb=>?_,hw.drop⟩
   by_cases e:i'=i
   ·subst e;rw[hx]at ha;cases ha
    exact hall2 j b (by have:=(List.getElem?_eq_some_iff.1 hb).1;omega) hb
   ·exact hall i' j a b (by omega) ha hb
 ·have hin:¬i<n2:=by simpa using h
  refine byG ?_;refine⟨_,rfl,ret_b rfl ?_,hw.drop⟩
  refine(decP_t ⟨fun c hc=>?_,fun p q a b ha hb=>?_⟩).symm
  ·rw[←hcs]at hc;obtain⟨x,hx,rfl⟩:=List.mem_map.1 hc
   obtain⟨q,hq,he⟩:=List.getElem_of_mem hx
   exact hsort q x (by rw[List.getElem?_eq_getElem hq,he])
  ·rw[←hcs,List.getElem?_map]at ha hb
   obtain⟨x,hx,rfl⟩:=Option.map_eq_some_iff.1 ha
   obtain⟨y,hy,rfl⟩:=Option.map_eq_some_iff.1 hb
   exact hall p q x y (by have:=(List.getElem?_eq_some_iff.1 hx).1;omega) hx hy⟩
abbrev blkRows(l:List (Int×Int)):List (List Value):=l.map fun p=>[.int .u64 p.1,.int .u64 p.2]
def memBlk(m:MemT):Int×Int:=(m.Base,IntKind.u64.wrap (m.Base+m.Size))
def devBlk(m:DevT):Int×Int:=(m.Base,IntKind.u64.wrap (m.Base+m.Size))
def regs(H:HwT):List (Int×Int):=H.Mems.map memBlk++H.Devs.map devBlk
def apartB(x y:Int×Int):Bool:=!(decide (x.1<y.2)&&decide (y.1<x.2))
def DisjP(H:HwT):Prop:=∀(i k:Nat) (a b:Int×Int),k<i→(regs H)[i]? = some a→(regs H)[k]? = some b→apartB a b=true
noncomputable def disjB(H:HwT):Bool:=decP (DisjP H)
theorem rows_snocB{α:Type}{f:α→Int×Int}{l:List α}{L:List (Int×Int)}{k:Nat}{x:α}(hx:l[k]? = some x):blkRows (L++(l.take k).map f)++[[.int .u64 (f x).1,.int .u64 (f x).2]]=blkRows (L++(l.take (k+1)).map f):=by rw[take_succ_of hx];simp[blkRows]
theorem rows_snocN{α:Type}{f:α→Int}{l:List α}{L:List Int}{k:Nat}{x:α}(hx:l[k]? = some x):intRows (L++(l.take k).map f)++[[.int .i64 (f x)]]=intRows (L++(l.take (k+1)).map f):=by rw[take_succ_of hx];simp[intRows]
theorem disjoint_any{Γ:Gho}{S:List Res}{w:World}{u:Value}{H:HwT}[hh:HwR Γ u H](hcnt:countsB H=true)(hw:Wd Γ S w):Calls Tryz.prog 39 #[u] w fun e w'=>e=.returned (.bool (disjB H))∧Wd Γ S w':=by
 obtain⟨-,l1,l2,l3,l4,l5⟩:=counts_le hcnt
 obtain⟨a1,n1,c1,a2,n2,c2,a3,n3,c3,a4,n4,c4,a5,n5,c5,cs,rfl,hcs,hok,hsz,r1,r2,r3,r4,r5⟩:=hh.h;obtain⟨hn1,hm1,hx1⟩:=rep_facts r1
 obtain⟨hn2,hm2,hx2⟩:=rep_facts r2
 obtain⟨hn3,hm3,hx3⟩:=rep_facts r3
 obtain⟨hn4,hm4,hx4⟩:=rep_facts r4
 obtain⟨hn5,hm5,hx5⟩:=rep_facts r5
 simp only[List.length_map]at hn1 hn2 hn3 hn4 hn5
 refine calls_of_W Tryz.func39 rfl rfl ?_
 refine byG ?_;refine lBox ?_;intro b1 w hw;have hw:Wd Γ (.blk b1 (.cells #[.string H.Name,.slice a1 n1 c1,.slice a2 n2 c2,.slice a3 n3 c3,.slice a4 n4 c4,.slice a5 n5 c5] 30)::S) w:=hw
 obtain⟨q,m,d,hq⟩:∃(q:Option Addr) (m d:Nat),(.slice none 0 0:Value)=.slice q m d:=⟨_,_,_,rfl⟩
 have hw:Wd Γ (.own (.slice none 0 0) 136 2 (blkRows [])::.blk b1 (.cells #[.string H.Name,.slice a1 n1 c1,.slice a2 n2 c2,.slice a3 n3 c3,.slice a4 n4 c4,.slice a5 n5 c5] 30)::S) w:=Wd.addNil hw
 refine byG ?_;rw[hq] at *
 clear hq;rw[show ([]:List (Int×Int))=(([]:List (Int×Int))++(H.Mems.take 0).map memBlk) from by simp]at hw
 refine byG ?_;refine W_loop (fun μ ρ w=>∃(k:Nat) (q:Option Addr) (m d:Nat),μ+k=n4∧Has ρ [(1,.pointer (some ⟨b1,0,none⟩)),(3,.slice q m d),(11,.slice a4 n4 c4),(12,.int .i64 n4),(13,.int .i64 k)]∧Wd Γ (.own (.slice q m d) 136 2 (blkRows (([]:List (Int×Int))++(H.Mems.take k).map memBlk))::.blk b1 (.cells #[.string H.Name,.slice a1 n1 c1,.slice a2 n2 c2,.slice a3 n3 c3,.slice a4 n4 c4,.slice a5 n5 c5] 30)::S) w) n4 ⟨0,q,m,d,by omega,⟨rfl,rfl,rfl,rfl,rfl,trivial⟩,hw⟩ ?_
 clear hw;rintro μ ρ w ⟨k,q,m,d,hk,hρ,hw⟩
 have hm:=own_len (i:=0) hw rfl
 simp only[blkRows,List.length_map,List.length_append,List.length_nil,List.length_take]at hm
 rw[hρ.eq];refine byG ?_;refine W_cond rfl (fun h=>?_) (fun h=>?_)
 ·have hkn:k<n4:=by simpa using h
  obtain⟨x,hx⟩:=get_lt (l:=H.Mems) (k:=k) (by omega)
  refine byG ?_;refine lAlloc ?_;intro b9 w hw;refine lStore ?_;intro w hw;have hw:Wd Γ (.blk b9 (.cells (enc x).toArray 42)::.own (.slice q m d) 136 2 (blkRows (([]:List (Int×Int))++(H.Mems.take k).map memBlk))::.blk b1 (.cells #[.string H.Name,.slice a1 n1 c1,.slice a2 n2 c2,.slice a3 n3 c3,.slice a4 n4 c4,.slice a5 n5 c5] 30)::S) w:=hw
  refine byG ?_;refine lBuildSlice [[.int .u64 (memBlk x).1,.int .u64 (memBlk x).2]] ?_
  intro ab w hw;refine lApp (i:=2) (rows2:=[[.int .u64 (memBlk x).1,.int .u64 (memBlk x).2]]) ?_ (Wd.own_rd (i:=0) hw rfl)
  intro v' w hw;obtain⟨q',m',d',rfl,-,-,-⟩:=hw.own_shape (i:=2) rfl
  have hw:Wd Γ (.own (.slice q' m' d') 136 2 (blkRows (([]:List (Int×Int))++(H.Mems.take (k+1)).map memBlk))::.blk b1 (.cells #[.string H.Name,.slice a1 n1 c1,.slice a2 n2 c2,.slice a3 n3 c3,.slice a4 n4 c4,.slice a5 n5 c5] 30)::S) w:=by
   rw[←rows_snocB hx];exact hw.drop.drop
  refine byG ?_;exact⟨μ-1,by omega,k+1,_,_,_,by omega,⟨rfl,rfl,rfl,rfl,rfl,trivial⟩,hw⟩
 have hkn:¬k<n4:=by simpa using h
 rw[List.take_of_length_le (l:=H.Mems) (by omega)]at hw
 clear h hkn hρ hk hm;rw[List.nil_append]at hw;rw[show H.Mems.map memBlk=(H.Mems.map memBlk++(H.Devs.take 0).map devBlk) from by simp]at hw
 refine byG ?_;refine W_loop (fun μ ρ w=>∃(k:Nat) (q:Option Addr) (m d:Nat),μ+k=n5∧Has ρ [(1,.pointer (some ⟨b1,0,none⟩)),(3,.slice q m d),(30,.slice a5 n5 c5),(31,.int .i64 n5),(32,.int .i64 k)]∧Wd Γ (.own (.slice q m d) 136 2 (blkRows (H.Mems.map memBlk++(H.Devs.take k).map devBlk))::.blk b1 (.cells #[.string H.Name,.slice a1 n1 c1,.slice a2 n2 c2,.slice a3 n3 c3,.slice a4 n4 c4,.slice a5 n5 c5] 30)::S) w) n5 ⟨0,q,m,d,by omega,⟨rfl,rfl,rfl,rfl,rfl,trivial⟩,hw⟩ ?_
 clear hw;rintro μ ρ w ⟨k,q,m,d,hk,hρ,hw⟩
 have hm:=own_len (i:=0) hw rfl
 simp only[blkRows,List.length_map,List.length_append,List.length_nil,List.length_take]at hm
 rw[hρ.eq];refine byG ?_;refine W_cond rfl (fun h=>?_) (fun h=>?_)
 ·have hkn:k<n5:=by simpa using h
  obtain⟨x,hx⟩:=get_lt (l:=H.Devs) (k:=k) (by omega)
  refine byG ?_;refine lAlloc ?_;intro b9 w hw;refine lStore ?_;intro w hw;have hw:Wd Γ (.blk b9 (.cells (enc x).toArray 79)::.own (.slice q m d) 136 2 (blkRows (H.Mems.map memBlk++(H.Devs.take k).map devBlk))::.blk b1 (.cells #[.string H.Name,.slice a1 n1 c1,.slice a2 n2 c2,.slice a3 n3 c3,.slice a4 n4 c4,.slice a5 n5 c5] 30)::S) w:=hw
  refine byG ?_;refine lBuildSlice [[.int .u64 (devBlk x).1,.int .u64 (devBlk x).2]] ?_
  intro ab w hw;refine lApp (i:=2) (rows2:=[[.int .u64 (devBlk x).1,.int .u64 (devBlk x).2]]) ?_ (Wd.own_rd (i:=0) hw rfl)
  intro v' w hw;obtain⟨q',m',d',rfl,-,-,-⟩:=hw.own_shape (i:=2) rfl
  have hw:Wd Γ (.own (.slice q' m' d') 136 2 (blkRows (H.Mems.map memBlk++(H.Devs.take (k+1)).map devBlk))::.blk b1 (.cells #[.string H.Name,.slice a1 n1 c1,.slice a2 n2 c2,.slice a3 n3 c3,.slice a4 n4 c4,.slice a5 n5 c5] 30)::S) w:=by
   rw[←rows_snocB hx];exact hw.drop.drop
  refine byG ?_;exact⟨μ-1,by omega,k+1,_,_,_,by omega,⟨rfl,rfl,rfl,rfl,rfl,trivial⟩,hw⟩
 have hkn:¬k<n5:=by simpa using h
 rw[List.take_of_length_le (l:=H.Devs) (by omega)]at hw
 clear h hkn hρ hk hm;have hw:Wd Γ (.own (.slice q m d) 136 2 (blkRows (regs H))::.blk b1 (.cells #[.string H.Name,.slice a1 n1 c1,.slice a2 n2 c2,.slice a3 n3 c3,.slice a4 n4 c4,.slice a5 n5 c5] 30)::S) w:=hw
 have hm:=own_len (i:=0) hw rfl
 simp only[blkRows,List.length_map]at hm
 have hmb:m≤96:=by rw[hm];simp[regs];omega
 refine byG ?_;refine W_loop (fun μ ρ w=>∃(i:Nat),μ+i=m∧Has ρ [(3,.slice q m d),(49,.int .i64 m),(50,.int .i64 i)]∧(∀(i' k:Nat) (a b:Int×Int),i'<i→k<i'→(regs H)[i']? = some a→(regs H)[k]? = some b→apartB a b=true)∧Wd Γ (.own (.slice q m d) 136 2 (blkRows (regs H))::.blk b1 (.cells #[.string H.Name,.slice a1 n1 c1,.slice a2 n2 c2,.slice a3 n3 c3,.slice a4 n4 c4,.slice a5 n5 c5] 30)::S) w) m ⟨0,by omega,⟨rfl,rfl,rfl,trivial⟩,fun i' k a b h=>by omega,hw⟩ ?_
 clear hw;rintro μ ρ w ⟨i,hi,hρ,hall,hw⟩
 rw[hρ.eq];refine byG ?_;refine W_cond rfl (fun h=>?_) (fun h=>?_)
 ·have hin:i<m:=by simpa using h
  obtain⟨x,hx⟩:=get_lt (l:=regs H) (k:=i) (by omega)
  refine byG ?_;refine W_loop (fun μ2 ρ w=>∃(k:Nat),μ2+k=i∧Has ρ [(3,.slice q m d),(8,.int .i64 i),(9,.int .i64 k),(49,.int .i64 m),(50,.int .i64 i)]∧(∀(j:Nat) (b:Int×Int),j<k→(regs H)[j]? = some b→apartB x b=true)∧Wd Γ (.own (.slice q m d) 136 2 (blkRows (regs H))::.blk b1 (.cells #[.string H.Name,.slice a1 n1 c1,.slice a2 n2 c2,.slice a3 n3 c3,.slice a4 n4 c4,.slice a5 n5 c5] 30)::S) w) i ⟨0,by omega,⟨rfl,rfl,rfl,rfl,rfl,trivial⟩,fun j b h=>by omega,hw⟩ ?_
  clear hw;rintro μ2 ρ w ⟨k,hk,hρ,hall2,hw⟩
  rw[hρ.eq];refine byG ?_;refine W_cond rfl (fun h2=>?_) (fun h2=>?_)
  ·have hki:k<i:=by simpa using h2
   obtain⟨y,hy⟩:=get_lt (l:=regs H) (k:=k) (by omega)
   refine byG ?_;refine W_quiet (by kernel_rfl) (by kernel_rfl) hw ?_
   refine byQ ?_;intro w hw;refine W_cond rfl (fun h3=>?_) (fun h3=>?_)
   ·have hp:apartB x y=false:=by unfold apartB;exact congrArg (fun b=>!b) h3
    refine byG ?_;refine⟨_,rfl,ret_b rfl ?_,hw.drop.drop⟩
    refine(decP_f fun hP=>?_).symm
    rw[hP i k x y hki hx hy]at hp;cases hp
   ·have hp:apartB x y=true:=by unfold apartB;exact congrArg (fun b=>!b) h3
    refine byG ?_;exact⟨μ2-1,by omega,k+1,by omega,⟨rfl,rfl,rfl,rfl,rfl,trivial⟩,all_step hall2 hy hp,hw⟩
  ·have hki:¬k<i:=by simpa using h2
   refine byG ?_;refine⟨μ-1,by omega,i+1,by omega,⟨rfl,rfl,rfl,trivial⟩,fun i' j a b h1 h3 ha hb=>?_,hw⟩
   by_cases e:i'=i
   ·subst e;rw[hx]at ha;cases ha
    exact hall2 j b (by omega) hb
   ·exact hall i' j a b (by omega) h3 ha hb
 ·have hin:¬i<m:=by simpa using h
  refine byG ?_;refine⟨_,rfl,ret_b rfl ?_,hw.drop.drop⟩
  exact(decP_t fun p q a b hpq ha hb=>hall p q a b (by have:=(List.getElem?_eq_some_iff.1 ha).1;omega) hpq ha hb).symm
inductive Reach (ls:List LinkT) (s:Int):Int→Prop
 | refl:Reach ls s s
 | ab {l:LinkT}:l∈ls→Reach ls s l.A→Reach ls s l.B
 | ba {l:LinkT}:l∈ls→Reach ls s l.B→Reach ls s l.A
def usedN(H:HwT):List Int:=(H.Cores.map (fun c=>c.Node)++H.Mems.map (fun c=>c.Node))++H.Devs.map (fun c=>c.Node)
def ConnP(H:HwT):Prop:=∀n∈usedN H,Reach H.Links ((usedN H).headD 0) n
noncomputable def connB(H:HwT):Bool:=decP (ConnP H)
theorem head_used{H:HwT}{s0:Int}(h:(usedN H)[0]? = some s0):(usedN H).headD 0=s0:=by
 cases hu:usedN H with
 | nil=>rw[hu]at h;cases h
 | cons a l=>rw[hu]at h;simpa using h
theorem nodes_in{H:HwT}(h1:coresRB H=true)(h2:regionsRB H=true):(∀n∈usedN H,0≤n∧n<64)∧∀l∈H.Links,0≤l.A∧l.A<64∧0≤l.B∧l.B<64:=by
 unfold coresRB at h1;unfold regionsRB at h2;simp only[Bool.and_eq_true,List.all_eq_true]at h1 h2
 obtain⟨hc,-,hl⟩:=h1;obtain⟨hm,hd⟩:=h2;refine⟨fun n hn=>?_,fun l hl'=>?_⟩
 ·unfold usedN at hn;simp only[List.mem_append,List.mem_map]at hn
  rcases hn with (⟨c,hcm,rfl⟩|⟨c,hcm,rfl⟩)|⟨c,hcm,rfl⟩
  ·have:=hc c hcm;simp[coreRB,isNodeB]at this;omega
  ·have:=hm c hcm;simp[memRB,isNodeB]at this;omega
  ·have:=hd c hcm;simp[devRB,isNodeB]at this;omega
 ·have:=hl l hl';simp[linkRB,isNodeB]at this;omega
structure Known(ls:List LinkT)(s:Int)(R:List Bool):Prop where
 len:R.length=64
 ok:∀(j:Nat),R[j]? = some true→∃n:Int,n.toNat=j∧0≤n∧Reach ls s n
theorem known_start{ls:List LinkT}{s:Int}(h:0≤s∧s<64):Known ls s ((List.replicate 64 false).set s.toNat true):=⟨by simp,fun j hj=>by
 rw[List.getElem?_set]at hj;split at hj
 ·rename_i e;exact⟨s,e,h.1,.refl⟩
 ·rw[List.getElem?_replicate]at hj;split at hj <;> simp at hj⟩
theorem Known.set{ls:List LinkT}{s n:Int}{R:List Bool}(h:Known ls s R)(hn:0≤n)(hr:Reach ls s n):Known ls s (R.set n.toNat true):=⟨by simp[h.len],fun j hj=>by
 rw[List.getElem?_set]at hj;split at hj
 ·rename_i e;exact⟨n,e,hn,hr⟩
 ·exact h.ok j hj⟩
theorem known_iff{ls:List LinkT}{s n:Int}{R:List Bool}(h:Known ls s R)(h0:R[s.toNat]? = some true)(hs:0≤s)(hL:∀l∈ls,0≤l.A∧l.A<64∧0≤l.B∧l.B<64)(hcl:∀l∈ls,R.getD l.A.toNat false=R.getD l.B.toNat false)(hn:0≤n∧n<64):R.getD n.toNat false=true↔Reach ls s n:=by
 constructor
 ·intro hg;rw[List.getD_eq_getElem?_getD]at hg;obtain⟨b,hb⟩:=get_lt (l:=R) (k:=n.toNat) (by rw[h.len];omega)
  rw[hb]at hg;have hg:b=true:=hg
  subst hg;obtain⟨x,hx,hx0,hr⟩:=h.ok _ hb
  have:x=n:=by omega
  subst this;exact hr
 ·intro hr;clear hn;induction hr with
  | refl=>rw[List.getD_eq_getElem?_getD,h0];rfl
  | ab hl _ ih=>rw[←hcl _ hl];exact ih
  | ba hl _ ih=>rw[hcl _ hl];exact ih
theorem set_self{R:List Bool}{k:Nat}{b:Bool}(h:k<R.length):(R.set k b)[k]? = some b:=by rw[List.getElem?_set_self h]
theorem getBool{R:List Bool}{k:Nat}{b:Bool}(h:R[k]? = some b):((R.map Value.bool).toArray)[0+k*1]? = some (.bool b):=by simp[h]
theorem putBool{R:List Bool}{k:Nat}{b:Bool}(h:k<R.length):putCells (R.map Value.bool).toArray (0+k*1) [.bool b]=((R.set k b).map Value.bool).toArray:=by
 unfold putCells;rw[Nat.zero_add,Nat.mul_one,List.set_eq_take_append_cons_drop,if_pos h];simp
theorem y_neqlb{P:Program}{d:Option Tmp}{T U ty:TypeId}{pos:String}{es:Array Edge}{g:Option (Nat×Bool)}{x y:Operand}{ρ:Fr}{w:World}{a b:Bool}(hT:P.underlying T=some .bool)(hx:ev ρ x=.bool a)(hy:ev ρ y=.bool b):Mk.Yields P ⟨d,.binOp .neq T x y U,ty,pos,es,g⟩ ρ w (.bool (a != b)):=by
 unfold Mk.Yields;simp[execOp,go_sem,hx,hy,hT];cases a <;> cases b <;> rfl
theorem count_set_le{R:List Bool}{k:Nat}:(R.set k true).count false≤R.count false:=by
 induction R generalizing k with
 | nil=>simp
 | cons b l ih=>
  cases k with
  | zero=>cases b <;> simp
  | succ k=>simp only[List.set_cons_succ,List.count_cons];have:=ih (k:=k);omega
theorem count_set_lt{R:List Bool}{k:Nat}(h:R[k]? = some false):(R.set k true).count false+1≤R.count false:=by
 induction R generalizing k with
 | nil=>simp at h
 | cons b l ih=>
  cases k with
  | zero=>simp at h;subst h;simp
  | succ k=>simp at h;simp only[List.set_cons_succ,List.count_cons];have:=ih (k:=k) (by simpa using h);omega
theorem connected_any{Γ:Gho}{S:List Res}{w:World}{u:Value}{H:HwT}[hh:HwR Γ u H](hcnt:countsB H=true)(hcr:coresRB H=true)(hrr:regionsRB H=true)(hw:Wd Γ S w):Calls Tryz.prog 40 #[u] w fun e w'=>e=.returned (.bool (connB H))∧Wd Γ S w':=by
 obtain⟨l0,l1,l2,l3,l4,l5⟩:=counts_le hcnt
 obtain⟨hNd,hLk⟩:=nodes_in hcr hrr
 obtain⟨a1,n1,c1,a2,n2,c2,a3,n3,c3,a4,n4,c4,a5,n5,c5,cs,rfl,hcs,hok,hsz,r1,r2,r3,r4,r5⟩:=hh.h;obtain⟨hn1,hm1,hx1⟩:=rep_facts r1
 obtain⟨hn2,hm2,hx2⟩:=rep_facts r2
 obtain⟨hn3,hm3,hx3⟩:=rep_facts r3
 obtain⟨hn4,hm4,hx4⟩:=rep_facts r4
 obtain⟨hn5,hm5,hx5⟩:=rep_facts r5
 simp only[List.length_map]at hn1 hn2 hn3 hn4 hn5
 refine calls_of_W Tryz.func40 rfl rfl ?_
 refine byG ?_;refine lBox ?_;intro b1 w hw;have hw:Wd Γ (.blk b1 (.cells #[.string H.Name,.slice a1 n1 c1,.slice a2 n2 c2,.slice a3 n3 c3,.slice a4 n4 c4,.slice a5 n5 c5] 30)::S) w:=hw
 obtain⟨q,m,d,hq⟩:∃(q:Option Addr) (m d:Nat),(.slice none 0 0:Value)=.slice q m d:=⟨_,_,_,rfl⟩
 have hw:Wd Γ (.own (.slice none 0 0) 3 1 (intRows [])::.blk b1 (.cells #[.string H.Name,.slice a1 n1 c1,.slice a2 n2 c2,.slice a3 n3 c3,.slice a4 n4 c4,.slice a5 n5 c5] 30)::S) w:=Wd.addNil hw
 refine byG ?_;rw[hq] at *
 clear hq;rw[show ([]:List Int)=(([]:List Int)++(H.Cores.take 0).map (fun c=>c.Node)) from by simp]at hw
 refine byG ?_;refine W_loop (fun μ ρ w=>∃(k:Nat) (q:Option Addr) (m d:Nat),μ+k=n1∧Has ρ [(1,.pointer (some ⟨b1,0,none⟩)),(3,.slice q m d),(17,.slice a1 n1 c1),(18,.int .i64 n1),(19,.int .i64 k)]∧Wd Γ (.own (.slice q m d) 3 1 (intRows (([]:List Int)++(H.Cores.take k).map (fun c=>c.Node)))::.blk b1 (.cells #[.string H.Name,.slice a1 n1 c1,.slice a2 n2 c2,.slice a3 n3 c3,.slice a4 n4 c4,.slice a5 n5 c5] 30)::S) w) n1 ⟨0,q,m,d,by omega,⟨rfl,rfl,rfl,rfl,rfl,trivial⟩,hw⟩ ?_
 clear hw;rintro μ ρ w ⟨k,q,m,d,hk,hρ,hw⟩
 have hm:=own_len (i:=0) hw rfl
 simp only[intRows,List.length_map,List.length_append,List.length_nil,List.length_take]at hm
 rw[hρ.eq];refine byG ?_;refine W_cond rfl (fun h=>?_) (fun h=>?_)
 ·have hkn:k<n1:=by simpa using h
  obtain⟨x,hx⟩:=get_lt (l:=H.Cores) (k:=k) (by omega)
  refine byG ?_;refine lAlloc ?_;intro b9 w hw;refine lStore ?_;intro w hw;have hw:Wd Γ (.blk b9 (.cells (enc x).toArray 74)::.own (.slice q m d) 3 1 (intRows (([]:List Int)++(H.Cores.take k).map (fun c=>c.Node)))::.blk b1 (.cells #[.string H.Name,.slice a1 n1 c1,.slice a2 n2 c2,.slice a3 n3 c3,.slice a4 n4 c4,.slice a5 n5 c5] 30)::S) w:=hw
  refine byG ?_;refine lBuildSlice [[.int .i64 x.Node]] ?_
  intro ab w hw;refine lApp (i:=2) (rows2:=[[.int .i64 x.Node]]) ?_ (Wd.own_rd (i:=0) hw rfl)
  intro v' w hw;obtain⟨q',m',d',rfl,-,-,-⟩:=hw.own_shape (i:=2) rfl
  have hw:Wd Γ (.own (.slice q' m' d') 3 1 (intRows (([]:List Int)++(H.Cores.take (k+1)).map (fun c=>c.Node)))::.blk b1 (.cells #[.string H.Name,.slice a1 n1 c1,.slice a2 n2 c2,.slice a3 n3 c3,.slice a4 n4 c4,.slice a5 n5 c5] 30)::S) w:=by
   rw[←rows_snocN (f:=fun c:CoreT=>c.Node) hx];exact hw.drop.drop
  refine byG ?_;exact⟨μ-1,by omega,k+1,_,_,_,by omega,⟨rfl,rfl,rfl,rfl,rfl,trivial⟩,hw⟩
 have hkn:¬k<n1:=by simpa using h
 rw[List.take_of_length_le (l:=H.Cores) (by omega)]at hw
 clear h hkn hρ hk hm;rw[List.nil_append]at hw;rw[show H.Cores.map (fun c=>c.Node)=(H.Cores.map (fun c=>c.Node)++(H.Mems.take 0).map (fun c=>c.Node)) from by simp]at hw
 refine byG ?_;refine W_loop (fun μ ρ w=>∃(k:Nat) (q:Option Addr) (m d:Nat),μ+k=n4∧Has ρ [(1,.pointer (some ⟨b1,0,none⟩)),(3,.slice q m d),(30,.slice a4 n4 c4),(31,.int .i64 n4),(32,.int .i64 k)]∧Wd Γ (.own (.slice q m d) 3 1 (intRows (H.Cores.map (fun c=>c.Node)++(H.Mems.take k).map (fun c=>c.Node)))::.blk b1 (.cells #[.string H.Name,.slice a1 n1 c1,.slice a2 n2 c2,.slice a3 n3 c3,.slice a4 n4 c4,.slice a5 n5 c5] 30)::S) w) n4 ⟨0,q,m,d,by omega,⟨rfl,rfl,rfl,rfl,rfl,trivial⟩,hw⟩ ?_
 clear hw;rintro μ ρ w ⟨k,q,m,d,hk,hρ,hw⟩
 have hm:=own_len (i:=0) hw rfl
 simp only[intRows,List.length_map,List.length_append,List.length_nil,List.length_take]at hm
 rw[hρ.eq];refine byG ?_;refine W_cond rfl (fun h=>?_) (fun h=>?_)
 ·have hkn:k<n4:=by simpa using h
  obtain⟨x,hx⟩:=get_lt (l:=H.Mems) (k:=k) (by omega)
  refine byG ?_;refine lAlloc ?_;intro b9 w hw;refine lStore ?_;intro w hw;have hw:Wd Γ (.blk b9 (.cells (enc x).toArray 42)::.own (.slice q m d) 3 1 (intRows (H.Cores.map (fun c=>c.Node)++(H.Mems.take k).map (fun c=>c.Node)))::.blk b1 (.cells #[.string H.Name,.slice a1 n1 c1,.slice a2 n2 c2,.slice a3 n3 c3,.slice a4 n4 c4,.slice a5 n5 c5] 30)::S) w:=hw
  refine byG ?_;refine lBuildSlice [[.int .i64 x.Node]] ?_
  intro ab w hw;refine lApp (i:=2) (rows2:=[[.int .i64 x.Node]]) ?_ (Wd.own_rd (i:=0) hw rfl)
  intro v' w hw;obtain⟨q',m',d',rfl,-,-,-⟩:=hw.own_shape (i:=2) rfl
  have hw:Wd Γ (.own (.slice q' m' d') 3 1 (intRows (H.Cores.map (fun c=>c.Node)++(H.Mems.take (k+1)).map (fun c=>c.Node)))::.blk b1 (.cells #[.string H.Name,.slice a1 n1 c1,.slice a2 n2 c2,.slice a3 n3 c3,.slice a4 n4 c4,.slice a5 n5 c5] 30)::S) w:=by
   rw[←rows_snocN (f:=fun c:MemT=>c.Node) hx];exact hw.drop.drop
  refine byG ?_;exact⟨μ-1,by omega,k+1,_,_,_,by omega,⟨rfl,rfl,rfl,rfl,rfl,trivial⟩,hw⟩
 have hkn:¬k<n4:=by simpa using h
 rw[List.take_of_length_le (l:=H.Mems) (by omega)]at hw
 clear h hkn hρ hk hm;rw[show (H.Cores.map (fun c=>c.Node)++H.Mems.map (fun c=>c.Node))=((H.Cores.map (fun c=>c.Node)++H.Mems.map (fun c=>c.Node))++(H.Devs.take 0).map (fun c=>c.Node)) from by simp]at hw
 refine byG ?_;refine W_loop (fun μ ρ w=>∃(k:Nat) (q:Option Addr) (m d:Nat),μ+k=n5∧Has ρ [(1,.pointer (some ⟨b1,0,none⟩)),(3,.slice q m d),(43,.slice a5 n5 c5),(44,.int .i64 n5),(45,.int .i64 k)]∧Wd Γ (.own (.slice q m d) 3 1 (intRows ((H.Cores.map (fun c=>c.Node)++H.Mems.map (fun c=>c.Node))++(H.Devs.take k).map (fun c=>c.Node)))::.blk b1 (.cells #[.string H.Name,.slice a1 n1 c1,.slice a2 n2 c2,.slice a3 n3 c3,.slice a4 n4 c4,.slice a5 n5 c5] 30)::S) w) n5 ⟨0,q,m,d,by omega,⟨rfl,rfl,rfl,rfl,rfl,trivial⟩,hw⟩ ?_
 clear hw;rintro μ ρ w ⟨k,q,m,d,hk,hρ,hw⟩
 have hm:=own_len (i:=0) hw rfl
 simp only[intRows,List.length_map,List.length_append,List.length_nil,List.length_take]at hm
 rw[hρ.eq];refine byG ?_;refine W_cond rfl (fun h=>?_) (fun h=>?_)
 ·have hkn:k<n5:=by simpa using h
  obtain⟨x,hx⟩:=get_lt (l:=H.Devs) (k:=k) (by omega)
  refine byG ?_;refine lAlloc ?_;intro b9 w hw;refine lStore ?_;intro w hw;have hw:Wd Γ (.blk b9 (.cells (enc x).toArray 79)::.own (.slice q m d) 3 1 (intRows ((H.Cores.map (fun c=>c.Node)++H.Mems.map (fun c=>c.Node))++(H.Devs.take k).map (fun c=>c.Node)))::.blk b1 (.cells #[.string H.Name,.slice a1 n1 c1,.slice a2 n2 c2,.slice a3 n3 c3,.slice a4 n4 c4,.slice a5 n5 c5] 30)::S) w:=hw
  refine byG ?_;refine lBuildSlice [[.int .i64 x.Node]] ?_
  intro ab w hw;refine lApp (i:=2) (rows2:=[[.int .i64 x.Node]]) ?_ (Wd.own_rd (i:=0) hw rfl)
  intro v' w hw;obtain⟨q',m',d',rfl,-,-,-⟩:=hw.own_shape (i:=2) rfl
  have hw:Wd Γ (.own (.slice q' m' d') 3 1 (intRows ((H.Cores.map (fun c=>c.Node)++H.Mems.map (fun c=>c.Node))++(H.Devs.take (k+1)).map (fun c=>c.Node)))::.blk b1 (.cells #[.string H.Name,.slice a1 n1 c1,.slice a2 n2 c2,.slice a3 n3 c3,.slice a4 n4 c4,.slice a5 n5 c5] 30)::S) w:=by
   rw[←rows_snocN (f:=fun c:DevT=>c.Node) hx];exact hw.drop.drop
  refine byG ?_;exact⟨μ-1,by omega,k+1,_,_,_,by omega,⟨rfl,rfl,rfl,rfl,rfl,trivial⟩,hw⟩
 have hkn:¬k<n5:=by simpa using h
 rw[List.take_of_length_le (l:=H.Devs) (by omega)]at hw
 clear h hkn hρ hk hm;have hw:Wd Γ (.own (.slice q m d) 3 1 (intRows (usedN H))::.blk b1 (.cells #[.string H.Name,.slice a1 n1 c1,.slice a2 n2 c2,.slice a3 n3 c3,.slice a4 n4 c4,.slice a5 n5 c5] 30)::S) w:=hw
 have hm:=own_len (i:=0) hw rfl
 simp only[intRows,List.length_map]at hm
 have hmb:1≤m∧m≤128:=by rw[hm];simp[usedN];omega
 obtain⟨s0,hs0⟩:=get_lt (l:=usedN H) (k:=0) (by omega)
 obtain⟨hs1,hs2⟩:=hNd s0 (List.mem_of_getElem? hs0)
 refine byG ?_;refine lAlloc ?_;intro b10 w hw;have hw:Wd Γ (.blk b10 (.cells ((List.replicate 64 false).map Value.bool).toArray 137)::.own (.slice q m d) 3 1 (intRows (usedN H))::.blk b1 (.cells #[.string H.Name,.slice a1 n1 c1,.slice a2 n2 c2,.slice a3 n3 c3,.slice a4 n4 c4,.slice a5 n5 c5] 30)::S) w:=hw
 refine byG ?_;refine lStore (o:=0+s0.toNat*1) (ho:=by simp;omega) ?_
 intro w hw;have hw:Wd Γ (.blk b10 (.cells (putCells ((List.replicate 64 false).map Value.bool).toArray (0+s0.toNat*1) [.bool true]) 137)::.own (.slice q m d) 3 1 (intRows (usedN H))::.blk b1 (.cells #[.string H.Name,.slice a1 n1 c1,.slice a2 n2 c2,.slice a3 n3 c3,.slice a4 n4 c4,.slice a5 n5 c5] 30)::S) w:=hw
 rw[putBool (by simp;omega)]at hw
 refine byG ?_;have hst:Known H.Links s0 ((List.replicate 64 false).set s0.toNat true):=known_start (by omega)
 refine W_loop (fun μ ρ w=>∃(R:List Bool) (ch:Bool),2*R.count false+(if ch=true then 1 else 0)≤μ∧Known H.Links s0 R∧R[s0.toNat]? = some true∧(ch=false→∀l∈H.Links,R.getD l.A.toNat false=R.getD l.B.toNat false)∧Has ρ [(1,.pointer (some ⟨b1,0,none⟩)),(3,.slice q m d),(10,.pointer (some ⟨b10,0,none⟩)),(11,.bool ch)]∧Wd Γ (.blk b10 (.cells ((R).map Value.bool).toArray 137)::.own (.slice q m d) 3 1 (intRows (usedN H))::.blk b1 (.cells #[.string H.Name,.slice a1 n1 c1,.slice a2 n2 c2,.slice a3 n3 c3,.slice a4 n4 c4,.slice a5 n5 c5] 30)::S) w) 200 ⟨_,true,by have:=List.count_le_length (a:=false) (l:=(List.replicate 64 false).set s0.toNat true);simp at this ⊢;omega,hst,set_self (by simp;omega),(fun h=>by cases h),⟨rfl,rfl,rfl,rfl,trivial⟩,hw⟩ ?_
 clear hw;rintro μ ρ w ⟨R,ch,hμ,hkn,hR0,hcl,hρ,hw⟩
 have hRl:=hkn.len
 rw[hρ.eq];refine byG ?_;refine W_cond rfl (fun h=>?_) (fun h=>?_)
 ·subst h;clear hcl;refine byG ?_;refine W_loop (fun μ2 ρ w=>∃(k:Nat) (R2:List Bool) (ch:Bool),μ2+k=n3∧Known H.Links s0 R2∧R2[s0.toNat]? = some true∧2*R2.count false+(if ch=true then 1 else 0)+1≤2*R.count false+1∧(ch=false→∀(i:Nat) (l:LinkT),i<k→H.Links[i]? = some l→R2.getD l.A.toNat false=R2.getD l.B.toNat false)∧Has ρ [(1,.pointer (some ⟨b1,0,none⟩)),(3,.slice q m d),(10,.pointer (some ⟨b10,0,none⟩)),(11,.bool ch),(61,.slice a3 n3 c3),(62,.int .i64 n3),(63,.int .i64 k)]∧Wd Γ (.blk b10 (.cells ((R2).map Value.bool).toArray 137)::.own (.slice q m d) 3 1 (intRows (usedN H))::.blk b1 (.cells #[.string H.Name,.slice a1 n1 c1,.slice a2 n2 c2,.slice a3 n3 c3,.slice a4 n4 c4,.slice a5 n5 c5] 30)::S) w) n3 ⟨0,R,false,by omega,hkn,hR0,by simp,fun _ i l h=>by omega,⟨rfl,rfl,rfl,rfl,rfl,rfl,rfl,trivial⟩,hw⟩ ?_
  clear hw hkn hR0 hRl;rintro μ2 ρ w ⟨k,R2,ch,hk,hkn,hR0,hcnt2,hcl,hρ,hw⟩
  have hRl:=hkn.len
  rw[hρ.eq];refine byG ?_;refine W_cond rfl (fun h2=>?_) (fun h2=>?_)
  ·have hkn3:k<n3:=by simpa using h2
   obtain⟨x,hx⟩:=get_lt (l:=H.Links) (k:=k) (by omega)
   obtain⟨hA0,hA1,hB0,hB1⟩:=hLk x (List.mem_of_getElem? hx)
   obtain⟨ba,hba⟩:=get_lt (l:=R2) (k:=x.A.toNat) (by omega)
   obtain⟨bb,hbb⟩:=get_lt (l:=R2) (k:=x.B.toNat) (by omega)
   refine byG ?_;refine lAlloc ?_;intro b13 w hw;refine lStore ?_;intro w hw;have hw:Wd Γ (.blk b13 (.cells (enc x).toArray 76)::.blk b10 (.cells ((R2).map Value.bool).toArray 137)::.own (.slice q m d) 3 1 (intRows (usedN H))::.blk b1 (.cells #[.string H.Name,.slice a1 n1 c1,.slice a2 n2 c2,.slice a3 n3 c3,.slice a4 n4 c4,.slice a5 n5 c5] 30)::S) w:=hw
   refine byG ?_;refine W_quiet (by kernel_rfl) (by kernel_rfl) hw ?_
   refine byQ ?_;refine qY (v:=.bool ba) ?_ (hy:=fun w hw=>y_l1b (i:=1) hw rfl rfl (getBool hba))
   refine byQ ?_;refine qY (v:=.bool bb) ?_ (hy:=fun w hw=>y_l1b (i:=1) hw rfl rfl (getBool hbb))
   refine byQ ?_;refine qY (v:=.bool (ba != bb)) ?_ (hy:=fun w hw=>y_neqlb Tryz.underlying4 rfl rfl)
   refine byQ ?_;clear hw;intro w hw;refine W_cond rfl (fun h3=>?_) (fun h3=>?_)
   ·refine byG ?_;refine W_mix1 [.blk b13 _] (.blk b10 _::.own _ _ _ _::.blk b1 _::S) [[],[],[],[],[],[0],[],[0]] [[],[],[],[],[],[0],[],[0]] hw ?_
    refine byM ?_;refine mStoreC (o:=0+x.A.toNat*1) (ho:=by simp;omega) ?_
    refine byM ?_;refine mStoreC (o:=0+x.B.toNat*1) (ho:=by
     show _≤(putCells (R2.map Value.bool).toArray (0+x.A.toNat*1) [.bool true]).size
     rw[putBool (by omega)];simp;omega) ?_
    refine mEnd0 ?_
    clear hw;intro w hw;have hw:Wd Γ ([.blk b13 (.cells (enc x).toArray 76)]++((.blk b10 (.cells (putCells (putCells (R2.map Value.bool).toArray (0+x.A.toNat*1) [.bool true]) (0+x.B.toNat*1) [.bool true]) 137)::.own (.slice q m d) 3 1 (intRows (usedN H))::.blk b1 (.cells #[.string H.Name,.slice a1 n1 c1,.slice a2 n2 c2,.slice a3 n3 c3,.slice a4 n4 c4,.slice a5 n5 c5] 30)::S)++[])) w:=hw
    rw[putBool (by omega),putBool (by simp;omega),List.append_nil]at hw
    have hw:Wd Γ (.blk b10 (.cells (((R2.set x.A.toNat true).set x.B.toNat true).map Value.bool).toArray 137)::.own (.slice q m d) 3 1 (intRows (usedN H))::.blk b1 (.cells #[.string H.Name,.slice a1 n1 c1,.slice a2 n2 c2,.slice a3 n3 c3,.slice a4 n4 c4,.slice a5 n5 c5] 30)::S) w:=hw.drop
    refine byG ?_;have hne:ba≠bb:=by cases ba <;> cases bb <;> simp_all
    have hRA:Reach H.Links s0 x.A∧Reach H.Links s0 x.B:=by
     have hxm:=List.mem_of_getElem? hx
     cases ba with
     | true=>
      obtain⟨n,hn,hn0,hr⟩:=hkn.ok _ hba
      have:n=x.A:=by omega
      subst this;exact⟨hr,.ab hxm hr⟩
     | false=>
      have:bb=true:=by cases bb <;> simp_all
      subst this;obtain⟨n,hn,hn0,hr⟩:=hkn.ok _ hbb
      have:n=x.B:=by omega
      subst this;exact⟨.ba hxm hr,hr⟩
    have hc2:2*((R2.set x.A.toNat true).set x.B.toNat true).count false+2≤2*R2.count false:=by
     cases ba with
     | false=>
      have h1:=count_set_lt hba
      have h2:=count_set_le (R:=R2.set x.A.toNat true) (k:=x.B.toNat)
      omega
     | true=>
      have h5:bb=false:=by cases bb <;> simp_all
      subst h5;have h6:x.A.toNat≠x.B.toNat:=fun e=>by rw[e,hbb]at hba;cases hba
      have h1:=count_set_lt (R:=R2.set x.A.toNat true) (k:=x.B.toNat) (by rw[List.getElem?_set_ne h6];exact hbb)
      have h2:=count_set_le (R:=R2) (k:=x.A.toNat)
      omega
    refine⟨μ2-1,by omega,k+1,_,true,by omega,(hkn.set hA0 hRA.1).set hB0 hRA.2,?_,by simp;omega,(fun h=>by cases h),⟨rfl,rfl,rfl,rfl,rfl,rfl,rfl,trivial⟩,hw⟩
    rw[List.getElem?_set,List.getElem?_set];split
    ·simp;omega
    ·split
     ·simp;omega
     ·exact hR0
   ·have hab:ba=bb:=by cases ba <;> cases bb <;> simp_all
    refine byG ?_;refine⟨μ2-1,by omega,k+1,R2,ch,by omega,hkn,hR0,hcnt2,fun hc i l hi hl=>?_,⟨rfl,rfl,rfl,rfl,rfl,rfl,rfl,trivial⟩,hw.drop⟩
    by_cases e:i=k
    ·subst e;rw[hx]at hl;cases hl
     rw[List.getD_eq_getElem?_getD,List.getD_eq_getElem?_getD,hba,hbb,hab]
    ·exact hcl hc i l (by omega) hl
  ·have hkn3:¬k<n3:=by simpa using h2
   refine byG ?_;refine⟨μ-1,by rw[if_pos rfl]at hμ;omega,R2,ch,by rw[if_pos rfl]at hμ;omega,hkn,hR0,fun hc l hl=>?_,⟨rfl,rfl,rfl,rfl,trivial⟩,hw⟩
   obtain⟨i,hi,he⟩:=List.getElem_of_mem hl
   exact hcl hc i l (by omega) (by rw[List.getElem?_eq_getElem hi,he])
 ·subst h;have hcl:=hcl rfl
  clear hμ;have hiff:∀n∈usedN H,(R.getD n.toNat false=true↔Reach H.Links s0 n):=fun n hn=>known_iff hkn hR0 hs1 hLk hcl (hNd n hn)
  refine byG ?_;refine W_loop (fun μ ρ w=>∃(k:Nat),μ+k=m∧(∀(i:Nat) (n:Int),i<k→(usedN H)[i]? = some n→R.getD n.toNat false=true)∧Has ρ [(10,.pointer (some ⟨b10,0,none⟩)),(83,.slice q m d),(84,.int .i64 m),(85,.int .i64 k)]∧Wd Γ (.blk b10 (.cells ((R).map Value.bool).toArray 137)::.own (.slice q m d) 3 1 (intRows (usedN H))::.blk b1 (.cells #[.string H.Name,.slice a1 n1 c1,.slice a2 n2 c2,.slice a3 n3 c3,.slice a4 n4 c4,.slice a5 n5 c5] 30)::S) w) m ⟨0,by omega,fun i n h=>by omega,⟨rfl,rfl,rfl,rfl,trivial⟩,hw⟩ ?_
  clear hw;rintro μ ρ w ⟨k,hk,hall,hρ,hw⟩
  rw[hρ.eq];refine byG ?_;refine W_cond rfl (fun h2=>?_) (fun h2=>?_)
  ·have hkm:k<m:=by simpa using h2
   obtain⟨x,hx⟩:=get_lt (l:=usedN H) (k:=k) (by omega)
   obtain⟨hx0,hx1⟩:=hNd x (List.mem_of_getElem? hx)
   obtain⟨bx,hbx⟩:=get_lt (l:=R) (k:=x.toNat) (by omega)
   have hg:R.getD x.toNat false=bx:=by rw[List.getD_eq_getElem?_getD,hbx];rfl
   refine byG ?_;refine lY (v:=.bool bx) ?_ (hy:=y_l1b (i:=0) hw rfl rfl (getBool hbx))
   refine byG ?_;refine W_cond rfl (fun h3=>?_) (fun h3=>?_)
   ·have h3:bx=false:=by simpa using h3
    refine byG ?_;refine⟨_,rfl,ret_b rfl ?_,hw.drop.drop.drop⟩
    refine(decP_f fun hP=>?_).symm
    have h4:=(hiff x (List.mem_of_getElem? hx)).2 (by rw[←head_used hs0];exact hP x (List.mem_of_getElem? hx))
    rw[hg,h3]at h4;cases h4
   ·have h3:bx=true:=by simpa using h3
    refine byG ?_;exact⟨μ-1,by omega,k+1,by omega,all_step (p:=fun n:Int=>R.getD n.toNat false) hall hx (hg.trans h3),⟨rfl,rfl,rfl,rfl,trivial⟩,hw⟩
  ·have hkm:¬k<m:=by simpa using h2
   refine byG ?_;refine⟨_,rfl,ret_b rfl ?_,hw.drop.drop.drop⟩
   refine(decP_t fun n hn=>?_).symm
   rw[head_used hs0];obtain⟨i,hi,he⟩:=List.getElem_of_mem hn
   exact(hiff n hn).1 (hall i n (by omega) (by rw[List.getElem?_eq_getElem hi,he]))
noncomputable def validS(H:HwT):Int:=
 if namesB H=false then 63 else if countsB H=false then 15 else if (coresRB H&&regionsRB H)=false then 6 else if alignRB H=false then 59
 else if uniqueB H=false then 56 else if knownB H=false then 57 else if hierB H=false then 73 else if disjB H=false then 7 else if connB H=false then 60 else 0
instance pg_Validate{Γ:Gho}{u:Value}{H:HwT}[hh:HwR Γ u H]:PG Tryz.prog Γ 8 [u] (.int .i64 (validS H)):=⟨fun S w hw=>by
 obtain⟨a1,n1,c1,a2,n2,c2,a3,n3,c3,a4,n4,c4,a5,n5,c5,cs,hu,-⟩:=hh.h;subst hu;refine calls_of_W Tryz.func8 rfl rfl ?_
 refine byG ?_;refine lBox ?_;intro b1 w hw;have hw:Wd Γ (.blk b1 (hwC H a1 n1 c1 a2 n2 c2 a3 n3 c3 a4 n4 c4 a5 n5 c5)::S) w:=hw
 unfold validS;repeat first|refine byW ?_|refine byV ?_;intro w hw
 refine W_cond rfl (fun h=>?_) (fun h=>?_)
 ·rw[if_pos (by simpa using h)]
  refine byG ?_;exact⟨_,rfl,rfl,hw.drop⟩
 rw[if_neg (by simpa using h)]
 clear h;repeat first|refine byW ?_|refine byV ?_;intro w hw
 refine W_cond rfl (fun h=>?_) (fun h=>?_)
 ·rw[if_pos (by simpa using h)]
  refine byG ?_;exact⟨_,rfl,rfl,hw.drop⟩
 have hcnt:countsB H=true:=by simpa using h
 rw[if_neg (by simpa using h)]
 clear h;repeat first|refine byW ?_|refine byV ?_;intro w hw
 refine W_cond rfl (fun h=>?_) (fun h=>?_)
 ·have h:(!coresRB H || !regionsRB H)=true:=h
  rw[if_pos (by revert h;cases coresRB H <;> cases regionsRB H <;> simp)]
  refine byG ?_;exact⟨_,rfl,rfl,hw.drop⟩
 have h:(!coresRB H || !regionsRB H)=false:=h
 rw[←Bool.not_and]at h;have h:(coresRB H&&regionsRB H)=true:=by simpa using h
 rw[if_neg (by rw[h];simp)]
 rw[Bool.and_eq_true]at h;obtain⟨hcr,hrr⟩:=h;repeat first|refine byW ?_|refine byV ?_;intro w hw
 refine W_cond rfl (fun h=>?_) (fun h=>?_)
 ·rw[if_pos (by simpa using h)]
  refine byG ?_;exact⟨_,rfl,rfl,hw.drop⟩
 rw[if_neg (by simpa using h)]
 clear h;refine byG ?_;refine lCall ?_;refine(unique_any hcnt hw).mono ?_
 rintro r w ⟨rfl,hw⟩
 refine⟨_,rfl,?_⟩;refine byG ?_;refine W_cond rfl (fun h=>?_) (fun h=>?_)
 ·rw[if_pos (by simpa using h)]
  refine byG ?_;exact⟨_,rfl,rfl,hw.drop⟩
 rw[if_neg (by simpa using h)]
 clear h;repeat first|refine byW ?_|refine byV ?_;intro w hw
 refine W_cond rfl (fun h=>?_) (fun h=>?_)
 ·rw[if_pos (by simpa using h)]
  refine byG ?_;exact⟨_,rfl,rfl,hw.drop⟩
 rw[if_neg (by simpa using h)]
 clear h;repeat first|refine byW ?_|refine byV ?_;intro w hw
 refine W_cond rfl (fun h=>?_) (fun h=>?_)
 ·rw[if_pos (by simpa using h)]
  refine byG ?_;exact⟨_,rfl,rfl,hw.drop⟩
 rw[if_neg (by simpa using h)]
 clear h;refine byG ?_;refine lCall ?_;refine(disjoint_any hcnt hw).mono ?_
 rintro r w ⟨rfl,hw⟩
 refine⟨_,rfl,?_⟩;refine byG ?_;refine W_cond rfl (fun h=>?_) (fun h=>?_)
 ·rw[if_pos (by simpa using h)]
  refine byG ?_;exact⟨_,rfl,rfl,hw.drop⟩
 rw[if_neg (by simpa using h)]
 clear h;refine byG ?_;refine lCall ?_;refine(connected_any hcnt hcr hrr hw).mono ?_
 rintro r w ⟨rfl,hw⟩
 refine⟨_,rfl,?_⟩;refine byG ?_;refine W_cond rfl (fun h=>?_) (fun h=>?_)
 ·rw[if_pos (by simpa using h)]
  refine byG ?_;exact⟨_,rfl,rfl,hw.drop⟩
 rw[if_neg (by simpa using h)]
 refine byG ?_;exact⟨_,rfl,rfl,hw.drop⟩⟩
end Go.Proofs.YtfoggcgogafocaaGreatDoor
end
section
open Go
namespace Mk
def maskL(done:List Nat):List Edge→Nat→Nat
 | [],m=>m
 | e::es,m=>maskL done es (if Region.binds .any e then (m ||| (1 <<< e.on)) ||| done.getD e.on 0 else m)
def masks:List Nat→List Oper→List Nat
 | done,[]=>done
 | done,o::l=>masks (done++[maskL done o.after.toList 0]) l
theorem maskL_spec{done:List Nat}{dl:List (List Nat)}(h:∀j i,(done.getD j 0).testBit i=true→i∈dl.getD j []):∀(es:List Edge) (m i:Nat),(maskL done es m).testBit i=true→m.testBit i=true∨i∈es.flatMap fun e=>if Region.binds .any e then e.on::(dl.getD e.on []) else []
 | [],m,i,hi=>.inl hi
 | e::es,m,i,hi=>by
  rw[List.flatMap_cons];rcases maskL_spec h es _ i hi with q|q
  ·split at q
   ·rename_i hb
    rw[if_pos hb];rw[Nat.testBit_or,Nat.testBit_or,Bool.or_eq_true,Bool.or_eq_true]at q;rcases q with (q|q)|q
    ·exact .inl q
    ·rw[Nat.one_shiftLeft,Nat.testBit_two_pow]at q;have q:=of_decide_eq_true q
     exact .inr (by rw[q];simp)
    ·exact .inr (List.mem_append_left _ (List.mem_cons_of_mem _ (h _ _ q)))
   ·exact .inl q
  ·exact .inr (List.mem_append_right _ q)
theorem getD_snoc{α:Type}{l:List α}{x d:α}{j:Nat}:(l++[x]).getD j d=if j<l.length then l.getD j d else if j=l.length then x else d:=by
 rw[List.getD_eq_getElem?_getD,List.getD_eq_getElem?_getD];split
 ·rename_i h;rw[List.getElem?_append_left h]
 ·rename_i h
  rw[List.getElem?_append_right (by omega)]
  split
  ·rename_i e;rw[e,Nat.sub_self];rfl
  ·rw[List.getElem?_eq_none (by simp;omega)];rfl
theorem masks_spec:∀(ops:List Oper) (done:List Nat) (dl:List (List Nat)),done.length=dl.length→(∀j i,(done.getD j 0).testBit i=true→i∈dl.getD j [])→∀j i,((masks done ops).getD j 0).testBit i=true→i∈(ancs dl ops).getD j []
 | [],_,_,_,h,j,i,hi=>h j i hi
 | o::ops,done,dl,hl,h,j,i,hi=>by
  refine masks_spec ops _ _ (by simp[hl]) (fun j i hi=>?_) j i hi
  rw[getD_snoc]at hi ⊢
  rw[←hl];split
  ·rename_i hj;rw[if_pos hj]at hi;exact h j i hi
  ·rename_i hj
   rw[if_neg hj]at hi;split
   ·rename_i e
    rw[if_pos e]at hi;rcases maskL_spec h _ _ _ hi with q|q
    ·simp at q
    ·exact q
   ·rename_i e
    rw[if_neg e]at hi;simp at hi
def checkMB(n:Nat)(ops:List Oper)(wr tc stab:List (List Nat)):Bool:=
  let A:=masks [] ops
  (List.range ops.length).all fun j=>match ops[j]? with
    | none=>true
    | some oj=>(oj.after.toList.all fun e=>!Region.binds .any e||Nat.blt e.on j)&&checkR.okNoSel oj&&(match oj.guard with|some (g,_)=>((ops[g]?).bind (·.dst)).isSome|none=>true)&&okDst n oj.dst &&
      ((wr.getD j []).all fun x=>(tc.getD j []).contains x)&&((tc.getD j []).all fun x=>Nat.blt x stab.length) && !dup (tc.getD j []) &&
      (match oj.dst with|some d=>(List.range stab.length).all fun x=>!((stab.getD x []).contains d)||(wr.getD j []).contains x|none=>true) &&
      ((List.range j).all fun i=>match ops[i]? with
        | none=>true
        | some oi=>(apartR ops oi oj && !clash wr tc i j)||(A.getD j 0).testBit i)
theorem checkM_B{n:Nat}{ops:List Oper}{wr tc stab:List (List Nat)}(h:checkMB n ops wr tc stab=true):checkM n ops wr tc stab=true:=by
 have hA:=masks_spec ops [] [] rfl (fun j i hi=>by simp at hi)
 unfold checkMB at h;unfold checkM;rw[List.all_eq_true]at h ⊢
 intro j hj;have h1:=h j hj
 cases ho:ops[j]? with
 | none=>rfl
 | some oj=>
  simp only[ho,Bool.and_eq_true]at h1 ⊢
  refine⟨h1.1,?_⟩
  rw[List.all_eq_true];intro i hi;have h2:=(List.all_eq_true.1 h1.2) i hi
  cases ho2:ops[i]? with
  | none=>rfl
  | some oi=>
   simp only[ho2,Bool.or_eq_true]at h2 ⊢
   refine h2.imp id fun q=>?_
   rw[List.contains_iff_mem];exact hA j i q
end Mk
end
section
open Go Mk
namespace Go.Proofs.YtfoggcgogafocaaGreatDoor
set_option maxHeartbeats 16000000
def iF(i:Int):Val:=⟨1,i,⟨#[]⟩⟩
def wF(s:ByteArray):Val:=⟨2,0,s⟩
def sF(n:Int):Val:=⟨1,IntKind.i64.wrap n,⟨#[]⟩⟩
def machB:ByteArray:=⟨#[109,97,99,104,105,110,101]⟩
def sharesB:ByteArray:=⟨#[115,104,97,114,101,115]⟩
def coreF(c:CoreT):Fact:=(coreB,[iF c.ID,iF c.Width,iF c.Node,iF c.Speed])
def cacheF(c:CacheT):Fact:=(cacheB,[wF c.Name,iF c.Level,sF c.Size,iF c.Line])
def shareF(c:CacheT)(i:Int):Fact:=(sharesB,[wF c.Name,iF i])
def linkF(l:LinkT):Fact:=(linkB,[iF (if l.B<l.A then l.B else l.A),iF (if l.A<l.B then l.B else l.A),iF l.Latency])
def memF(m:MemT):Fact:=(memoryB,[wF m.Name,sF m.Base,sF m.Size,iF m.Node,iF m.Latency])
def devF(d:DevT):Fact:=(deviceB,[wF d.Name,iF d.Node,iF d.IRQ,sF d.Base,sF d.Size])
def cacheFs(c:CacheT):List Fact:=cacheF c::c.Cores.map (shareF c)
def hwB0(H:HwT):List Fact:=[(machB,[wF H.Name])]
def hwB1(H:HwT):List Fact:=hwB0 H++H.Cores.map coreF
def hwB2(H:HwT):List Fact:=hwB1 H++H.Caches.flatMap cacheFs
def hwB3(H:HwT):List Fact:=hwB2 H++H.Links.map linkF
def hwB4(H:HwT):List Fact:=hwB3 H++H.Mems.map memF
def hwFacts(H:HwT):List Fact:=hwB4 H++H.Devs.map devF
theorem fm_take_len{α β:Type}{g:α→List β}{l:List α}(k:Nat):((l.take k).flatMap g).length≤(l.flatMap g).length:=by
 have h:(l.flatMap g).length=((l.take k++l.drop k).flatMap g).length:=by rw[List.take_append_drop]
 rw[List.flatMap_append,List.length_append]at h;omega
attribute [local irreducible] Calls cFact validS
end Go.Proofs.YtfoggcgogafocaaGreatDoor
end
section
open Go Mk
namespace Go.Proofs.YtfoggcgogafocaaGreatDoor
set_option maxHeartbeats 8000000
attribute [local irreducible] Calls
section
variable {P:Program}{n:Nat}{ops:List Oper}{Γ:Gho}{K:List Res}{wr tc stab:List (List Nat)}{Q:Fr→World→Prop}{i:Nat}{rest:List Oper}{ρ:Fr}{M:Nat→Fr→List Res}
theorem mCallD{c f:Nat}{d:Option Tmp}{ty:TypeId}{pos:String}{es:Array Edge}{args:List Operand}{tys:Array TypeId}{vs:List Value}{v:Value}{X X':List Res}[FnOk P f]
  (hcall:∀S w,Wd Γ (X++S) w→Calls P f vs.toArray w fun e w'=>e=.returned v∧Wd Γ (X'++S) w') (h:MSw (mV P n ops Γ K wr tc stab) Q (i+1) rest ⟨putO ρ d v,setC M c fun _=>X'⟩)
  (ht:tc.getD i []=[c]:=by exact rfl) (hM:M c=(fun _=>X):=by first|exact setC_self|exact rfl) (hw0:wr.getD i []=[c]:=by exact rfl) (ha:∀g,EvL (ovr stab.flatten g ρ) args vs:=by intro g;exact byEV) :
  MSw (mV P n ops Γ K wr tc stab) Q i (⟨d,.call { callee:=.value (.func f),args:=args.toArray,argTypes:=tys },ty,pos,es,none⟩::rest) ⟨ρ,M⟩:=by
 refine mM (v:=v) _ (fun Y w g hw=>?_) h hw0 rfl
 rw[cells1 ht,hM]at hw;refine s_call (ha g).eqA ((hcall _ _ hw.swapApp).mono fun e w' ⟨h1,h2⟩=>⟨v,h1,?_,fun _=>rfl⟩)
 rw[cells1 ht,setC_self];exact h2.swapApp
end
def nx(L:List Int)(k:Nat)(n:Int):Int:=((if L=[] then 0 else (L.getD (k%L.length) 0)%1073741824)+7*((k / max L.length 1:Nat):Int))%n
theorem nx_range{L:List Int}{k:Nat}{n:Int}(h:0<n):0≤nx L k n∧nx L k n<n:=⟨Int.emod_nonneg _ (by omega),Int.emod_lt_of_pos _ h⟩
instance:PosL 1073741824:=⟨by decide⟩
def drwB(bs:Nat)(a:Option Addr)(m c k:Nat):Res:=.blk bs (.cells #[.slice a m c,.int .i64 k] 70)
theorem Next_any{Γ:Gho}{S:List Res}{w:World}{bs:Nat}{a:Option Addr}{m c k:Nat}{L:List Int}{n:Int}(hn0:0<n)(hk:k≤1000000)(hr:RepS Γ (.slice a m c) 1 (intRows L))(hw:Wd Γ (drwB bs a m c k::S) w) :
  Calls Tryz.prog 26 #[.pointer (some ⟨bs,0,none⟩),.int .i64 n] w fun e w'=>e=.returned (.int .i64 (nx L k n))∧Wd Γ (drwB bs a m c (k+1)::S) w':=by
 obtain⟨hn,hnc,hc⟩:=rep_facts hr
 simp only[intRows,List.length_map]at hn
 unfold drwB at hw;refine calls_of_W Tryz.func26 rfl rfl ?_
 iterate 8 (first|refine byW ?_|(refine byV ?_;intro w hw))
 obtain⟨v0,hv0⟩:∃v0:Int,v0=(if L=[] then 0 else (L.getD (k%L.length) 0)%1073741824):=⟨_,rfl⟩
 have hvb:0≤v0∧v0<1073741824:=by
  rw[hv0];split
  ·omega
  ·exact⟨Int.emod_nonneg _ (by omega),Int.emod_lt_of_pos _ (by omega)⟩
 refine W_cut (fun ρ w=>Has ρ [(0,.pointer (some ⟨bs,0,none⟩)),(1,.int .i64 n),(5,.int .i64 v0)]∧Wd Γ (.blk bs (.cells #[.slice a m c,.int .i64 k] 70)::S) w) ?_ ?_
 ·refine byG ?_;refine W_cond rfl (fun h=>?_) (fun h=>?_)
  ·have hm:0<m:=by simp at h;omega
   have hkm:(k:Int).tmod m=((k%m:Nat):Int):=by rw[Int.tmod_eq_emod_of_nonneg (by omega)];exact(Int.natCast_emod k m).symm
   have hlt:k%m<m:=Nat.mod_lt _ hm
   obtain⟨x,hx⟩:=get_lt (l:=L) (k:=k%m) (by omega)
   have hx':L[((k%m:Nat):Int).toNat]? = some x:=hx
   have hvx:v0=x%1073741824:=by
    rw[hv0,if_neg (fun e=>by rw[e]at hn;simp at hn;omega),←hn,List.getD_eq_getElem?_getD,hx];rfl
   refine byG ?_;refine W_quiet (by kernel_rfl) (by kernel_rfl) hw ?_
   iterate 13 (first|refine Q_nil ?_|(apply Q_plain;first|(apply Q_go;first|refine qP ?_|refine qPg ?_)|refine qY ?_)|(apply Q_guarded;first|(apply Q_go;first|refine qPG ?_|refine qPgG ?_)|refine qG ?_))
   refine qY (v:=.int .i64 ((k%m:Nat):Int)) ?_ (hy:=fun w hw=>by
    rw[←hkm];exact y_rem rfl rfl (by omega))
   refine byQ ?_;clear hw;intro w hw;refine byG ?_;exact⟨⟨rfl,rfl,by rw[hvx];rfl,trivial⟩,hw⟩
  ·have hm:m=0:=by simp at h;omega
   have hL:L=[]:=List.eq_nil_of_length_eq_zero (by omega)
   refine byG ?_;exact⟨⟨rfl,rfl,by rw[hv0,if_pos hL];rfl,trivial⟩,hw⟩
 ·rintro ρ w ⟨hρ,hw⟩
  rw[hρ.eq];clear hρ;have hlen:max L.length 1=max m 1:=by rw[hn]
  have hnx:nx L k n=(v0+7*((k / max m 1:Nat):Int))%n:=by unfold nx;rw[←hv0,hlen]
  rw[hnx];clear hnx hlen;have hM:(if (m:Int)<1 then 1 else (m:Int))=((max m 1:Nat):Int):=by
   split <;> omega
  have hMp:0<max m 1:=by omega
  have hq1:(k:Int).tdiv ((max m 1:Nat):Int)=((k / max m 1:Nat):Int):=by rw[Int.tdiv_eq_ediv_of_nonneg (by omega)];rfl
  have hqk:k / max m 1≤k:=Nat.div_le_self _ _
  generalize k / max m 1=q at *
  generalize max m 1=M at *
  have hw1:IntKind.i64.wrap ((q:Nat):Int)=((q:Nat):Int):=wrap_i64 (by omega) (by omega)
  refine W_seq ?_
  refine W_quiet (by kernel_rfl) (by kernel_rfl) hw ?_
  iterate 10 (first|refine Q_nil ?_|(apply Q_plain;first|(apply Q_go;first|refine qP ?_|refine qPg ?_)|refine qY ?_)|(apply Q_guarded;first|(apply Q_go;first|refine qPG ?_|refine qPgG ?_)|refine qG ?_))
  refine qY (v:=.int .i64 ((M:Nat):Int)) ?_ (hy:=fun w hw=>by rw[←hM];exact y_max2 rfl rfl)
  refine qY (v:=.int .i64 ((q:Nat):Int)) ?_ (hy:=fun w hw=>by
   rw[←hw1,←hq1];exact y_quo rfl rfl (by omega))
  refine byQ ?_;clear hw;intro w hw;refine byG ?_;refine lStore ?_;intro w hw;have hw:Wd Γ (drwB bs a m c (k+1)::S) w:=hw
  refine byG ?_;refine⟨_,rfl,ret_i rfl ?_,hw⟩
  rw[Int.tmod_eq_emod_of_nonneg (by omega)]
def bub{α:Type}(lt:α→α→Bool):Nat→List α→List α
 | 0,l=>l
 | k+1,l=>match l[k+1]?,l[k]? with
  | some x,some y=>if lt x y=true then bub lt k ((l.set (k+1) y).set k x) else l
  | _,_=>l
def bsFrom{α:Type}(lt:α→α→Bool):Nat→Nat→List α→List α
 | 0,_,l=>l
 | f+1,i,l=>bsFrom lt f (i+1) (bub lt i l)
def bsort{α:Type}(lt:α→α→Bool)(l:List α):List α:=bsFrom lt (l.length-1) 1 l
theorem bub_step{α:Type}{lt:α→α→Bool}{k:Nat}{l:List α}{x y:α}(hx:l[k+1]? = some x)(hy:l[k]? = some y)(h:lt x y=true):bub lt (k+1) l=bub lt k ((l.set (k+1) y).set k x):=by
 unfold bub;rw[hx,hy];simp only[if_pos h];cases k <;> rfl
theorem bub_stop{α:Type}{lt:α→α→Bool}{k:Nat}{l:List α}{x y:α}(hx:l[k+1]? = some x)(hy:l[k]? = some y)(h:¬lt x y=true):bub lt (k+1) l=l:=by
 unfold bub;rw[hx,hy];simp only[if_neg h]
theorem bub_len{α:Type}{lt:α→α→Bool}:∀(k:Nat) (l:List α),(bub lt k l).length=l.length
 | 0,l=>rfl
 | k+1,l=>by
  unfold bub;split
  ·split
   ·rw[bub_len k];simp
   ·rfl
  ·rfl
theorem bsFrom_len{α:Type}{lt:α→α→Bool}:∀(f i:Nat) (l:List α),(bsFrom lt f i l).length=l.length
 | 0,_,_=>rfl
 | f+1,i,l=>by show (bsFrom lt f (i+1) (bub lt i l)).length=_;rw[bsFrom_len f,bub_len]
theorem bsort_len{α:Type}{lt:α→α→Bool}(l:List α):(bsort lt l).length=l.length:=bsFrom_len _ _ _
def ltI(a b:Int):Bool:=decide (a<b)
theorem ints_one(xs:List Int):(intRows xs).flatten.all (·.oneCell')=true:=by
 unfold intRows;induction xs with
 | nil=>rfl
 | cons x l ih=>simp only[List.map_cons,List.flatten_cons,List.all_append,ih];rfl
theorem set_rows{xs:List Int}{k:Nat}{x:Int}:(intRows xs).set k [.int .i64 x]=intRows (xs.set k x):=by unfold intRows;rw[List.map_set]
theorem SortInts_any{Γ : Gho}{S : List Res}{w : World}{v : Value}{xs : List Int}(hr : RdS Γ S v 1 (intRows xs))(hl : xs.length ≤ 1000000)(hw : Wd Γ S w) :
    Calls Tryz.prog 27 #[v] w fun e w'=>∃v',e=.returned v'∧Wd Γ (.own v' 3 1 (intRows (bsort ltI xs))::S) w':=by
  obtain⟨a,n,c,rfl,hn,hnc,hc⟩:=hr.shape;simp only[intRows,List.length_map]at hn
  refine calls_of_W Tryz.func27 rfl rfl ?_
  refine byG ?_;have hw:Wd Γ (.own (.slice none 0 0) 3 1 []::S) w:=Wd.addNil hw
  refine lApp (i:=0) (rows2:=intRows xs) ?_ (hr.cons.rd hw) (h1:=ints_one xs) (hm:=by simp[intRows];exact hn)
  intro v' w hw;obtain⟨q,m,d,rfl,hm,-,-⟩:=hw.own_shape (i:=0) rfl
  simp[intRows]at hm
  have hw:Wd Γ (.own (.slice q m d) 3 1 (intRows xs)::S) w:=hw
  refine byG ?_;refine W_loop (fun μ ρ w=>∃(i:Nat) (Y:List Int),1≤i∧(m≤i+μ)∧Y.length=m∧bsort ltI xs=bsFrom ltI (m-i) i Y∧Has ρ [(3,.slice q m d),(4,.int .i64 i)]∧Wd Γ (.own (.slice q m d) 3 1 (intRows Y)::S) w) m ⟨1,xs,by omega,by omega,hm.symm,by unfold bsort;rw[←hm],⟨rfl,rfl,trivial⟩,hw⟩ ?_
  clear hw;rintro μ ρ w ⟨i,Y,hi,hμ,hY,hB,hρ,hw⟩
  rw[hρ.eq];refine byG ?_;refine W_cond rfl (fun h=>?_) (fun h=>?_)
  · have him:i<m:=by simpa using h
    have hB2:bsort ltI xs=bsFrom ltI (m-(i+1)) (i+1) (bub ltI i Y):=by
      rw[hB,show m-i=(m-(i+1))+1 by omega];rfl
    refine byG ?_;refine W_loop (fun μ2 ρ w=>∃(k:Nat) (Z:List Int),μ2=k∧k≤i∧Z.length=m∧bub ltI i Y=bub ltI k Z∧Has ρ [(3,.slice q m d),(4,.int .i64 i),(5,.int .i64 k)]∧Wd Γ (.own (.slice q m d) 3 1 (intRows Z)::S) w) i ⟨i,Y,rfl,Nat.le_refl _,hY,rfl,⟨rfl,rfl,rfl,trivial⟩,hw⟩ ?_
    clear hw;rintro μ2 ρ w ⟨k,Z,rfl,hk,hZ,hC,hρ,hw⟩
    rw[hρ.eq];refine W_seq ?_
    refine W_seq ?_
    have hnr:m=(intRows Z).length:=by simp[intRows];omega
    cases μ2 with
    | zero=>
      refine W_quiet (by kernel_rfl) (by kernel_rfl) hw ?_
      iterate 3 (first|refine Q_nil ?_|(apply Q_plain;first|(apply Q_go;first|refine qP ?_|refine qPg ?_)|refine qY ?_)|(apply Q_guarded;first|(apply Q_go;first|refine qPG ?_|refine qPgG ?_)|refine qG ?_))
      iterate 10 (refine qGF ?_ rfl)
      refine qY (v:=.bool false) ?_ (hy:=fun w hw=>y_pickF rfl rfl)
      refine Q_nil ?_
      clear hw;intro w hw;refine W_cond rfl (fun h=>by cases h) (fun _=>?_)
      refine byG ?_;exact⟨μ-1,by omega,i+1,Z,by omega,by omega,hZ,by rw[hB2,hC];rfl,⟨rfl,rfl,trivial⟩,hw⟩
    | succ k=>
      obtain⟨x,hx⟩:=get_lt (l:=Z) (k:=k+1) (by omega)
      obtain⟨y,hy⟩:=get_lt (l:=Z) (k:=k) (by omega)
      have e1:(((k+1:Nat):Int)-1)=(k:Int):=by omega
      have hx':Z[((k+1:Nat):Int).toNat]? = some x:=hx
      have hy':Z[(((k+1:Nat):Int)-1).toNat]? = some y:=by rw[e1];exact hy
      refine W_quiet (by kernel_rfl) (by kernel_rfl) hw ?_
      iterate 1 (first|refine Q_nil ?_|(apply Q_plain;first|(apply Q_go;first|refine qP ?_|refine qPg ?_)|refine qY ?_)|(apply Q_guarded;first|(apply Q_go;first|refine qPG ?_|refine qPgG ?_)|refine qG ?_))
      refine qT (b:=decide ((0:Int)<((k+1:Nat):Int))) (decide_eq_true (by omega)) ?_
      refine byQ ?_;clear hw;intro w hw;refine W_cond rfl (fun h2=>?_) (fun h2=>?_)
      · have h2:ltI x y=true:=by simpa[ltI] using h2
        rw[bub_step hx hy h2]at hC;refine byG ?_;refine lStoreE (k:=k+1) (i:=0) ?_
        intro w hw;have hw:Wd Γ (.own (.slice q m d) 3 1 ((intRows Z).set (k+1) [.int .i64 y])::S) w:=hw
        rw[set_rows]at hw;have hnr:m=(intRows (Z.set (k+1) y)).length:=by simp[intRows];omega
        refine byG ?_;refine lStoreE (k:=k) (i:=0) ?_ (hx:=by show Value.pointer _=_;rw[show (((k+1:Nat):Int)-1).toNat=k by omega])
        intro w hw;have hw:Wd Γ (.own (.slice q m d) 3 1 ((intRows (Z.set (k+1) y)).set k [.int .i64 x])::S) w:=hw
        rw[set_rows]at hw;refine byG ?_;exact⟨k,by omega,k,_,rfl,by omega,by simp;omega,hC,⟨rfl,rfl,by show Value.int .i64 (((k+1:Nat):Int)-1)=_;rw[e1],trivial⟩,hw⟩
      · have h2 : ¬ ltI x y = true := by have : ltI x y = false := by simpa [ltI] using h2
                                         rw[this];simp
        rw[bub_stop hx hy h2]at hC;refine byG ?_;exact⟨μ-1,by omega,i+1,Z,by omega,by omega,hZ,by rw[hB2,hC],⟨rfl,rfl,trivial⟩,hw⟩
  · have him:¬i<m:=by simpa using h
    refine byG ?_;refine⟨_,rfl,_,rfl,?_⟩
    rw[hB,show m-i=0 by omega];exact hw
theorem IDs_any{Γ:Gho}{S:List Res}{w:World}{xs:List CoreT}{nm:ByteArray}{v1 v2 v3 v4 v5:Value}(hr:RdS Γ S v1 4 (xs.map enc))(hl:xs.length≤1000000)(hw:Wd Γ S w) :
  Calls Tryz.prog 28 #[.agg #[.string nm,v1,v2,v3,v4,v5]] w fun e w'=>∃v',e=.returned v'∧Wd Γ (.own v' 3 1 (intRows (xs.map (·.ID)))::S) w':=by
 obtain⟨a,n,c,rfl,hn,hnc,hc⟩:=hr.shape;have hnr:=hn
 simp only[List.length_map]at hn
 refine calls_of_W Tryz.func28 rfl rfl ?_
 refine byG ?_;refine lBox ?_;intro b1 w hw;have hw:Wd Γ (.blk b1 (.cells #[.string nm,.slice a n c,v2,v3,v4,v5] 30)::S) w:=hw
 have hw:Wd Γ (.own (.slice none 0 0) 3 1 (intRows ((xs.take 0).map (·.ID)))::.blk b1 (.cells #[.string nm,.slice a n c,v2,v3,v4,v5] 30)::S) w:=Wd.addNil hw
 refine byG ?_;refine W_loop (fun μ ρ w=>∃(k:Nat) (q:Option Addr) (m d:Nat),μ+k=n∧Has ρ [(1,.pointer (some ⟨b1,0,none⟩)),(3,.slice q m d),(4,.int .i64 k)]∧Wd Γ (.own (.slice q m d) 3 1 (intRows ((xs.take k).map (·.ID)))::.blk b1 (.cells #[.string nm,.slice a n c,v2,v3,v4,v5] 30)::S) w) n ⟨0,none,0,0,by omega,⟨rfl,rfl,rfl,trivial⟩,hw⟩ ?_
 clear hw;rintro μ ρ w ⟨k,q,m,d,hk,hρ,hw⟩
 have hm:=own_len (i:=0) hw rfl
 simp only[intRows,List.length_map,List.length_take]at hm
 have hr1:RdS Γ (.own (.slice q m d) 3 1 (intRows ((xs.take k).map (·.ID)))::.blk b1 (.cells #[.string nm,.slice a n c,v2,v3,v4,v5] 30)::S) (.slice a n c) 4 (xs.map enc):=hr.cons.cons
 rw[hρ.eq];refine byG ?_;refine W_cond rfl (fun h=>?_) (fun h=>?_)
 ·have hkn:k<n:=by simpa using h
  obtain⟨x,hx⟩:=get_lt (l:=xs) (k:=k) (by omega)
  refine byG ?_;refine lBuildSlice [[.int .i64 x.ID]] ?_
  intro ab w hw;refine lApp (i:=1) (rows2:=[[.int .i64 x.ID]]) ?_ (Wd.own_rd (i:=0) hw rfl)
  intro v' w hw;obtain⟨q',m',d',rfl,-,-,-⟩:=hw.own_shape (i:=1) rfl
  have hw:Wd Γ (.own (.slice q' m' d') 3 1 (intRows ((xs.take (k+1)).map (·.ID)))::.blk b1 (.cells #[.string nm,.slice a n c,v2,v3,v4,v5] 30)::S) w:=by
   rw[←rows_snocI (f:=fun c:CoreT=>c.ID) hx];exact hw.drop
  refine byG ?_;exact⟨μ-1,by omega,k+1,_,_,_,by omega,⟨rfl,rfl,rfl,trivial⟩,hw⟩
 ·have hkn:¬k<n:=by simpa using h
  rw[List.take_of_length_le (by omega)]at hw
  refine byG ?_;exact⟨_,rfl,_,rfl,hw.dropAt 1⟩
def nodeG(sh:Int)(j:Int):Int:=(5*j+sh)%64
def IsNodeG(nodes sh n:Int):Prop:=∃j:Int,0≤j∧j<nodes∧n=nodeG sh j
def CoresG(nodes sh first:Int)(l:List CoreT):Prop:=∀(i:Nat) (x:CoreT),l[i]? = some x→x.ID=(3*i+first)%32∧(x.Width=32∨x.Width=39)∧IsNodeG nodes sh x.Node∧1≤x.Speed∧x.Speed≤4
def LinkIs(sh:Int)(l:LinkT)(p:Nat×Nat):Prop:=(l.A=nodeG sh p.1∧l.B=nodeG sh p.2∨l.A=nodeG sh p.2∧l.B=nodeG sh p.1)∧1≤l.Latency∧l.Latency≤9
def LinksG(sh:Int)(k:Nat)(l:List LinkT):Prop:=l.length≤2*k∧∃P:List (Nat×Nat),P.length=l.length∧P.Nodup∧(∀p∈P,p.2<p.1∧p.1<k)∧(∀(i:Nat) (x:LinkT) (p:Nat×Nat),l[i]? = some x→P[i]? = some p→LinkIs sh x p)∧∀i,1≤i→i<k→∃j,(i,j)∈P
def ramN(i:Nat):ByteArray:=⟨#[114,97,109,UInt8.ofNat (48+i)]⟩
def devN(i:Nat):ByteArray:=⟨#[100,101,118,UInt8.ofNat (48+i)]⟩
def pairN(i:Nat):ByteArray:=⟨#[112,97,105,114,UInt8.ofNat (48+i)]⟩
def ownN(i:Nat):ByteArray:=⟨#[111,119,110,UInt8.ofNat (48+i)]⟩
def MemsG(nodes sh:Int)(l:List MemT):Prop:=∀(i:Nat) (x:MemT),l[i]? = some x→x.Name=ramN i∧x.Base=(5-i)*16777216∧(∃e:Nat,12≤e∧e≤19∧x.Size=2 ^ e)∧IsNodeG nodes sh x.Node∧1≤x.Latency∧x.Latency≤9
def DevsG(nodes sh irq:Int)(l:List DevT):Prop:=∀(i:Nat) (x:DevT),l[i]? = some x→x.Name=devN i∧IsNodeG nodes sh x.Node∧x.IRQ=(7*i+irq)%256∧x.Base=4294967296+i*65536∧(∃t:Int,1≤t∧t≤3∧x.Size=4096*t)
def allB:ByteArray:=⟨#[97,108,108]⟩
def cacheG(ids:List Int)(p:Nat×Nat):CacheT:=
 if p.1=3 then ⟨allB,3,64,1048576,ids⟩ else if p.1=2 then ⟨pairN p.2,2,64,65536,(ids.drop (2*p.2)).take 2⟩ else ⟨ownN p.2,1,32,4096,(ids.drop (2*p.2)).take 1⟩
def TagsG(ids:List Int)(k:Nat)(T:List (Nat×Nat)):Prop:=T.Nodup∧T.length≤1+2*k∧∀p∈T,p=(3,0)∨((p.1=2∨p.1=1)∧p.2<k∧2*p.2<ids.length)
def CachesG(ids:List Int)(l:List CacheT):Prop:=∃k T,TagsG ids k T∧k≤4∧l=T.map (cacheG ids)
structure Gen(H:HwT)(nodes sh first irq:Int):Prop where
 nd:1≤nodes∧nodes≤6
 sr:0≤sh∧sh<64
 fi:0≤first∧first<32
 iq:0≤irq∧irq<256
 nm:H.Name=⟨#[109]⟩
 nc:1≤H.Cores.length∧H.Cores.length≤8
 co:CoresG nodes sh first H.Cores
 li:LinksG sh nodes.toNat H.Links
 nm':H.Mems.length≤4
 me:MemsG nodes sh H.Mems
 nd':H.Devs.length≤4
 de:DevsG nodes sh irq H.Devs
 ca:CachesG (bsort ltI (H.Cores.map (·.ID))) H.Caches
theorem get_snoc{α:Type}{l:List α}{y x:α}{i:Nat}(h:(l++[y])[i]? = some x):l[i]? = some x∨(i=l.length∧x=y):=by
 rw[List.getElem?_append]at h;split at h
 ·exact .inl h
 ·rename_i h2
  rcases Nat.eq_or_lt_of_le (Nat.not_lt.1 h2) with e|e
  ·subst e;simp at h;exact .inr ⟨rfl,h.symm⟩
  ·rw[List.getElem?_eq_none (by simp;omega)]at h;cases h
theorem CoresG.snoc{nodes sh first:Int}{l:List CoreT}{x:CoreT}(h:CoresG nodes sh first l)(hx:x.ID=(3*l.length+first)%32∧(x.Width=32∨x.Width=39)∧IsNodeG nodes sh x.Node∧1≤x.Speed∧x.Speed≤4):CoresG nodes sh first (l++[x]):=fun i y hy=>by
 rcases get_snoc hy with h1|⟨rfl,rfl⟩
 ·exact h i y h1
 ·exact hx
theorem MemsG.snoc{nodes sh:Int}{l:List MemT}{x:MemT}(h:MemsG nodes sh l)(hx:x.Name=ramN l.length∧x.Base=(5-l.length)*16777216∧(∃e:Nat,12≤e∧e≤19∧x.Size=2 ^ e)∧IsNodeG nodes sh x.Node∧1≤x.Latency∧x.Latency≤9):MemsG nodes sh (l++[x]):=fun i y hy=>by
 rcases get_snoc hy with h1|⟨rfl,rfl⟩
 ·exact h i y h1
 ·exact hx
theorem DevsG.snoc{nodes sh irq:Int}{l:List DevT}{x:DevT}(h:DevsG nodes sh irq l)(hx:x.Name=devN l.length∧IsNodeG nodes sh x.Node∧x.IRQ=(7*l.length+irq)%256∧x.Base=4294967296+l.length*65536∧(∃t:Int,1≤t∧t≤3∧x.Size=4096*t)):DevsG nodes sh irq (l++[x]):=fun i y hy=>by
 rcases get_snoc hy with h1|⟨rfl,rfl⟩
 ·exact h i y h1
 ·exact hx
theorem LinksG.start{sh:Int}:LinksG sh 1 []:=⟨by simp,[],rfl,List.nodup_nil,by simp,by simp,fun i h1 h2=>by omega⟩
theorem LinksG.one{sh:Int}{k up:Nat}{l:List LinkT}{x:LinkT}(h:LinksG sh k l)(hup:up<k)(hx:LinkIs sh x (k,up)):LinksG sh (k+1) (l++[x]):=by
 obtain⟨h1,P,h2,h3,h4,h5,h6⟩:=h;refine⟨by simp;omega,P++[(k,up)],by simp[h2],nodup_snoc.2 ⟨h3,fun hm=>by have:=h4 _ hm;simp at this⟩,fun p hp=>?_,fun i y p hy hp=>?_,fun i hi hk=>?_⟩
 ·rcases List.mem_append.1 hp with hp|hp
  ·have:=h4 p hp;omega
  ·cases List.mem_singleton.1 hp;dsimp;omega
 ·rcases get_snoc hy with a|⟨a,rfl⟩
  ·rcases get_snoc hp with b|⟨b,rfl⟩
   ·exact h5 i y p a b
   ·have:=(List.getElem?_eq_some_iff.1 a).1;omega
  ·subst a;rw[←h2]at hp;simp at hp;subst hp;exact hx
 ·by_cases e:i=k
  ·subst e;exact⟨up,by simp⟩
  ·obtain⟨j,hj⟩:=h6 i hi (by omega);exact⟨j,List.mem_append_left _ hj⟩
theorem LinksG.two{sh:Int}{k up mo:Nat}{l:List LinkT}{x y:LinkT}(h:LinksG sh k l)(hk1:1≤k)(hup:up<k)(hmo:mo<k)(hne:mo≠up)(hx:LinkIs sh x (k,up))(hy:LinkIs sh y (k,mo)):LinksG sh (k+1) (l++[x]++[y]):=by
 obtain⟨h1,P,h2,h3,h4,h5,h6⟩:=h;have hfresh:∀j,(k,j)∉P:=fun j hm=>by have:=h4 _ hm;simp at this
 refine⟨by simp;omega,P++[(k,up)]++[(k,mo)],by simp[h2],nodup_snoc.2 ⟨nodup_snoc.2 ⟨h3,hfresh up⟩,fun hm=>?_⟩,fun p hp=>?_,fun i z p hz hp=>?_,fun i hi hk=>?_⟩
 ·rcases List.mem_append.1 hm with hm|hm
  ·exact hfresh mo hm
  ·simp at hm;exact hne hm
 ·rcases List.mem_append.1 hp with hp|hp
  ·rcases List.mem_append.1 hp with hp|hp
   ·have:=h4 p hp;omega
   ·cases List.mem_singleton.1 hp;dsimp;omega
  ·cases List.mem_singleton.1 hp;dsimp;omega
 ·rcases get_snoc hz with a|⟨a,rfl⟩
  ·have ha:=(List.getElem?_eq_some_iff.1 a).1
   simp at ha
   rcases get_snoc hp with b|⟨b,rfl⟩
   ·rcases get_snoc a with a2|⟨a2,rfl⟩
    ·rcases get_snoc b with b2|⟨b2,rfl⟩
     ·exact h5 i z p a2 b2
     ·have:=(List.getElem?_eq_some_iff.1 a2).1;omega
    ·subst a2;rw[←h2]at b;simp at b;subst b;exact hx
   ·simp at b;omega
  ·simp at a;subst a
   rw[←h2]at hp;simp[List.getElem?_append]at hp;subst hp;exact hy
 ·by_cases e:i=k
  ·subst e;exact⟨up,by simp⟩
  ·obtain⟨j,hj⟩:=h6 i hi (by omega);exact⟨j,List.mem_append_left _ (List.mem_append_left _ hj)⟩
theorem TagsG.start{ids:List Int}:TagsG ids 0 []:=⟨List.nodup_nil,by simp,by simp⟩
theorem TagsG.all{ids:List Int}:TagsG ids 0 [(3,0)]:=⟨by simp,by simp,by simp⟩
theorem TagsG.step{ids:List Int}{k:Nat}{T:List (Nat×Nat)}(h:TagsG ids k T)(hk:2*k<ids.length)(b1 b2:Bool):TagsG ids (k+1) (T++(if b1=true then [(2,k)] else [])++(if b2=true then [(1,k)] else [])):=by
 obtain⟨h1,h2,h3⟩:=h;have hfr:∀t,t≠3→(t,k)∉T:=fun t ht hm=>by
  rcases h3 _ hm with h|h
  ·injection h with h4 _;exact ht h4
  ·have:=h.2.1;dsimp at this;omega
 have hold:∀p∈T,p=(3,0)∨((p.1=2∨p.1=1)∧p.2<k+1∧2*p.2<ids.length):=fun p hp=>by
  rcases h3 p hp with h|⟨a,b,c⟩
  ·exact .inl h
  ·exact .inr ⟨a,by omega,c⟩
 cases b1 <;> cases b2 <;> simp only[if_true,if_false,List.append_nil,Bool.false_eq_true]
 ·exact⟨h1,by omega,hold⟩
 ·refine⟨nodup_snoc.2 ⟨h1,hfr 1 (by decide)⟩,by simp;omega,fun p hp=>?_⟩
  rcases List.mem_append.1 hp with hp|hp
  ·exact hold p hp
  ·cases List.mem_singleton.1 hp;exact .inr ⟨.inr rfl,by dsimp;omega,by dsimp;omega⟩
 ·refine⟨nodup_snoc.2 ⟨h1,hfr 2 (by decide)⟩,by simp;omega,fun p hp=>?_⟩
  rcases List.mem_append.1 hp with hp|hp
  ·exact hold p hp
  ·cases List.mem_singleton.1 hp;exact .inr ⟨.inl rfl,by dsimp;omega,by dsimp;omega⟩
 ·refine⟨nodup_snoc.2 ⟨nodup_snoc.2 ⟨h1,hfr 2 (by decide)⟩,fun hm=>?_⟩,by simp;omega,fun p hp=>?_⟩
  ·rcases List.mem_append.1 hm with hm|hm
   ·exact hfr 1 (by decide) hm
   ·simp at hm
  ·rcases List.mem_append.1 hp with hp|hp
   ·rcases List.mem_append.1 hp with hp|hp
    ·exact hold p hp
    ·cases List.mem_singleton.1 hp;exact .inr ⟨.inl rfl,by dsimp;omega,by dsimp;omega⟩
   ·cases List.mem_singleton.1 hp;exact .inr ⟨.inr rfl,by dsimp;omega,by dsimp;omega⟩
set_option maxHeartbeats 4000000
theorem swap_perm{α:Type}{l:List α}{k:Nat}{x y:α}(hx:l[k+1]? = some x)(hy:l[k]? = some y):((l.set (k+1) y).set k x).Perm l:=by
 induction l generalizing k with
 | nil=>simp at hx
 | cons a l ih=>
  cases k with
  | zero=>
   cases l with
   | nil=>simp at hx
   | cons b l=>
    simp at hx hy
    subst hx hy;exact List.Perm.swap _ _ _
  | succ k=>
   simp only[List.getElem?_cons_succ]at hx hy
   simp only[List.set_cons_succ]
   exact List.Perm.cons _ (ih hx hy)
theorem bub_perm{α:Type}{lt:α→α→Bool}:∀(k:Nat) (l:List α),(bub lt k l).Perm l
 | 0,l=>List.Perm.refl _
 | k+1,l=>by
  unfold bub;split
  ·rename_i x y hx hy
   split
   ·exact(bub_perm k _).trans (swap_perm hx hy)
   ·exact List.Perm.refl _
  ·exact List.Perm.refl _
theorem bsFrom_perm{α:Type}{lt:α→α→Bool}:∀(f i:Nat) (l:List α),(bsFrom lt f i l).Perm l
 | 0,_,l=>List.Perm.refl _
 | f+1,i,l=>(bsFrom_perm f (i+1) _).trans (bub_perm i l)
theorem bsort_perm{α:Type}{lt:α→α→Bool}(l:List α):(bsort lt l).Perm l:=bsFrom_perm _ _ _
def leAt{α:Type}(le:α→α→Prop)(l:List α)(p q:Nat):Prop:=∀x y,l[p]? = some x→l[q]? = some y→le x y
structure LeLt{α:Type}(le:α→α→Prop)(lt:α→α→Bool):Prop where
 t:∀ {x y},lt x y=true→le x y
 f:∀ {x y},lt x y=false→le y x
 tr:∀ {x y z},le x y→le y z→le x z
theorem bub_sorted{α:Type}{le:α→α→Prop}{lt:α→α→Bool}(hl:LeLt le lt):∀(k i:Nat) (l:List α),k≤i→i<l.length→(∀p q,p<q→q≤i→p≠k→q≠k→leAt le l p q)→(∀q,k<q→q≤i→leAt le l k q)→∀p q,p<q→q≤i→leAt le (bub lt k l) p q
 | 0,i,l,hk,hi,h1,h2,p,q,hpq,hq=>by
  show leAt le l p q
  by_cases e:p=0
  ·subst e;exact h2 q hpq hq
  ·exact h1 p q hpq hq e (by omega)
 | k+1,i,l,hk,hi,h1,h2,p,q,hpq,hq=>by
  obtain⟨x,hx⟩:=get_lt (l:=l) (k:=k+1) (by omega)
  obtain⟨y,hy⟩:=get_lt (l:=l) (k:=k) (by omega)
  by_cases hlt:lt x y=true
  ·rw[bub_step hx hy hlt];have g0:∀r,r≠k→r≠k+1→((l.set (k+1) y).set k x)[r]? = l[r]?:=fun r a b=>by
    rw[List.getElem?_set_ne (by omega),List.getElem?_set_ne (by omega)]
   have g1:((l.set (k+1) y).set k x)[k]? = some x:=by rw[List.getElem?_set_self (by simp;omega)]
   have g2:((l.set (k+1) y).set k x)[k+1]? = some y:=by rw[List.getElem?_set_ne (by omega),List.getElem?_set_self (by omega)]
   refine bub_sorted hl k i _ (by omega) (by simp;omega) (fun p q hpq hq hp1 hq1=>?_) (fun q hkq hq=>?_) p q hpq hq
   ·intro u v hu hv;by_cases e1:q=k+1
    ·subst e1;rw[g2]at hv;cases hv
     rw[g0 p hp1 (by omega)]at hu
     exact h1 p k (by omega) (by omega) (by omega) (by omega) u y hu hy
    ·rw[g0 q hq1 e1]at hv;by_cases e2:p=k+1
     ·subst e2;rw[g2]at hu;cases hu
      exact h1 k q (by omega) hq (by omega) e1 y v hy hv
     ·rw[g0 p hp1 e2]at hu;exact h1 p q hpq hq e2 e1 u v hu hv
   ·intro u v hu hv;rw[g1]at hu;cases hu
    by_cases e1:q=k+1
    ·subst e1;rw[g2]at hv;cases hv;exact hl.t hlt
    ·rw[g0 q (by omega) e1]at hv
     exact h2 q (by omega) hq x v hx hv
  ·rw[bub_stop hx hy hlt];have hge:le y x:=hl.f (by simpa using hlt)
   by_cases e1:p=k+1
   ·subst e1;exact h2 q hpq hq
   ·by_cases e2:q=k+1
    ·subst e2;intro u v hu hv;rw[hx]at hv;cases hv
     by_cases e3:p=k
     ·subst e3;rw[hy]at hu;cases hu;exact hge
     ·exact hl.tr (h1 p k (by omega) (by omega) e1 (by omega) u y hu hy) hge
    ·exact h1 p q hpq hq e1 e2
theorem bsFrom_sorted{α:Type}{le:α→α→Prop}{lt:α→α→Bool}(hl:LeLt le lt):∀(f i:Nat) (l:List α),l.length≤i+f→(∀p q,p<q→q<i→leAt le l p q)→∀p q,p<q→leAt le (bsFrom lt f i l) p q
 | 0,i,l,hf,h,p,q,hpq=>by
  intro u v hu hv;have:q<l.length:=(List.getElem?_eq_some_iff.1 hv).1
  exact h p q hpq (by omega) u v hu hv
 | f+1,i,l,hf,h,p,q,hpq=>by
  by_cases hi:i<l.length
  ·refine bsFrom_sorted hl f (i+1) (bub lt i l) (by rw[bub_len];omega) (fun p q hpq hq=>?_) p q hpq
   exact bub_sorted hl i i l (Nat.le_refl _) hi (fun p q a b c d=>h p q a (by omega)) (fun q a b=>by omega) p q hpq (by omega)
  ·refine bsFrom_sorted hl f (i+1) (bub lt i l) (by rw[bub_len];omega) (fun p q hpq hq=>?_) p q hpq
   have hb:bub lt i l=l:=by
    cases i with
    | zero=>rfl
    | succ i=>unfold bub;rw[List.getElem?_eq_none (by omega)]
   rw[hb];intro u v hu hv;have:q<l.length:=(List.getElem?_eq_some_iff.1 hv).1
   exact h p q hpq (by omega) u v hu hv
theorem bsort_sorted{α:Type}{le:α→α→Prop}{lt:α→α→Bool}(hl:LeLt le lt)(l:List α){p q:Nat}(hpq:p<q):leAt le (bsort lt l) p q:=
 bsFrom_sorted hl _ 1 l (by omega) (fun p q a b=>by omega) p q hpq
theorem leLtI:LeLt (fun a b:Int=>a≤b) ltI:=⟨fun h=>by unfold ltI at h;simp at h;omega,fun h=>by unfold ltI at h;simp at h;omega,fun a b=>Int.le_trans a b⟩
theorem sortI{l:List Int}:sortedP (bsort ltI l):=fun i a b ha hb=>bsort_sorted leLtI l (Nat.lt_succ_self i) a b ha hb
section
variable {H:HwT}{nodes sh first irq:Int}
theorem nodeG_in(sh j:Int):0≤nodeG sh j∧nodeG sh j<64:=by unfold nodeG;omega
theorem nodeG_inj{sh:Int}{i j:Int}(h0:0≤i)(h1:i<6)(h2:0≤j)(h3:j<6)(h:nodeG sh i=nodeG sh j):i=j:=by unfold nodeG at h;omega
theorem isNode_G(sh j:Int):isNodeB (nodeG sh j)=true:=by
 have:=nodeG_in sh j
 simp[isNodeB];omega
theorem IsNodeG.ok{n:Int}(h:IsNodeG nodes sh n):isNodeB n=true:=by obtain⟨j,-,-,rfl⟩:=h;exact isNode_G sh j
theorem mem_get{α:Type}{l:List α}{x:α}(h:x∈l):∃i,i<l.length∧l[i]? = some x:=by
 obtain⟨i,hi,he⟩:=List.getElem_of_mem h
 exact⟨i,hi,by rw[List.getElem?_eq_getElem hi,he]⟩
theorem tags_lt{ids:List Int}{k:Nat}{T:List (Nat×Nat)}(h:TagsG ids k T)(hk:k≤4){p:Nat×Nat}(hp:p∈T):p=(3,0)∨((p.1=2∨p.1=1)∧p.2<4∧2*p.2<ids.length):=by
 rcases h.2.2 p hp with h|⟨a,b,c⟩
 ·exact .inl h
 ·exact .inr ⟨a,by omega,c⟩
theorem ramN_ok{i:Nat}(h:i<4):nameS (ramN i)=true:=by
 have:i=0∨i=1∨i=2∨i=3:=by omega
 rcases this with rfl|rfl|rfl|rfl <;> decide +kernel
theorem devN_ok{i:Nat}(h:i<4):nameS (devN i)=true:=by
 have:i=0∨i=1∨i=2∨i=3:=by omega
 rcases this with rfl|rfl|rfl|rfl <;> decide +kernel
theorem pairN_ok{i:Nat}(h:i<4):nameS (pairN i)=true:=by
 have:i=0∨i=1∨i=2∨i=3:=by omega
 rcases this with rfl|rfl|rfl|rfl <;> decide +kernel
theorem ownN_ok{i:Nat}(h:i<4):nameS (ownN i)=true:=by
 have:i=0∨i=1∨i=2∨i=3:=by omega
 rcases this with rfl|rfl|rfl|rfl <;> decide +kernel
inductive CacheK (ids:List Int):CacheT→Nat×Nat→Prop
 | all:CacheK ids ⟨allB,3,64,1048576,ids⟩ (3,0)
 | pair {t:Nat}:t<4→2*t<ids.length→CacheK ids ⟨pairN t,2,64,65536,(ids.drop (2*t)).take 2⟩ (2,t)
 | own {t:Nat}:t<4→2*t<ids.length→CacheK ids ⟨ownN t,1,32,4096,(ids.drop (2*t)).take 1⟩ (1,t)
theorem cacheK{ids:List Int}{k:Nat}{T:List (Nat×Nat)}(h:TagsG ids k T)(hk:k≤4){p:Nat×Nat}(hp:p∈T):CacheK ids (cacheG ids p) p:=by
 rcases tags_lt h hk hp with rfl|⟨a,b,c⟩
 ·exact .all
 ·obtain⟨p1,p2⟩:=p;rcases a with rfl|rfl
  ·exact .pair b c
  ·exact .own b c
theorem cacheK_name{ids:List Int}{c:CacheT}{p:Nat×Nat}(h:CacheK ids c p):nameS c.Name=true:=by
 cases h with
 | all=>show nameS allB=true;decide +kernel
 | pair h=>exact pairN_ok h
 | own h=>exact ownN_ok h
theorem cacheK_rng{ids:List Int}{c:CacheT}{p:Nat×Nat}(h:CacheK ids c p)(hi:0<ids.length):cacheRB c=true:=by
 have e64:decide (bitsZ .and .i64 64 (IntKind.i64.wrap (64-1))=0)=true:=by decide +kernel
 have e32:decide (bitsZ .and .i64 32 (IntKind.i64.wrap (32-1))=0)=true:=by decide +kernel
 have w64:IntKind.u64.wrap 64=64:=by decide +kernel
 have w32:IntKind.u64.wrap 32=32:=by decide +kernel
 cases h with
 | all=>unfold cacheRB;dsimp only;rw[e64,w64];simp;omega
 | pair h1 h2=>unfold cacheRB;dsimp only;rw[e64,w64];simp;omega
 | own h1 h2=>unfold cacheRB;dsimp only;rw[e32,w32];simp;omega
theorem gen_ids(g:Gen H nodes sh first irq):(bsort ltI (H.Cores.map (·.ID))).length=H.Cores.length:=by rw[bsort_len];simp
theorem gen_names(g:Gen H nodes sh first irq):namesB H=true:=by
 have hh:headB H=true:=by unfold headB;rw[g.nm];decide +kernel
 obtain⟨k,T,hT,hk,hc⟩:=g.ca;unfold namesB;rw[hh];simp only[Bool.true_and,Bool.and_eq_true,List.all_eq_true]
 refine⟨⟨fun c hcm=>?_,fun x hx=>?_⟩,fun x hx=>?_⟩
 ·rw[hc]at hcm;obtain⟨p,hp,rfl⟩:=List.mem_map.1 hcm
  exact cacheK_name (cacheK hT hk hp)
 ·obtain⟨i,hi,he⟩:=mem_get hx
  rw[(g.me i x he).1];exact ramN_ok (by have:=g.nm';omega)
 ·obtain⟨i,hi,he⟩:=mem_get hx
  rw[(g.de i x he).1];exact devN_ok (by have:=g.nd';omega)
theorem gen_counts(g:Gen H nodes sh first irq):countsB H=true:=by
 obtain⟨k,T,hT,hk,hc⟩:=g.ca;have h1:=g.nc
 have h2:=g.nm'
 have h3:=g.nd'
 have h4:=g.li.1
 have h5:=g.nd
 have h6:=hT.2.1
 have h7:H.Caches.length=T.length:=by rw[hc];simp
 unfold countsB;simp only[Bool.and_eq_true,decide_eq_true_eq]
 omega
theorem wrap_top{s:Int}(h0:0≤s)(h:s≤1099511627776):IntKind.u64.wrap (1099511627776-s)=1099511627776-s:=by simp[IntKind.wrap,IntKind.bits,IntKind.signed];omega
theorem pow_rng{e:Nat}(h1:12≤e)(h2:e≤19):(4096:Int)≤2 ^ e∧(2:Int) ^ e≤524288:=by
 have:e=12∨e=13∨e=14∨e=15∨e=16∨e=17∨e=18∨e=19:=by omega
 rcases this with rfl|rfl|rfl|rfl|rfl|rfl|rfl|rfl <;> decide
theorem link_of(g:LinksG sh nodes.toNat H.Links){i:Nat}{x:LinkT}(hx:H.Links[i]? = some x):∃P:List (Nat×Nat),P.length=H.Links.length∧P.Nodup∧(∃p,P[i]? = some p)∧∀(i:Nat) (x:LinkT),H.Links[i]? = some x→∃p,P[i]? = some p∧LinkIs sh x p∧p.2<p.1∧p.1<nodes.toNat:=by
 obtain⟨-,P,h2,h3,h4,h5,-⟩:=g;refine⟨P,h2,h3,?_,fun i x hx=>?_⟩
 ·exact get_lt (by have:=(List.getElem?_eq_some_iff.1 hx).1;omega)
 ·obtain⟨p,hp⟩:=get_lt (l:=P) (k:=i) (by have:=(List.getElem?_eq_some_iff.1 hx).1;omega)
  exact⟨p,hp,h5 i x p hx hp,h4 p (List.mem_of_getElem? hp)⟩
theorem gen_cores(g:Gen H nodes sh first irq):coresRB H=true:=by
 obtain⟨k,T,hT,hk,hc⟩:=g.ca;have hfi:=g.fi
 have hnd:=g.nd
 unfold coresRB;simp only[Bool.and_eq_true,List.all_eq_true]
 refine⟨fun x hx=>?_,fun c hcm=>?_,fun x hx=>?_⟩
 ·obtain⟨i,hi,he⟩:=mem_get hx
  obtain⟨h1,h2,h3,h4,h5⟩:=g.co i x he
  have:=h3.ok
  unfold coreRB;rw[this];simp;omega
 ·rw[hc]at hcm;obtain⟨p,hp,rfl⟩:=List.mem_map.1 hcm
  exact cacheK_rng (cacheK hT hk hp) (by rw[gen_ids g];have:=g.nc;omega)
 ·obtain⟨i,hi,he⟩:=mem_get hx
  obtain⟨P,-,-,-,hP⟩:=link_of g.li he
  obtain⟨p,hp,⟨h1,h2,h3⟩,h4,h5⟩:=hP i x he
  have hne:nodeG sh p.1≠nodeG sh p.2:=fun e=>by
   have:=nodeG_inj (by omega) (by omega) (by omega) (by omega) e
   omega
  unfold linkRB;rcases h1 with⟨a,b⟩|⟨a,b⟩
  ·rw[a,b,isNode_G,isNode_G];simp[isLatB];exact⟨hne,by omega⟩
  ·rw[a,b,isNode_G,isNode_G];simp[isLatB];exact⟨fun e=>hne e.symm,by omega⟩
theorem gen_regions(g:Gen H nodes sh first irq):regionsRB H=true:=by
 have h7:=g.nm'
 have h8:=g.nd'
 unfold regionsRB;simp only[Bool.and_eq_true,List.all_eq_true]
 refine⟨fun x hx=>?_,fun x hx=>?_⟩
 ·obtain⟨i,hi,he⟩:=mem_get hx
  obtain⟨h1,h2,⟨e,e1,e2,h3⟩,h4,h5,h6⟩:=g.me i x he
  obtain⟨p1,p2⟩:=pow_rng e1 e2
  unfold memRB inSpaceB;rw[h4.ok,wrap_top (by omega) (by omega)]
  simp[isLatB];omega
 ·obtain⟨i,hi,he⟩:=mem_get hx
  obtain⟨h1,h2,h3,h4,t,t1,t2,h5⟩:=g.de i x he
  have:=g.iq
  unfold devRB inSpaceB;rw[h2.ok,wrap_top (by omega) (by omega)]
  simp;omega
theorem align_mem{i e:Nat}(hi:i<4)(h1:12≤e)(h2:e≤19):(decide (bitsZ .and .u64 (2 ^ e) (IntKind.u64.wrap (2 ^ e-1))=0)&&decide (bitsZ .and .u64 ((5-(i:Int))*16777216) (IntKind.u64.wrap (2 ^ e-1))=0))=true:=by
 have a:i=0∨i=1∨i=2∨i=3:=by omega
 have b:e=12∨e=13∨e=14∨e=15∨e=16∨e=17∨e=18∨e=19:=by omega
 rcases a with rfl|rfl|rfl|rfl <;> rcases b with rfl|rfl|rfl|rfl|rfl|rfl|rfl|rfl <;> decide +kernel
theorem gen_align(g:Gen H nodes sh first irq):alignRB H=true:=by
 have h7:=g.nm'
 have h8:=g.nd'
 unfold alignRB;simp only[Bool.and_eq_true,List.all_eq_true]
 refine⟨fun x hx=>?_,fun x hx=>?_⟩
 ·obtain⟨i,hi,he⟩:=mem_get hx
  obtain⟨h1,h2,⟨e,e1,e2,h3⟩,-⟩:=g.me i x he
  unfold memAB;rw[h2,h3];exact align_mem (by omega) e1 e2
 ·obtain⟨i,hi,he⟩:=mem_get hx
  obtain⟨h1,h2,h3,h4,t,t1,t2,h5⟩:=g.de i x he
  unfold devAB;rw[h4,h5,Int.tmod_eq_emod_of_nonneg (by omega),Int.tmod_eq_emod_of_nonneg (by omega)]
  simp;omega
end
section
variable {H:HwT}{nodes sh first irq:Int}
theorem nodup_of{α:Type}:∀ {l:List α},(∀(i j:Nat) (x:α),l[i]? = some x→l[j]? = some x→i=j)→l.Nodup
 | [],_=>List.nodup_nil
 | a::l,h=>List.nodup_cons.2 ⟨fun hm=>by
   obtain⟨i,hi,he⟩:=mem_get hm
   have:=h 0 (i+1) a rfl (by simpa using he)
   omega,nodup_of fun i j x hi hj=>by
   have:=h (i+1) (j+1) x (by simpa using hi) (by simpa using hj)
   omega⟩
theorem nodup_get{α:Type}:∀ {l:List α},l.Nodup→∀ {i j:Nat} {x:α},l[i]? = some x→l[j]? = some x→i=j
 | [],_,i,j,x,h,_=>by simp at h
 | a::l,h,0,0,x,_,_=>rfl
 | a::l,h,0,j+1,x,h1,h2=>by
  simp at h1 h2;subst h1
  exact absurd (List.mem_of_getElem? h2) (List.nodup_cons.1 h).1
 | a::l,h,i+1,0,x,h1,h2=>by
  simp at h1 h2;subst h2
  exact absurd (List.mem_of_getElem? h1) (List.nodup_cons.1 h).1
 | a::l,h,i+1,j+1,x,h1,h2=>by
  simp at h1 h2
  rw[nodup_get (List.nodup_cons.1 h).2 h1 h2]
theorem map_get{α β:Type}{f:α→β}{l:List α}{i:Nat}{y:β}(h:(l.map f)[i]? = some y):∃x,l[i]? = some x∧f x=y:=by
 rw[List.getElem?_map]at h;exact Option.map_eq_some_iff.1 h
theorem ids_nodup(g:Gen H nodes sh first irq):(H.Cores.map (·.ID)).Nodup:=nodup_of fun i j x hi hj=>by
 obtain⟨a,ha,rfl⟩:=map_get hi
 obtain⟨b,hb,he⟩:=map_get hj
 have h1:=(g.co i a ha).1
 have h2:=(g.co j b hb).1
 have:=(List.getElem?_eq_some_iff.1 ha).1
 have:=(List.getElem?_eq_some_iff.1 hb).1
 have:=g.nc
 have:=g.fi
 rw[h1,h2]at he;omega
theorem ramN_inj{i j:Nat}(hi:i<4)(hj:j<4)(h:ramN i=ramN j):i=j:=by
 have a:i=0∨i=1∨i=2∨i=3:=by omega
 have b:j=0∨j=1∨j=2∨j=3:=by omega
 rcases a with rfl|rfl|rfl|rfl <;> rcases b with rfl|rfl|rfl|rfl <;> first|rfl|(revert h;decide +kernel)
theorem devN_inj{i j:Nat}(hi:i<4)(hj:j<4)(h:devN i=devN j):i=j:=by
 have a:i=0∨i=1∨i=2∨i=3:=by omega
 have b:j=0∨j=1∨j=2∨j=3:=by omega
 rcases a with rfl|rfl|rfl|rfl <;> rcases b with rfl|rfl|rfl|rfl <;> first|rfl|(revert h;decide +kernel)
theorem pairN_inj{i j:Nat}(hi:i<4)(hj:j<4)(h:pairN i=pairN j):i=j:=by
 have a:i=0∨i=1∨i=2∨i=3:=by omega
 have b:j=0∨j=1∨j=2∨j=3:=by omega
 rcases a with rfl|rfl|rfl|rfl <;> rcases b with rfl|rfl|rfl|rfl <;> first|rfl|(revert h;decide +kernel)
theorem ownN_inj{i j:Nat}(hi:i<4)(hj:j<4)(h:ownN i=ownN j):i=j:=by
 have a:i=0∨i=1∨i=2∨i=3:=by omega
 have b:j=0∨j=1∨j=2∨j=3:=by omega
 rcases a with rfl|rfl|rfl|rfl <;> rcases b with rfl|rfl|rfl|rfl <;> first|rfl|(revert h;decide +kernel)
theorem bytes_ne{a b:ByteArray}(h:a.data.toList.head?≠b.data.toList.head?):a≠b:=fun e=>h (by rw[e])
theorem cacheK_inj{ids:List Int}{c d:CacheT}{p q:Nat×Nat}(h:CacheK ids c p)(k:CacheK ids d q)(e:c.Name=d.Name):p=q:=by
 cases h with
 | all=>cases k with
  | all=>rfl
  | pair=>exact absurd e (bytes_ne (by show some (97:UInt8)≠some 112;decide))
  | own=>exact absurd e (bytes_ne (by show some (97:UInt8)≠some 111;decide))
 | pair h1=>cases k with
  | all=>exact absurd e (bytes_ne (by show some (112:UInt8)≠some 97;decide))
  | pair h2=>rw[pairN_inj h1 h2 e]
  | own=>exact absurd e (bytes_ne (by show some (112:UInt8)≠some 111;decide))
 | own h1=>cases k with
  | all=>exact absurd e (bytes_ne (by show some (111:UInt8)≠some 97;decide))
  | pair=>exact absurd e (bytes_ne (by show some (111:UInt8)≠some 112;decide))
  | own h2=>rw[ownN_inj h1 h2 e]
theorem cacheK_cores{ids:List Int}{c:CacheT}{p:Nat×Nat}(h:CacheK ids c p):c.Cores.Sublist ids:=by
 cases h with
 | all=>exact List.Sublist.refl _
 | pair=>exact(List.take_sublist _ _).trans (List.drop_sublist _ _)
 | own=>exact(List.take_sublist _ _).trans (List.drop_sublist _ _)
theorem linkKey_of{x:LinkT}{p:Nat×Nat}(h:LinkIs sh x p):linkKey x=(min (nodeG sh p.1) (nodeG sh p.2),max (nodeG sh p.1) (nodeG sh p.2)):=by
 obtain⟨h1,-⟩:=h;unfold linkKey;rcases h1 with⟨a,b⟩|⟨a,b⟩
 ·rw[a,b];congr 1 <;> split <;> omega
 ·rw[a,b];congr 1 <;> split <;> omega
theorem links_nodup(g:Gen H nodes sh first irq):(H.Links.map linkKey).Nodup:=nodup_of fun i j z hi hj=>by
 obtain⟨a,ha,rfl⟩:=map_get hi
 obtain⟨b,hb,he⟩:=map_get hj
 obtain⟨P,hl,hn,-,hP⟩:=link_of g.li ha
 obtain⟨p,hp,hp1,hp2,hp3⟩:=hP i a ha
 obtain⟨q,hq,hq1,hq2,hq3⟩:=hP j b hb
 have hnd:=g.nd
 rw[linkKey_of hp1,linkKey_of hq1]at he;injection he with e1 e2
 have hpq:p=q:=by
  have c:(nodeG sh p.1=nodeG sh q.1∧nodeG sh p.2=nodeG sh q.2)∨(nodeG sh p.1=nodeG sh q.2∧nodeG sh p.2=nodeG sh q.1):=by omega
  rcases c with⟨c1,c2⟩|⟨c1,c2⟩
  ·have d1:=nodeG_inj (by omega) (by omega) (by omega) (by omega) c1
   have d2:=nodeG_inj (by omega) (by omega) (by omega) (by omega) c2
   exact Prod.ext (by omega) (by omega)
  ·have d1:=nodeG_inj (by omega) (by omega) (by omega) (by omega) c1
   have d2:=nodeG_inj (by omega) (by omega) (by omega) (by omega) c2
   omega
 subst hpq;exact nodup_get hn hp hq
theorem gen_unique(g:Gen H nodes sh first irq):uniqueB H=true:=by
 obtain⟨k,T,hT,hk,hc⟩:=g.ca;have hids:(bsort ltI (H.Cores.map (·.ID))).Nodup:=(bsort_perm _).nodup_iff.2 (ids_nodup g)
 unfold uniqueB;simp only[Bool.and_eq_true,List.all_eq_true,decide_eq_true_eq]
 refine⟨fun c hcm=>?_,⟨⟨⟨⟨⟨ids_nodup g,?_⟩,?_⟩,?_⟩,?_⟩,links_nodup g⟩⟩
 ·rw[hc]at hcm;obtain⟨p,hp,rfl⟩:=List.mem_map.1 hcm
  exact hids.sublist (cacheK_cores (cacheK hT hk hp))
 ·rw[hc,List.map_map];refine nodup_of fun i j z hi hj=>?_
  obtain⟨p,hp,rfl⟩:=map_get hi
  obtain⟨q,hq,he⟩:=map_get hj
  have hpq:=cacheK_inj (cacheK hT hk (List.mem_of_getElem? hq)) (cacheK hT hk (List.mem_of_getElem? hp)) he
  subst hpq;exact nodup_get hT.1 hp hq
 ·refine nodup_of fun i j z hi hj=>?_
  obtain⟨a,ha,rfl⟩:=map_get hi
  obtain⟨b,hb,he⟩:=map_get hj
  rw[(g.me i a ha).1,(g.me j b hb).1]at he;have:=(List.getElem?_eq_some_iff.1 ha).1
  have:=(List.getElem?_eq_some_iff.1 hb).1
  have:=g.nm'
  exact(ramN_inj (by omega) (by omega) he).symm
 ·refine nodup_of fun i j z hi hj=>?_
  obtain⟨a,ha,rfl⟩:=map_get hi
  obtain⟨b,hb,he⟩:=map_get hj
  rw[(g.de i a ha).1,(g.de j b hb).1]at he;have:=(List.getElem?_eq_some_iff.1 ha).1
  have:=(List.getElem?_eq_some_iff.1 hb).1
  have:=g.nd'
  exact(devN_inj (by omega) (by omega) he).symm
 ·refine nodup_of fun i j z hi hj=>?_
  obtain⟨a,ha,rfl⟩:=map_get hi
  obtain⟨b,hb,he⟩:=map_get hj
  have h1:=(g.de i a ha).2.2.1
  have h2:=(g.de j b hb).2.2.1
  rw[h1,h2]at he;have:=(List.getElem?_eq_some_iff.1 ha).1
  have:=(List.getElem?_eq_some_iff.1 hb).1
  have:=g.nd'
  have:=g.iq
  omega
theorem gen_known(g:Gen H nodes sh first irq):knownB H=true:=by
 obtain⟨k,T,hT,hk,hc⟩:=g.ca;unfold knownB;simp only[List.all_eq_true,List.any_eq_true,decide_eq_true_eq]
 intro c hcm id hid;rw[hc]at hcm;obtain⟨p,hp,rfl⟩:=List.mem_map.1 hcm
 have h1:=(cacheK_cores (cacheK hT hk hp)).subset hid
 have h2:=(bsort_perm _).mem_iff.1 h1
 obtain⟨x,hx,he⟩:=List.mem_map.1 h2
 exact⟨x,hx,he⟩
theorem gen_disj(g:Gen H nodes sh first irq):disjB H=true:=decP_t fun i k a b hki ha hb=>by
 have h7:=g.nm'
 have h8:=g.nd'
 have hm:∀(i:Nat) (x:MemT),H.Mems[i]? = some x→i<4∧(memBlk x).1=(5-i)*16777216∧(memBlk x).2≤(5-i)*16777216+524288∧(memBlk x).1<(memBlk x).2:=fun i x hx=>by
  obtain⟨-,h2,⟨e,e1,e2,h3⟩,-⟩:=g.me i x hx
  obtain⟨p1,p2⟩:=pow_rng e1 e2
  have:=(List.getElem?_eq_some_iff.1 hx).1
  unfold memBlk;dsimp only
  rw[show IntKind.u64.wrap (x.Base+x.Size)=x.Base+x.Size from by simp[IntKind.wrap,IntKind.bits,IntKind.signed];omega]
  omega
 have hd:∀(i:Nat) (x:DevT),H.Devs[i]? = some x→i<4∧(devBlk x).1=4294967296+i*65536∧(devBlk x).2≤4294967296+i*65536+12288∧(devBlk x).1<(devBlk x).2:=fun i x hx=>by
  obtain⟨-,-,-,h2,t,t1,t2,h3⟩:=g.de i x hx
  have:=(List.getElem?_eq_some_iff.1 hx).1
  unfold devBlk;dsimp only
  rw[show IntKind.u64.wrap (x.Base+x.Size)=x.Base+x.Size from by simp[IntKind.wrap,IntKind.bits,IntKind.signed];omega]
  omega
 have hr:∀(i:Nat) (a:Int×Int),(regs H)[i]? = some a→(∃x,H.Mems[i]? = some x∧memBlk x=a)∨(∃j x,i=H.Mems.length+j∧H.Devs[j]? = some x∧devBlk x=a):=fun i a ha=>by
  unfold regs at ha;rw[List.getElem?_append]at ha;split at ha
  ·exact .inl (map_get ha)
  ·rename_i hlt
   obtain⟨x,hx,he⟩:=map_get ha
   simp at hlt hx
   exact .inr ⟨i-H.Mems.length,x,by omega,hx,he⟩
 have key:¬(a.1<b.2∧b.1<a.2):=by
  rcases hr i a ha with⟨x,hx,rfl⟩|⟨j,x,hj,hx,rfl⟩ <;> rcases hr k b hb with⟨y,hy,rfl⟩|⟨l,y,hl,hy,rfl⟩
  ·have:=hm i x hx;have:=hm k y hy;omega
  ·have:=(List.getElem?_eq_some_iff.1 hx).1;omega
  ·have:=hd j x hx;have:=hm k y hy;omega
  ·have:=hd j x hx;have:=hd l y hy;omega
 unfold apartB;simp only[Bool.not_eq_true',Bool.and_eq_false_iff,decide_eq_false_iff_not]
 omega
theorem reach_trans{ls:List LinkT}{a b c:Int}(h:Reach ls a b)(k:Reach ls b c):Reach ls a c:=by
 induction k with
 | refl=>exact h
 | ab hl _ ih=>exact .ab hl ih
 | ba hl _ ih=>exact .ba hl ih
theorem reach_symm{ls:List LinkT}{a b:Int}(h:Reach ls a b):Reach ls b a:=by
 induction h with
 | refl=>exact .refl
 | ab hl _ ih=>exact reach_trans (.ba hl .refl) ih
 | ba hl _ ih=>exact reach_trans (.ab hl .refl) ih
theorem gen_conn(g:Gen H nodes sh first irq):connB H=true:=by
 obtain⟨-,P,h2,h3,h4,h5,h6⟩:=g.li;have hnd:=g.nd
 have r0:∀i:Nat,i<nodes.toNat→Reach H.Links (nodeG sh 0) (nodeG sh i):=by
  intro i;induction i using Nat.strongRecOn with
  | ind i ih=>
   intro hi;by_cases e:i=0
   ·subst e;exact .refl
   ·obtain⟨j,hj⟩:=h6 i (by omega) hi
    have hji:=(h4 _ hj).1
    dsimp at hji
    obtain⟨n,hn,hp⟩:=mem_get hj
    obtain⟨x,hx⟩:=get_lt (l:=H.Links) (k:=n) (by omega)
    have hl:=h5 n x _ hx hp
    have hxm:=List.mem_of_getElem? hx
    have hr:=ih j hji (by omega)
    rcases hl.1 with⟨a,b⟩|⟨a,b⟩
    ·dsimp at a b;rw[←a];rw[←b]at hr;exact .ba hxm hr
    ·dsimp at a b;rw[←b];rw[←a]at hr;exact .ab hxm hr
 have hu:∀n∈usedN H,IsNodeG nodes sh n:=fun n hn=>by
  unfold usedN at hn;simp only[List.mem_append,List.mem_map]at hn
  rcases hn with (⟨x,hx,rfl⟩|⟨x,hx,rfl⟩)|⟨x,hx,rfl⟩
  ·obtain⟨i,hi,he⟩:=mem_get hx;exact(g.co i x he).2.2.1
  ·obtain⟨i,hi,he⟩:=mem_get hx;exact(g.me i x he).2.2.2.1
  ·obtain⟨i,hi,he⟩:=mem_get hx;exact(g.de i x he).2.1
 have hr:∀n∈usedN H,Reach H.Links (nodeG sh 0) n:=fun n hn=>by
  obtain⟨j,j0,j1,rfl⟩:=hu n hn
  have:=r0 j.toNat (by omega)
  rwa [Int.toNat_of_nonneg j0]at this
 have hlen:0<(usedN H).length:=by have:=g.nc;simp[usedN];omega
 obtain⟨s0,hs0⟩:=get_lt (l:=usedN H) (k:=0) hlen
 refine decP_t fun n hn=>?_
 rw[head_used hs0];exact reach_trans (reach_symm (hr s0 (List.mem_of_getElem? hs0))) (hr n hn)
end
end Go.Proofs.YtfoggcgogafocaaGreatDoor
end
section
open Go Mk
namespace Go.Proofs.YtfoggcgogafocaaGreatDoor
set_option maxHeartbeats 4000000
attribute [local irreducible] Calls scanS endP
abbrev hwZ:List Value:=[.string ⟨#[]⟩,.slice none 0 0,.slice none 0 0,.slice none 0 0,.slice none 0 0,.slice none 0 0]
section
variable {Γ:Gho}{S:List Res}{w:World}{b2 b3 b4:Nat}{h0:Array Value}{p0:PosT}{e0:Int}
end
section
variable {Γ:Gho}{S:List Res}{w:World}
end
end Go.Proofs.YtfoggcgogafocaaGreatDoor
end
section
open Go Mk
namespace Go.Proofs.YtfoggcgogafocaaGreatDoor
set_option maxHeartbeats 8000000
attribute [local irreducible] Calls
theorem HwOut.freeze{Γ:Gho}{S:List Res}{w:World}{H:HwT}{u:Value}(h:HwOut Γ H S u w)(hsz:HwSz H):∃Γ',Γ.le Γ'∧HwR Γ' u H∧Wd Γ' S w:=by
 obtain⟨v1,v2,v3,v4,v5,cs,hcs,hok,rfl,hw⟩:=h;obtain⟨a1,n1,c1,rfl,-,-,-⟩:=hw.own_shape (i:=0) rfl
 obtain⟨a2,n2,c2,rfl,-,-,-⟩:=hw.own_shape (i:=1) rfl
 obtain⟨a3,n3,c3,rfl,-,-,-⟩:=hw.own_shape (i:=2) rfl
 obtain⟨a4,n4,c4,rfl,-,-,-⟩:=hw.own_shape (i:=3) rfl
 obtain⟨a5,n5,c5,rfl,-,-,-⟩:=hw.own_shape (i:=4) rfl
 obtain⟨Γ1,e1,r1,hw⟩:=hw.freeze;obtain⟨Γ2,e2,r2,hw⟩:=hw.freeze;obtain⟨Γ3,e3,r3,hw⟩:=hw.freeze;obtain⟨Γ4,e4,r4,hw⟩:=hw.freeze;obtain⟨Γ5,e5,r5,hw⟩:=hw.freeze;have f4:=e5
 have f3:=e4.trans f4
 have f2:=e3.trans f3
 have f1:=e2.trans f2
 exact⟨Γ5,e1.trans f1,⟨_,_,_,_,_,_,_,_,_,_,_,_,_,_,_,cs,rfl,hcs,fun c hc=>(hok c hc).mono (e1.trans f1),hsz,r1.mono f1,r2.mono f2,r3.mono f3,r4.mono f4,r5⟩,hw⟩
def hw1:HwT:=⟨⟨#[109]⟩,[⟨0,32,0,1⟩],[],[],[],[]⟩
def hw2:HwT:=⟨⟨#[109]⟩,[⟨0,33,0,1⟩],[],[],[],[]⟩
theorem sz2:HwSz hw2:=by unfold HwSz maxS;decide
set_option maxHeartbeats 4000000
theorem memI_iff{x:Int}{l:List Int}:memI x l=true↔x∈l:=by
 unfold memI;rw[List.any_eq_true];exact⟨fun⟨y,hy,he⟩=>by rw[of_decide_eq_true he];exact hy,fun h=>⟨x,h,decide_eq_true rfl⟩⟩
theorem shared_all{a b:List Int}(h:∀x∈a,x∈b):sharedN a b=a.length:=by
 unfold sharedN;rw[List.filter_eq_self.2 fun x hx=>memI_iff.2 (h x hx)]
theorem shared_none{a b:List Int}(h:∀x∈a,x∉b):sharedN a b=0:=by
 unfold sharedN;rw[List.filter_eq_nil_iff.2 fun x hx=>by rw[memI_iff];exact h x hx];rfl
theorem sortedP.part{l:List Int}(h:sortedP l)(a b:Nat):sortedP ((l.drop a).take b):=fun i x y hx hy=>by
 rw[List.getElem?_take]at hx hy
 split at hx
 ·split at hy
  ·rw[List.getElem?_drop]at hx hy
   exact h (a+i) x y hx (by rw[show a+i+1=a+(i+1) by omega];exact hy)
  ·cases hy
 ·cases hx
theorem part_at{l:List Int}{t m:Nat}(hm:m≤2){x:Int}(h:x∈(l.drop (2*t)).take m):∃j,j / 2=t∧l[j]? = some x:=by
 obtain⟨i,hi,he⟩:=mem_get h
 rw[List.getElem?_take]at he;split at he
 ·rw[List.getElem?_drop]at he;exact⟨2*t+i,by omega,he⟩
 ·cases he
section
variable {H:HwT}{nodes sh first irq:Int}
theorem cacheK_pair{ids:List Int}(hn:ids.Nodup){c d:CacheT}{p q:Nat×Nat}(h:CacheK ids c p)(k:CacheK ids d q)(hne:p≠q)(hl:¬d.Level<c.Level):sharedN c.Cores d.Cores=0∨(c.Level≠d.Level∧sharedN c.Cores d.Cores=c.Cores.length):=by
 have apart:∀ {t s m n:Nat},t≠s→m≤2→n≤2→sharedN ((ids.drop (2*t)).take m) ((ids.drop (2*s)).take n)=0:=fun hts hm hn2=>shared_none fun x hx hx2=>by
  obtain⟨i,hi,hi2⟩:=part_at hm hx
  obtain⟨j,hj,hj2⟩:=part_at hn2 hx2
  have:=nodup_get hn hi2 hj2
  omega
 cases h with
 | all=>cases k with
  | all=>exact absurd rfl hne
  | pair=>exact absurd (by dsimp only;omega) hl
  | own=>exact absurd (by dsimp only;omega) hl
 | pair h1 h2=>cases k with
  | all=>exact .inr ⟨by dsimp only;omega,shared_all fun x hx=>List.mem_of_mem_drop (List.mem_of_mem_take hx)⟩
  | pair h3 h4=>exact .inl (apart (fun e=>hne (by rw[e])) (by omega) (by omega))
  | own=>exact absurd (by dsimp only;omega) hl
 | own h1 h2=>cases k with
  | all=>exact .inr ⟨by dsimp only;omega,shared_all fun x hx=>List.mem_of_mem_drop (List.mem_of_mem_take hx)⟩
  | @pair s h3 h4=>
   rename_i t
   by_cases e:t=s
   ·subst e;refine .inr ⟨by dsimp only;omega,shared_all fun x hx=>?_⟩
    exact(List.take_sublist_take_left (by omega)).subset hx
   ·exact .inl (apart e (by omega) (by omega))
  | own h3 h4=>exact .inl (apart (fun e=>hne (by rw[e])) (by omega) (by omega))
theorem cacheK_sorted{ids:List Int}(hs:sortedP ids){c:CacheT}{p:Nat×Nat}(h:CacheK ids c p):sortedP c.Cores:=by
 cases h with
 | all=>exact hs
 | pair=>exact hs.part _ _
 | own=>exact hs.part _ _
theorem gen_hier(g:Gen H nodes sh first irq):hierB H=true:=by
 obtain⟨k,T,hT,hk,hc⟩:=g.ca;have hids:(bsort ltI (H.Cores.map (·.ID))).Nodup:=(bsort_perm _).nodup_iff.2 (ids_nodup g)
 refine decP_t ⟨fun c hcm=>?_,fun i j a b ha hb=>?_⟩
 ·rw[hc]at hcm;obtain⟨p,hp,rfl⟩:=List.mem_map.1 hcm
  exact cacheK_sorted sortI (cacheK hT hk hp)
 ·rw[hc]at ha hb
  obtain⟨p,hp,rfl⟩:=map_get ha
  obtain⟨q,hq,rfl⟩:=map_get hb
  unfold pairB;by_cases e:i=j
  ·simp[e]
  ·have hne:p≠q:=fun h=>e (by subst h;exact nodup_get hT.1 hp hq)
   by_cases hl:(cacheG (bsort ltI (H.Cores.map (·.ID))) q).Level<(cacheG (bsort ltI (H.Cores.map (·.ID))) p).Level
   ·simp[hl]
   ·rcases cacheK_pair hids (cacheK hT hk (List.mem_of_getElem? hp)) (cacheK hT hk (List.mem_of_getElem? hq)) hne hl with h|⟨h1,h2⟩
    ·rw[h];simp
    ·rw[h2];simp[h1]
theorem gen_valid(g:Gen H nodes sh first irq):validS H=0:=by
 simp[validS,gen_names g,gen_counts g,gen_cores g,gen_regions g,gen_align g,gen_unique g,gen_known g,gen_hier g,gen_disj g,gen_conn g]
theorem name_small{s:ByteArray}(h:nameS s=true):s.size≤maxS:=by
 unfold nameS at h;simp only[Bool.and_eq_true,decide_eq_true_eq]at h
 unfold maxS;omega
theorem names_sz{H:HwT}(h:namesB H=true):HwSz H:=by
 unfold namesB headB at h;simp only[Bool.and_eq_true,List.all_eq_true,decide_eq_true_eq]at h
 obtain⟨⟨⟨⟨⟨-,h0⟩,-⟩,h1⟩,h2⟩,h3⟩:=h;exact⟨by unfold maxS;omega,fun c hc=>name_small (h1 c hc),fun c hc=>name_small (h2 c hc),fun c hc=>name_small (h3 c hc)⟩
theorem gen_sz(g:Gen H nodes sh first irq):HwSz H:=names_sz (gen_names g)
end
set_option maxHeartbeats 8000000
section
variable {P:Program}{n:Nat}{ops:List Oper}{Γ:Gho}{K:List Res}{wr tc stab:List (List Nat)}{Q:Fr→World→Prop}{i:Nat}{rest:List Oper}{ρ:Fr}{M:Nat→Fr→List Res}{T ty:TypeId}{pos:String}{es:Array Edge}{x:Operand}
end
structure ValidP(H:HwT):Prop where
 n:namesB H=true
 c:countsB H=true
 r:coresRB H=true
 g:regionsRB H=true
 a:alignRB H=true
 u:uniqueB H=true
 k:knownB H=true
 h:hierB H=true
 d:disjB H=true
 o:connB H=true
theorem valid_iff{H:HwT}:validS H=0↔ValidP H:=by
 constructor
 ·intro h;unfold validS at h;repeat' split at h
  all_goals first|(exact absurd h (by decide))|skip
  rename_i h1 h2 h3 h4 h5 h6 h7 h8 h9
  simp only[Bool.not_eq_false,Bool.and_eq_true]at h1 h2 h3 h4 h5 h6 h7 h8 h9
  exact⟨h1,h2,h3.1,h3.2,h4,h5,h6,h7,h8,h9⟩
 ·rintro⟨h1,h2,h3,h4,h5,h6,h7,h8,h9,h10⟩;simp[validS,h1,h2,h3,h4,h5,h6,h7,h8,h9,h10]
end Go.Proofs.YtfoggcgogafocaaGreatDoor
end
section
open Go Mk
namespace Go.Proofs.YtfoggcgogafocaaGreatDoor
set_option maxHeartbeats 4000000
theorem vp_core{H:HwT}(v:ValidP H){c:CoreT}(hc:c∈H.Cores):(0≤c.ID∧c.ID<32)∧(c.Width=32∨c.Width=39)∧(1≤c.Speed∧c.Speed≤1000000)∧0≤c.Node∧c.Node<64:=by
 have h:=v.r
 unfold coresRB at h;simp only[Bool.and_eq_true,List.all_eq_true]at h
 have h:=h.1 c hc
 unfold coreRB isNodeB at h;simp only[Bool.and_eq_true,Bool.or_eq_true,decide_eq_true_eq]at h
 omega
theorem vp_cache{H:HwT}(v:ValidP H){c:CacheT}(hc:c∈H.Caches):(1≤c.Level∧c.Level≤4)∧(16≤c.Line∧c.Line≤256)∧c.Cores.Nodup∧∀i∈c.Cores,i∈H.Cores.map (·.ID):=by
 have h:=v.r
 unfold coresRB at h;simp only[Bool.and_eq_true,List.all_eq_true]at h
 have h:=h.2.1 c hc
 unfold cacheRB at h;simp only[Bool.and_eq_true,decide_eq_true_eq]at h
 have h5:=v.u
 unfold uniqueB at h5;simp only[Bool.and_eq_true,List.all_eq_true,decide_eq_true_eq]at h5
 have h6:=v.k
 unfold knownB at h6;rw[List.all_eq_true]at h6;have h6:=h6 c hc
 rw[List.all_eq_true]at h6;refine⟨by omega,by omega,h5.1 c hc,fun i hi=>?_⟩
 have:=h6 i hi
 rw[List.any_eq_true]at this;obtain⟨x,hx,he⟩:=this;exact List.mem_map.2 ⟨x,hx,of_decide_eq_true he⟩
theorem vp_link{H:HwT}(v:ValidP H){l:LinkT}(hl:l∈H.Links):(0≤l.A∧l.A<64)∧(0≤l.B∧l.B<64)∧1≤l.Latency∧l.Latency≤1000000:=by
 have h:=v.r
 unfold coresRB at h;simp only[Bool.and_eq_true,List.all_eq_true]at h
 have h:=h.2.2 l hl
 unfold linkRB isNodeB isLatB at h;simp only[Bool.and_eq_true,decide_eq_true_eq]at h
 omega
theorem vp_mem{H:HwT}(v:ValidP H){m:MemT}(hm:m∈H.Mems):(0≤m.Node∧m.Node<64)∧1≤m.Latency∧m.Latency≤1000000:=by
 have h:=v.g
 unfold regionsRB at h;simp only[Bool.and_eq_true,List.all_eq_true]at h
 have h:=h.1 m hm
 unfold memRB isNodeB isLatB at h;simp only[Bool.and_eq_true,decide_eq_true_eq]at h
 omega
theorem vp_dev{H:HwT}(v:ValidP H){d:DevT}(hd:d∈H.Devs):(0≤d.Node∧d.Node<64)∧0≤d.IRQ∧d.IRQ<256:=by
 have h:=v.g
 unfold regionsRB at h;simp only[Bool.and_eq_true,List.all_eq_true]at h
 have h:=h.2 d hd
 unfold devRB isNodeB at h;simp only[Bool.and_eq_true,decide_eq_true_eq]at h
 omega
theorem vp_shares{H:HwT}(v:ValidP H){c:CacheT}(hc:c∈H.Caches):c.Cores.length≤32:=by
 obtain⟨-,-,h1,h2⟩:=vp_cache v hc
 have h3:=(counts_le v.c).2.1
 have:=Go.Proofs.YtfoggcgogafocaaGreatDoor.nodup_le _ _ h1 h2
 rw[List.length_map]at this;omega
theorem fm_len{α β:Type}{f:α→List β}{m:Nat}:∀ {l:List α},(∀x∈l,(f x).length≤m)→(l.flatMap f).length≤l.length*m
 | [],_=>by simp
 | x::l,h=>by
  rw[List.flatMap_cons,List.length_append,List.length_cons,Nat.succ_mul];have h1:=h x (by simp)
  have h2:=fm_len (f:=f) (m:=m) (l:=l) fun y hy=>h y (by simp[hy])
  omega
theorem hw_few{H:HwT}(v:ValidP H):(hwFacts H).length≤2497:=by
 obtain⟨-,h1,h2,h3,h4,h5⟩:=counts_le v.c
 have h6:(H.Caches.flatMap cacheFs).length≤H.Caches.length*33:=fm_len fun c hc=>by
  have:=vp_shares v hc
  unfold cacheFs;simp
  omega
 simp only[hwFacts,hwB4,hwB3,hwB2,hwB1,hwB0,List.length_append,List.length_map,List.length_singleton]
 omega
theorem vp_names{H:HwT}(v:ValidP H):H.Name.size≤24∧(∀c∈H.Caches,c.Name.size≤24)∧(∀c∈H.Mems,c.Name.size≤24)∧∀c∈H.Devs,c.Name.size≤24:=by
 have h:=v.n
 unfold namesB headB at h;simp only[Bool.and_eq_true,List.all_eq_true,decide_eq_true_eq]at h
 have k:∀ {s:ByteArray},nameS s=true→s.size≤24:=fun {s} h=>by
  unfold nameS at h;simp only[Bool.and_eq_true,decide_eq_true_eq]at h
  exact h.2
 exact⟨h.1.1.1.1.2,fun c hc=>k (h.1.1.2 c hc),fun c hc=>k (h.1.2 c hc),fun c hc=>k (h.2 c hc)⟩
theorem ok_iF{i:Int}(h:-9223372036854775808≤i∧i≤9223372036854775807):ValOk (iF i):=⟨h,by show (⟨#[]⟩:ByteArray).size≤100000;decide⟩
theorem ok_sF(i:Int):ValOk (sF i):=ok_iF (by simp[IntKind.wrap,IntKind.bits,IntKind.signed];omega)
theorem ok_wF{s:ByteArray}(h:s.size≤24):ValOk (wF s):=⟨by show (-9223372036854775808:Int)≤0∧(0:Int)≤9223372036854775807;decide,by show s.size≤100000;omega⟩
theorem hw_ok{H:HwT}(v:ValidP H):∀f∈hwFacts H,FactOk f:=by
 obtain⟨n0,n1,n2,n3⟩:=vp_names v
 intro f h;simp only[hwFacts,hwB4,hwB3,hwB2,hwB1,hwB0,List.mem_append,List.mem_map,List.mem_flatMap,List.mem_singleton]at h
 have key:∀ {r:ByteArray} {l:List Val},r.size≤100000→l.length≤100000→(∀v∈l,ValOk v)→FactOk (r,l):=fun a b c=>⟨b,a,c⟩
 rcases h with ((((h|⟨c,hc,h⟩)|⟨c,hc,h⟩)|⟨c,hc,h⟩)|⟨c,hc,h⟩)|⟨c,hc,h⟩
 ·rw[h];exact key (by decide) (by show 1≤100000;decide) fun x hx=>by rw[List.mem_singleton.1 hx];exact ok_wF n0
 ·obtain⟨a1,a2,a3,a4⟩:=vp_core v hc
  rw[←h];refine key (by decide) (by show 4≤100000;decide) fun x hx=>?_
  simp only[List.mem_cons,List.not_mem_nil,or_false]at hx
  rcases hx with rfl|rfl|rfl|rfl <;> exact ok_iF (by omega)
 ·obtain⟨a1,a2,a3,a4⟩:=vp_cache v hc
  unfold cacheFs at h;rcases List.mem_cons.1 h with h|h
  ·rw[h];refine key (by decide) (by show 4≤100000;decide) fun x hx=>?_
   simp only[List.mem_cons,List.not_mem_nil,or_false]at hx
   rcases hx with rfl|rfl|rfl|rfl
   ·exact ok_wF (n1 c hc)
   ·exact ok_iF (by omega)
   ·exact ok_sF _
   ·exact ok_iF (by omega)
  ·obtain⟨i,hi,rfl⟩:=List.mem_map.1 h
   obtain⟨x,hx,he⟩:=List.mem_map.1 (a4 i hi)
   have:=(vp_core v hx).1
   refine key (by decide) (by show 2≤100000;decide) fun y hy=>?_
   simp only[List.mem_cons,List.not_mem_nil,or_false]at hy
   rcases hy with rfl|rfl
   ·exact ok_wF (n1 c hc)
   ·exact ok_iF (by omega)
 ·obtain⟨a1,a2,a3⟩:=vp_link v hc
  rw[←h];refine key (by decide) (by show 3≤100000;decide) fun x hx=>?_
  simp only[List.mem_cons,List.not_mem_nil,or_false]at hx
  rcases hx with rfl|rfl|rfl
  ·exact ok_iF (by split <;> omega)
  ·exact ok_iF (by split <;> omega)
  ·exact ok_iF (by omega)
 ·obtain⟨a1,a2⟩:=vp_mem v hc
  rw[←h];refine key (by decide) (by show 5≤100000;decide) fun x hx=>?_
  simp only[List.mem_cons,List.not_mem_nil,or_false]at hx
  rcases hx with rfl|rfl|rfl|rfl|rfl
  ·exact ok_wF (n2 c hc)
  ·exact ok_sF _
  ·exact ok_sF _
  ·exact ok_iF (by omega)
  ·exact ok_iF (by omega)
 ·obtain⟨a1,a2⟩:=vp_dev v hc
  rw[←h];refine key (by decide) (by show 5≤100000;decide) fun x hx=>?_
  simp only[List.mem_cons,List.not_mem_nil,or_false]at hx
  rcases hx with rfl|rfl|rfl|rfl|rfl
  ·exact ok_wF (n3 c hc)
  ·exact ok_iF (by omega)
  ·exact ok_iF (by omega)
  ·exact ok_sF _
  ·exact ok_sF _
end Go.Proofs.YtfoggcgogafocaaGreatDoor
end
