/- Texts of this proof, one behind another. -/
import Derived.Test.YtfoggcgogafocaaGreatM2
import Derived.Lib.Bytealg
import Derived.Test.YtfoggcgogafocaaGreatRows
import Derived.ProofKit
import Derived.OpenShut
import Derived.Deep.Slices
import Derived.ReadAgain
import Derived.Laws.MakeOwn
import Derived.Lib.UnsafeStr
import Derived.Lib.Builder
import Derived.Below
import Derived.Shelf.SlLaysF0
import Derived.Shelf.Strconv.Itoa4
import Derived.Room.Shelf.Join48
import Derived.Shelf.Slices.In.SortNone
import Derived.Shelf.Slices.CompactI
import Derived.Sort.EveryDepth
import Derived.Laws.CopyRow
set_option linter.unusedVariables false
set_option linter.unusedSimpArgs false
section
open Go Mk
namespace Go.Proofs.YtfoggcgogafocaaGreat
set_option maxHeartbeats 4000000
attribute [local irreducible] Calls
def isS(toks:List Tok)(at':Nat)(kind:Int)(text:ByteArray):Bool:=match toks[at']? with|some t=>decide (t.Kind=kind)&&decide (t.Text=text)|none=>false
def posOf(toks:List Tok)(at':Nat)(e:PosT):PosT:=match toks[at']? with|some t=>⟨t.Line,t.Col⟩|none=>e
abbrev PR(α:Type):=Except (PosT×Int) (α×Nat)
def nextP(toks:List Tok)(e:PosT)(kind:Int)(at':Nat):PR Tok:=match toks[at']? with|some t=>if t.Kind=kind then .ok (t,at') else .error (posOf toks at' e,50)|none=>.error (posOf toks at' e,50)
def expectP(toks:List Tok)(e:PosT)(kind:Int)(text:ByteArray)(at':Nat):PR Unit:=if isS toks at' kind text=true then .ok ((),at'+1) else .error (posOf toks at' e,50)
def nameP(toks:List Tok)(e:PosT)(kind:Int)(at':Nat):PR ByteArray:=match nextP toks e kind at' with|.ok (t,_)=>if 24<t.Text.size then .error (posOf toks at' e,63) else .ok (t.Text,at'+1)|.error q=>.error q
def numberP(toks:List Tok)(e:PosT)(limited:Bool)(at':Nat):PR Int:=match nextP toks e 2 at' with|.ok (t,_)=>if limited=true∧2147483647<t.Value then .error (posOf toks at' e,6) else .ok (t.Value,at'+1)|.error q=>.error q
def memB(s:ByteArray)(xs:List ByteArray):Bool:=xs.any fun x=>decide (s=x)
def commaB:ByteArray:=⟨#[44]⟩
def semiB:ByteArray:=⟨#[59]⟩
def closeB:ByteArray:=⟨#[125]⟩
theorem posCol{s:ByteArray}{k:Nat}(h:∀i,k≤i→i<s.size→byteAt s i≠10)(hk:k≤s.size):(posAt s s.size).Col=(posAt s k).Col+((s.size-k:Nat):Int):=by
 have:=posAt_run (s:=s) (off:=k) (s.size-k) (fun i hi=>h _ (by omega) (by omega))
 rw[show k+(s.size-k)=s.size by omega]at this
 rw[this]
def endP(s:ByteArray):PosT:=posAt s s.size
theorem Last_any(s:ByteArray)(hs:s.size≤4611686018427387904)(w:World):Calls Tryz.prog 102 #[.string s,.int .u8 10] w fun e w'=>e=.returned (.int .i64 ((s.size:Int)-(endP s).Col))∧w'=w:=by
 refine calls_of_W Tryz.func102 rfl rfl ?_
 repeat first|refine byW ?_|refine byV ?_;intro w hw
 refine W_loop (fun μ ρ w'=>∃(i:Int) (k:Nat),i+1=k∧μ=k∧k≤s.size∧Has ρ [(0,.string s),(1,.int .u8 10),(5,.int .i64 i)]∧(∀j,k≤j→j<s.size→byteAt s j≠10)∧w'=w) s.size ⟨(s.size:Int)-1,s.size,by omega,rfl,Nat.le_refl _,⟨rfl,rfl,rfl,trivial⟩,fun j h1 h2=>by omega,rfl⟩ ?_
 rintro μ ρ w' ⟨i,k,hik,rfl,hk,hρ,hno,rfl⟩
 rw[hρ.eq];repeat first|refine byW ?_|refine byV ?_;intro w hw
 refine W_cond rfl (fun h=>?_) (fun h=>?_)
 ·have h:0≤i:=of_decide_eq_true h
  repeat first|refine byW ?_|refine byV ?_;intro w hw
  have hi:i.toNat+1=μ:=by omega
  refine W_cond rfl (fun h2=>?_) (fun h2=>?_)
  ·have h2:byteAt s i.toNat=10:=of_decide_eq_true h2
   repeat first|refine byW ?_|refine byV ?_;intro w hw
   refine⟨_,rfl,?_,rfl⟩
   have h3:=posCol (s:=s) (k:=μ) hno hk
   have h4:=posAt_nl h2
   rw[hi]at h4;rw[h4]at h3;unfold endP;rw[h3];show Ending.returned (.int .i64 i)=_
   congr 2;dsimp;omega
  ·have h2:¬byteAt s i.toNat=10:=of_decide_eq_false h2
   repeat first|refine byW ?_|refine byV ?_;intro w hw
   refine⟨i.toNat,by omega,i-1,i.toNat,by omega,rfl,by omega,⟨rfl,rfl,rfl,trivial⟩,fun j h3 h4=>?_,rfl⟩
   by_cases e:j=i.toNat
   ·subst e;exact h2
   ·exact hno j (by omega) h4
 ·have h:¬0≤i:=of_decide_eq_false h
  repeat first|refine byW ?_|refine byV ?_;intro w hw
  refine⟨_,rfl,?_,rfl⟩
  have h3:=posCol (s:=s) (k:=0) (fun j h1 h2=>hno j (by omega) h2) (by omega)
  unfold endP;rw[h3];show Ending.returned (.int .i64 (-1))=_
  congr 2;simp[posAt];omega
theorem ext_Count(s:ByteArray)(c:Int)(w:World):(callFunc 104 #[.string s,.int .u8 c]).run Tryz.prog w=.ok (.value (.int .i64 (Go.Lib.countByte s.data.toList c.toNat.toUInt8))) w:=by
 rw[run_callFunc_extern Tryz.func104 (by kernel_rfl) (by kernel_rfl) (e:=Extern.BytealgCount.count) (by kernel_rfl) (by kernel_rfl),Go.Lib.run_countString]
 rfl
theorem pc_CountNl(s:ByteArray):PC Tryz.prog 58 [.string s,.string ⟨#[10]⟩] (.int .i64 (s.data.toList.count 10:Nat)):=⟨fun w=>by
 refine calls_of_W Tryz.func58 rfl rfl ?_
 repeat first|refine byW ?_|refine byV ?_;intro w hw
 refine W_cond rfl (fun h=>absurd h (by decide)) (fun _=>?_)
 repeat first|refine byW ?_|refine byV ?_;intro w hw
 refine W_cond rfl (fun _=>?_) (fun h=>absurd h (by decide))
 repeat first|refine byW ?_|refine byV ?_;intro w hw
 refine lY (v:=.int .u8 10) ?_ (hy:=y_idxS (s:=⟨#[10]⟩) (k:=.i64) (i:=0) rfl rfl (by decide) (by decide))
 repeat first|refine byW ?_|refine byV ?_;intro w hw
 refine lExt (vs:=[.string s,.int .u8 10]) (ext_Count s 10) ?_
 repeat first|refine byW ?_|refine byV ?_;intro w hw
 exact⟨_,rfl,rfl,rfl⟩⟩
theorem pc_LastNl(s:ByteArray)(hs:s.size≤4611686018427387904):PC Tryz.prog 57 [.string s,.int .u8 10] (.int .i64 ((s.size:Int)-(endP s).Col)):=⟨fun w=>by
 have hL3:PC Tryz.prog 102 [.string s,.int .u8 10] (.int .i64 ((s.size:Int)-(endP s).Col)):=⟨fun w=>Last_any s hs w⟩
 refine calls_of_W Tryz.func57 rfl rfl ?_
 repeat first|refine byW ?_|refine byV ?_;intro w hw
 exact⟨_,rfl,rfl,rfl⟩⟩
theorem resS{P:Program}{Γ:Gho}{S:List Res}{ρ:Fr}{w:World}{t T i b k:Nat}{cs:Array Value}{E:TypeId}{fr:Nat×Nat}{v:Value}[ha:TS P T](hw:Wd Γ S w)(hi:S[i]? = some (.blk b (.cells cs E fr)))(hx:ρ t=.pointer (some ⟨b,k,none⟩))(hv:cs[k]? = some v):ResV P ρ w (.cell t T) v:=by
 refine⟨_,hx,?_⟩
 have hc:=cell_of (hw.at_blk hi) hv
 simp[loadVar,scal_isAgg ha.h,hc,go_sem]
end Go.Proofs.YtfoggcgogafocaaGreat
end
section
open Go Mk
namespace Go.Proofs.YtfoggcgogafocaaGreat
set_option maxHeartbeats 4000000
attribute [local irreducible] Calls nextP
section
variable {Γ:Gho}{S:List Res}{w:World}{bp:Nat}{a:Option Addr}{n c at':Nat}{e:PosT}{toks:List Tok}
end
end Go.Proofs.YtfoggcgogafocaaGreat
end
section
open Go Mk
namespace Go.Proofs.YtfoggcgogafocaaGreat
set_option maxHeartbeats 4000000
attribute [local irreducible] Calls nextP numberP expectP isS posOf
def baseB:ByteArray:=⟨#[98,97,115,101]⟩
def sizeB:ByteArray:=⟨#[115,105,122,101]⟩
def coresB:ByteArray:=⟨#[99,111,114,101,115]⟩
def moreN(toks:List Tok)(e:PosT)(limited cores:Bool):Nat→Nat→List Int→PR (List Int)
 | 0,k,acc=>.ok (acc,k)
 | f+1,k,acc=>if (cores&&isS toks k 4 commaB)=true then (match numberP toks e limited (k+1) with|.ok (v,k1)=>moreN toks e limited cores f k1 (acc++[v])|.error q=>.error q) else .ok (acc,k)
def limB(s:ByteArray):Bool:=decide (s≠baseB)&&decide (s≠sizeB)
def oneAttr(toks:List Tok)(e:PosT)(names:List ByteArray)(got:List (ByteArray×List Int))(k:Nat):PR (ByteArray×List Int):=
 match nextP toks e 1 k with
 | .error q=>.error q
 | .ok (t,_)=>
  if memB t.Text names=false then .error (posOf toks k e,50)
  else if memB t.Text (got.map (·.1))=true then .error (posOf toks k e,56)
  else match numberP toks e (limB t.Text) (k+1) with
   | .error q=>.error q
   | .ok (v,k1)=>match moreN toks e (limB t.Text) (decide (t.Text=coresB)) (toks.length+1) k1 [v] with
    | .error q=>.error q
    | .ok (l,k2)=>match expectP toks e 4 semiB k2 with
     | .error q=>.error q
     | .ok (_,k3)=>.ok ((t.Text,l),k3)
def attrN(toks:List Tok)(e:PosT)(names:List ByteArray):Nat→Nat→List (ByteArray×List Int)→PR (List (ByteArray×List Int))
 | 0,k,got=>.ok (got,k)
 | f+1,k,got=>if isS toks k 4 closeB=true then .ok (got,k) else
  match oneAttr toks e names got k with
  | .error q=>.error q
  | .ok (p,k3)=>attrN toks e names f k3 (got++[p])
end Go.Proofs.YtfoggcgogafocaaGreat
end
section
open Go Mk
namespace Go.Proofs.YtfoggcgogafocaaGreat
set_option maxHeartbeats 4000000
attribute [local irreducible] Calls nextP numberP expectP isS posOf moreN memB
section
variable {Γ:Gho}{S:List Res}{w:World}{bp:Nat}{a:Option Addr}{n c at':Nat}{e:PosT}{toks:List Tok}
end
end Go.Proofs.YtfoggcgogafocaaGreat
end
section
open Go Mk
namespace Go.Proofs.YtfoggcgogafocaaGreat
set_option maxHeartbeats 4000000
attribute [local irreducible] Calls nextP numberP expectP isS posOf memB nameP
structure CoreT where
 ID:Int
 Width:Int
 Node:Int
 Speed:Int
 deriving DecidableEq,Inhabited
instance:GoT CoreT where
 enc a:=[.int .i64 a.ID,.int .i64 a.Width,.int .i64 a.Node,.int .i64 a.Speed]
 inj a b h:=by cases a;cases b;simp at h;simp[h]
 ks:=[5,5,5,5]
 kinds a:=rfl
structure LinkT where
 A:Int
 B:Int
 Latency:Int
 deriving DecidableEq,Inhabited
instance:GoT LinkT where
 enc a:=[.int .i64 a.A,.int .i64 a.B,.int .i64 a.Latency]
 inj a b h:=by cases a;cases b;simp at h;simp[h]
 ks:=[5,5,5]
 kinds a:=rfl
structure MemT where
 Name:ByteArray
 Base:Int
 Size:Int
 Node:Int
 Latency:Int
 deriving DecidableEq,Inhabited
instance:GoT MemT where
 enc a:=[.string a.Name,.int .u64 a.Base,.int .u64 a.Size,.int .i64 a.Node,.int .i64 a.Latency]
 inj a b h:=by cases a;cases b;simp at h;simp[h]
 ks:=[1,9,9,5,5]
 kinds a:=rfl
structure DevT where
 Name:ByteArray
 Node:Int
 IRQ:Int
 Base:Int
 Size:Int
 deriving DecidableEq,Inhabited
instance:GoT DevT where
 enc a:=[.string a.Name,.int .i64 a.Node,.int .i64 a.IRQ,.int .u64 a.Base,.int .u64 a.Size]
 inj a b h:=by cases a;cases b;simp at h;simp[h]
 ks:=[1,5,5,9,9]
 kinds a:=rfl
structure CacheT where
 Name:ByteArray
 Level:Int
 Line:Int
 Size:Int
 Cores:List Int
 deriving DecidableEq,Inhabited
structure CacheH where
 Name:ByteArray
 Level:Int
 Line:Int
 Size:Int
 A:Option Addr
 N:Nat
 C:Nat
 Cores:List Int
def CacheH.T(c:CacheH):CacheT:=⟨c.Name,c.Level,c.Line,c.Size,c.Cores⟩
def cC(c:CacheH):List Value:=[.string c.Name,.int .i64 c.Level,.int .i64 c.Line,.int .u64 c.Size,.slice c.A c.N c.C]
def intRows(l:List Int):List (List Value):=l.map fun x=>[.int .i64 x]
def COk(Γ:Gho)(c:CacheH):Prop:=RepS Γ (.slice c.A c.N c.C) 1 (intRows c.Cores)
structure HwT where
 Name:ByteArray
 Cores:List CoreT
 Caches:List CacheT
 Links:List LinkT
 Mems:List MemT
 Devs:List DevT
 deriving DecidableEq
def coreB:ByteArray:=⟨#[99,111,114,101]⟩
def cacheB:ByteArray:=⟨#[99,97,99,104,101]⟩
def linkB:ByteArray:=⟨#[108,105,110,107]⟩
def memoryB:ByteArray:=⟨#[109,101,109,111,114,121]⟩
def deviceB:ByteArray:=⟨#[100,101,118,105,99,101]⟩
theorem nodup_le{α:Type}[DecidableEq α]:∀(ks L:List α),ks.Nodup→(∀x∈ks,x∈L)→ks.length≤L.length
 | [],_,_,_=>Nat.zero_le _
 | k::ks,L,hn,hs=>by
  have hk:=hs k (List.mem_cons_self ..)
  have h1:=nodup_le ks (L.erase k) (List.nodup_cons.1 hn).2 fun x hx=>by
   refine(List.mem_erase_of_ne ?_).2 (hs x (List.mem_cons_of_mem _ hx))
   rintro rfl;exact(List.nodup_cons.1 hn).1 hx
  rw[List.length_erase_of_mem hk]at h1;have:=List.length_pos_of_mem hk
  simp;omega
end Go.Proofs.YtfoggcgogafocaaGreat
end
section
open Go Mk
namespace Go.Proofs.YtfoggcgogafocaaGreat
set_option maxHeartbeats 4000000
attribute [local irreducible] Calls nextP numberP expectP isS posOf moreN memB nameP
def Small(H:HwT)(k:Nat):Prop:=H.Cores.length≤k∧H.Caches.length≤k∧H.Links.length≤k∧H.Mems.length≤k∧H.Devs.length≤k
theorem COk.mono{Γ Γ':Gho}{c:CacheH}(h:COk Γ c)(hle:Γ.le Γ'):COk Γ' c:=RepS.mono h hle
section
variable {Γ:Gho}{S:List Res}{w:World}{bp hb:Nat}{a:Option Addr}{n c at':Nat}{e:PosT}{toks:List Tok}{H:HwT}
end
end Go.Proofs.YtfoggcgogafocaaGreat
end
section
open Go Mk
namespace Go.Proofs.YtfoggcgogafocaaGreat
set_option maxHeartbeats 4000000
attribute [local irreducible] Calls nextP numberP expectP isS posOf moreN memB nameP
def HwOut(Γ:Gho)(H:HwT)(S:List Res)(u:Value)(w:World):Prop:=∃(v1 v2 v3 v4 v5:Value) (cs:List CacheH),cs.map CacheH.T=H.Caches∧(∀c∈cs,COk Γ c)∧u=.agg #[.string H.Name,v1,v2,v3,v4,v5] ∧
 Wd Γ (.own v1 37 4 (H.Cores.map enc)::.own v2 89 5 (cs.map cC)::.own v3 79 3 (H.Links.map enc)::.own v4 83 5 (H.Mems.map enc)::.own v5 85 5 (H.Devs.map enc)::S) w
section
variable {Γ:Gho}{S:List Res}{w:World}{bp hb:Nat}{a:Option Addr}{n c:Nat}{e:PosT}{toks:List Tok}
end
end Go.Proofs.YtfoggcgogafocaaGreat
end
section
open Go Mk
namespace Go.Proofs.YtfoggcgogafocaaGreat
set_option maxHeartbeats 4000000
attribute [local irreducible] Calls
def maxS:Nat:=4611686018427387904
def HwSz(H:HwT):Prop:=H.Name.size≤maxS∧(∀c∈H.Caches,c.Name.size≤maxS)∧(∀c∈H.Mems,c.Name.size≤maxS)∧∀c∈H.Devs,c.Name.size≤maxS
class HwR(Γ:Gho)(u:Value)(H:outParam HwT):Prop where
 h:∃(a1:Option Addr) (n1 c1:Nat) (a2:Option Addr) (n2 c2:Nat) (a3:Option Addr) (n3 c3:Nat) (a4:Option Addr) (n4 c4:Nat) (a5:Option Addr) (n5 c5:Nat) (cs:List CacheH),
  u=.agg #[.string H.Name,.slice a1 n1 c1,.slice a2 n2 c2,.slice a3 n3 c3,.slice a4 n4 c4,.slice a5 n5 c5]∧cs.map CacheH.T=H.Caches∧(∀c∈cs,COk Γ c)∧HwSz H ∧
  RepS Γ (.slice a1 n1 c1) 4 (H.Cores.map enc)∧RepS Γ (.slice a2 n2 c2) 5 (cs.map cC)∧RepS Γ (.slice a3 n3 c3) 3 (H.Links.map enc)∧RepS Γ (.slice a4 n4 c4) 5 (H.Mems.map enc)∧RepS Γ (.slice a5 n5 c5) 5 (H.Devs.map enc)
theorem HwR.mono{Γ Γ':Gho}{u:Value}{H:HwT}(hh:HwR Γ u H)(hle:Γ.le Γ'):HwR Γ' u H:=by
 obtain⟨a1,n1,c1,a2,n2,c2,a3,n3,c3,a4,n4,c4,a5,n5,c5,cs,h1,h2,h3,h4,r1,r2,r3,r4,r5⟩:=hh.h;exact⟨a1,n1,c1,a2,n2,c2,a3,n3,c3,a4,n4,c4,a5,n5,c5,cs,h1,h2,fun c hc=>RepS.mono (h3 c hc) hle,h4,r1.mono hle,r2.mono hle,r3.mono hle,r4.mono hle,r5.mono hle⟩
theorem rep_facts{Γ:Gho}{a:Option Addr}{n c sz:Nat}{rows:List (List Value)}(h:RepS Γ (.slice a n c) sz rows):n=rows.length∧n≤c∧c≤9223372036854775807:=by
 obtain⟨_,_,_,h1,h2,h3⟩:=h.shape;cases h1;exact⟨h2,h3⟩
theorem COk.facts{Γ:Gho}{c:CacheH}(h:COk Γ c):c.N=c.Cores.length∧c.N≤c.C∧c.C≤9223372036854775807:=by
 have:=rep_facts h
 simpa[intRows] using this
section
variable {α:Type}{l:List α}{p:α→Bool}{k:Nat}{x:α}
theorem all_no(hx:l[k]? = some x)(hf:p x=false):l.all p=false:=by
 rw[List.all_eq_false];exact⟨x,List.mem_of_getElem? hx,by rw[hf];simp⟩
end
def isNodeB(n:Int):Bool:=decide (0≤n)&&decide (n<64)
def isLatB(n:Int):Bool:=decide (1≤n)&&decide (n≤1000000)
def inSpaceB(b s:Int):Bool:=(decide (4096≤s)&&decide (s≤1099511627776))&&decide (b≤IntKind.u64.wrap (1099511627776-s))
def coreRB(c:CoreT):Bool:=decide (0≤c.ID)&&decide (c.ID<32)&&(decide (c.Width=32)||decide (c.Width=39))&&decide (1≤c.Speed)&&decide (c.Speed≤1000000)&&isNodeB c.Node
def cacheRB(c:CacheT):Bool:=decide (1≤c.Level)&&decide (c.Level≤4)&&decide (16≤c.Line)&&decide (c.Line≤256)&&decide (bitsZ .and .i64 c.Line (IntKind.i64.wrap (c.Line-1))=0)&&decide (IntKind.u64.wrap c.Line≤c.Size)&&decide (c.Size≤1099511627776)&&decide (0<c.Cores.length)
def linkRB(l:LinkT):Bool:=isNodeB l.A&&isNodeB l.B&&decide (l.A≠l.B)&&isLatB l.Latency
def memRB(m:MemT):Bool:=isNodeB m.Node&&isLatB m.Latency&&inSpaceB m.Base m.Size
def devRB(d:DevT):Bool:=isNodeB d.Node&&decide (0≤d.IRQ)&&decide (d.IRQ<256)&&inSpaceB d.Base d.Size
def memAB(m:MemT):Bool:=decide (bitsZ .and .u64 m.Size (IntKind.u64.wrap (m.Size-1))=0)&&decide (bitsZ .and .u64 m.Base (IntKind.u64.wrap (m.Size-1))=0)
def devAB(d:DevT):Bool:=decide (d.Base.tmod 4096=0)&&decide (d.Size.tmod 4096=0)
def coresRB(H:HwT):Bool:=H.Cores.all coreRB&&(H.Caches.all cacheRB&&H.Links.all linkRB)
def regionsRB(H:HwT):Bool:=H.Mems.all memRB&&H.Devs.all devRB
def alignRB(H:HwT):Bool:=H.Mems.all memAB&&H.Devs.all devAB
def countsB(H:HwT):Bool:=decide (1≤H.Cores.length)&&decide (H.Cores.length≤32)&&decide (H.Caches.length≤64)&&decide (H.Links.length≤256)&&decide (H.Mems.length≤64)&&decide (H.Devs.length≤32)
class SlC(Γ:Gho)(v:Value)(sz:outParam Nat)(rows:outParam (List (List Value))):Prop where
 h:RepS Γ v sz rows
theorem take_succ_of{α:Type}{l:List α}{k:Nat}{x:α}(h:l[k]? = some x):l.take (k+1)=l.take k++[x]:=by rw[List.take_add_one,h];rfl
theorem nodup_snoc{α:Type}{l:List α}{x:α}:(l++[x]).Nodup↔l.Nodup∧x∉l:=by
 rw[List.nodup_append];constructor
 ·rintro⟨h1,-,h3⟩;exact⟨h1,fun hx=>h3 x hx x (by simp) rfl⟩
 ·rintro⟨h1,h2⟩;exact⟨h1,by simp,fun a ha b hb=>by simp at hb;subst hb;rintro rfl;exact h2 ha⟩
section
variable {α:Type}[DecidableEq α]{l:List α}{x:α}
end
def inTextC(b:UInt8):Bool:=!(((decide (((b.toNat:Nat):Int)<32)||decide (126<((b.toNat:Nat):Int)))||decide (((b.toNat:Nat):Int)=34))||decide (((b.toNat:Nat):Int)=92))
def textB(s:ByteArray):Bool:=s.data.toList.all inTextC
def headB(H:HwT):Bool:=(decide (H.Name≠⟨#[]⟩)&&decide (H.Name.size≤24))&&textB H.Name
def namesB(H:HwT):Bool:=((headB H&&H.Caches.all fun c=>nameS c.Name)&&H.Mems.all fun c=>nameS c.Name)&&H.Devs.all fun c=>nameS c.Name
set_option maxHeartbeats 8000000
theorem own_len{Γ:Gho}{S:List Res}{w:World}{i e sz n c:Nat}{a:Option Addr}{rows:List (List Value)}(hw:Wd Γ S w)(hi:S[i]? = some (.own (.slice a n c) e sz rows)):n=rows.length:=by
 obtain⟨_,_,_,h1,h2,-,-⟩:=hw.own_shape hi;cases h1;exact h2
def linkKey(l:LinkT):Int×Int:=(if l.B<l.A then l.B else l.A,if l.A<l.B then l.B else l.A)
def uniqueB(H:HwT):Bool:=(H.Caches.all fun c=>decide c.Cores.Nodup)&&(decide (H.Cores.map (·.ID)).Nodup&&decide (H.Caches.map (·.Name)).Nodup&&decide (H.Mems.map (·.Name)).Nodup&&decide (H.Devs.map (·.Name)).Nodup&&decide (H.Devs.map (·.IRQ)).Nodup&&decide (H.Links.map linkKey).Nodup)
theorem counts_le{H:HwT}(h:countsB H=true):1≤H.Cores.length∧H.Cores.length≤32∧H.Caches.length≤64∧H.Links.length≤256∧H.Mems.length≤64∧H.Devs.length≤32:=by
 unfold countsB at h;simp only[Bool.and_eq_true,decide_eq_true_eq]at h
 omega
section
attribute [local semireducible] gv
end
theorem rows_snocI{α:Type}{f:α→Int}{l:List α}{k:Nat}{x:α}(hx:l[k]? = some x):intRows ((l.take k).map f)++[[.int .i64 (f x)]]=intRows ((l.take (k+1)).map f):=by rw[take_succ_of hx];simp[intRows]
section
variable {Γ:Gho}{S:List Res}{w:World}{a:Option Addr}{n c:Nat}{xs:List CoreT}
end
def knownB(H:HwT):Bool:=H.Caches.all fun c=>c.Cores.all fun id=>H.Cores.any fun x=>decide (x.ID=id)
abbrev hwC(H:HwT)(a1:Option Addr)(n1 c1:Nat)(a2:Option Addr)(n2 c2:Nat)(a3:Option Addr)(n3 c3:Nat)(a4:Option Addr)(n4 c4:Nat)(a5:Option Addr)(n5 c5:Nat):Obj:=.cells #[.string H.Name,.slice a1 n1 c1,.slice a2 n2 c2,.slice a3 n3 c3,.slice a4 n4 c4,.slice a5 n5 c5] 30
def sortedP(l:List Int):Prop:=∀i a b,l[i]? = some a→l[i+1]? = some b→a≤b
noncomputable def decP(p:Prop):Bool:=@decide p (Classical.propDecidable p)
theorem decP_t{p:Prop}(h:p):decP p=true:=@decide_eq_true p (Classical.propDecidable p) h
theorem decP_f{p:Prop}(h:¬p):decP p=false:=@decide_eq_false p (Classical.propDecidable p) h
section
variable {Γ:Gho}{S:List Res}{w:World}{xs:List Int}{v:Value}
def memI(x:Int)(xs:List Int):Bool:=xs.any fun y=>decide (x=y)
end
def sharedN(a b:List Int):Nat:=(a.filter fun v=>memI v b).length
def pairB(i k:Nat)(a b:CacheT):Bool:=decide (i=k)||decide (b.Level<a.Level) || !(decide (0<sharedN a.Cores b.Cores)&&(decide (a.Level=b.Level)||decide (sharedN a.Cores b.Cores<a.Cores.length)))
def HierP(l:List CacheT):Prop:=(∀c∈l,sortedP c.Cores)∧∀(i k:Nat) (a b:CacheT),l[i]? = some a→l[k]? = some b→pairB i k a b=true
noncomputable def hierB(H:HwT):Bool:=decP (HierP H.Caches)
theorem allI_step{α:Type}{l:List α}{p:Nat→α→Bool}{k:Nat}{x:α}(h:∀i x,i<k→l[i]? = some x→p i x=true)(hx:l[k]? = some x)(ht:p k x=true):∀i x,i<k+1→l[i]? = some x→p i x=true:=fun i y hi hy=>by
 by_cases e:i=k
 ·subst e;rw[hx]at hy;cases hy;exact ht
 ·exact h i y (by omega) hy
def memBlk(m:MemT):Int×Int:=(m.Base,IntKind.u64.wrap (m.Base+m.Size))
def devBlk(m:DevT):Int×Int:=(m.Base,IntKind.u64.wrap (m.Base+m.Size))
def regs(H:HwT):List (Int×Int):=H.Mems.map memBlk++H.Devs.map devBlk
def apartB(x y:Int×Int):Bool:=!(decide (x.1<y.2)&&decide (y.1<x.2))
def DisjP(H:HwT):Prop:=∀(i k:Nat) (a b:Int×Int),k<i→(regs H)[i]? = some a→(regs H)[k]? = some b→apartB a b=true
noncomputable def disjB(H:HwT):Bool:=decP (DisjP H)
inductive Reach (ls:List LinkT) (s:Int):Int→Prop
 | refl:Reach ls s s
 | ab {l:LinkT}:l∈ls→Reach ls s l.A→Reach ls s l.B
 | ba {l:LinkT}:l∈ls→Reach ls s l.B→Reach ls s l.A
def usedN(H:HwT):List Int:=(H.Cores.map (fun c=>c.Node)++H.Mems.map (fun c=>c.Node))++H.Devs.map (fun c=>c.Node)
def ConnP(H:HwT):Prop:=∀n∈usedN H,Reach H.Links ((usedN H).headD 0) n
noncomputable def connB(H:HwT):Bool:=decP (ConnP H)
theorem head_used{H:HwT}{s0:Int}(h:(usedN H)[0]? = some s0):(usedN H).headD 0=s0:=by
 cases hu:usedN H with
 | nil=>rw[hu]at h;cases h
 | cons a l=>rw[hu]at h;simpa using h
theorem nodes_in{H:HwT}(h1:coresRB H=true)(h2:regionsRB H=true):(∀n∈usedN H,0≤n∧n<64)∧∀l∈H.Links,0≤l.A∧l.A<64∧0≤l.B∧l.B<64:=by
 unfold coresRB at h1;unfold regionsRB at h2;simp only[Bool.and_eq_true,List.all_eq_true]at h1 h2
 obtain⟨hc,-,hl⟩:=h1;obtain⟨hm,hd⟩:=h2;refine⟨fun n hn=>?_,fun l hl'=>?_⟩
 ·unfold usedN at hn;simp only[List.mem_append,List.mem_map]at hn
  rcases hn with (⟨c,hcm,rfl⟩|⟨c,hcm,rfl⟩)|⟨c,hcm,rfl⟩
  ·have:=hc c hcm;simp[coreRB,isNodeB]at this;omega
  ·have:=hm c hcm;simp[memRB,isNodeB]at this;omega
  ·have:=hd c hcm;simp[devRB,isNodeB]at this;omega
 ·have:=hl l hl';simp[linkRB,isNodeB]at this;omega
structure Known(ls:List LinkT)(s:Int)(R:List Bool):Prop where
 len:R.length=64
 ok:∀(j:Nat),R[j]? = some true→∃n:Int,n.toNat=j∧0≤n∧Reach ls s n
theorem known_start{ls:List LinkT}{s:Int}(h:0≤s∧s<64):Known ls s ((List.replicate 64 false).set s.toNat true):=⟨by simp,fun j hj=>by
 rw[List.getElem?_set]at hj;split at hj
 ·rename_i e;exact⟨s,e,h.1,.refl⟩
 ·rw[List.getElem?_replicate]at hj;split at hj <;> simp at hj⟩
theorem Known.set{ls:List LinkT}{s n:Int}{R:List Bool}(h:Known ls s R)(hn:0≤n)(hr:Reach ls s n):Known ls s (R.set n.toNat true):=⟨by simp[h.len],fun j hj=>by
 rw[List.getElem?_set]at hj;split at hj
 ·rename_i e;exact⟨n,e,hn,hr⟩
 ·exact h.ok j hj⟩
theorem known_iff{ls:List LinkT}{s n:Int}{R:List Bool}(h:Known ls s R)(h0:R[s.toNat]? = some true)(hs:0≤s)(hL:∀l∈ls,0≤l.A∧l.A<64∧0≤l.B∧l.B<64)(hcl:∀l∈ls,R.getD l.A.toNat false=R.getD l.B.toNat false)(hn:0≤n∧n<64):R.getD n.toNat false=true↔Reach ls s n:=by
 constructor
 ·intro hg;rw[List.getD_eq_getElem?_getD]at hg;obtain⟨b,hb⟩:=get_lt (l:=R) (k:=n.toNat) (by rw[h.len];omega)
  rw[hb]at hg;have hg:b=true:=hg
  subst hg;obtain⟨x,hx,hx0,hr⟩:=h.ok _ hb
  have:x=n:=by omega
  subst this;exact hr
 ·intro hr;clear hn;induction hr with
  | refl=>rw[List.getD_eq_getElem?_getD,h0];rfl
  | ab hl _ ih=>rw[←hcl _ hl];exact ih
  | ba hl _ ih=>rw[hcl _ hl];exact ih
theorem getBool{R:List Bool}{k:Nat}{b:Bool}(h:R[k]? = some b):((R.map Value.bool).toArray)[0+k*1]? = some (.bool b):=by simp[h]
theorem putBool{R:List Bool}{k:Nat}{b:Bool}(h:k<R.length):putCells (R.map Value.bool).toArray (0+k*1) [.bool b]=((R.set k b).map Value.bool).toArray:=by
 unfold putCells;rw[Nat.zero_add,Nat.mul_one,List.set_eq_take_append_cons_drop,if_pos h];simp
theorem count_set_le{R:List Bool}{k:Nat}:(R.set k true).count false≤R.count false:=by
 induction R generalizing k with
 | nil=>simp
 | cons b l ih=>
  cases k with
  | zero=>cases b <;> simp
  | succ k=>simp only[List.set_cons_succ,List.count_cons];have:=ih (k:=k);omega
theorem count_set_lt{R:List Bool}{k:Nat}(h:R[k]? = some false):(R.set k true).count false+1≤R.count false:=by
 induction R generalizing k with
 | nil=>simp at h
 | cons b l ih=>
  cases k with
  | zero=>simp at h;subst h;simp
  | succ k=>simp at h;simp only[List.set_cons_succ,List.count_cons];have:=ih (k:=k) (by simpa using h);omega
noncomputable def validS(H:HwT):Int:=
 if namesB H=false then 63 else if countsB H=false then 15 else if (coresRB H&&regionsRB H)=false then 6 else if alignRB H=false then 59
 else if uniqueB H=false then 56 else if knownB H=false then 57 else if hierB H=false then 73 else if disjB H=false then 7 else if connB H=false then 60 else 0
end Go.Proofs.YtfoggcgogafocaaGreat
end
section
open Go Mk
namespace Go.Proofs.YtfoggcgogafocaaGreat
set_option maxHeartbeats 4000000
attribute [local irreducible] Calls scanS endP
abbrev hwZ:List Value:=[.string ⟨#[]⟩,.slice none 0 0,.slice none 0 0,.slice none 0 0,.slice none 0 0,.slice none 0 0]
section
variable {Γ:Gho}{S:List Res}{w:World}{b2 b3 b4:Nat}{h0:Array Value}{p0:PosT}{e0:Int}
end
section
variable {Γ:Gho}{S:List Res}{w:World}
end
end Go.Proofs.YtfoggcgogafocaaGreat
end
section
open Go Mk
namespace Go.Proofs.YtfoggcgogafocaaGreat
set_option maxHeartbeats 8000000
attribute [local irreducible] Calls
theorem HwOut.freeze{Γ:Gho}{S:List Res}{w:World}{H:HwT}{u:Value}(h:HwOut Γ H S u w)(hsz:HwSz H):∃Γ',Γ.le Γ'∧HwR Γ' u H∧Wd Γ' S w:=by
 obtain⟨v1,v2,v3,v4,v5,cs,hcs,hok,rfl,hw⟩:=h;obtain⟨a1,n1,c1,rfl,-,-,-⟩:=hw.own_shape (i:=0) rfl
 obtain⟨a2,n2,c2,rfl,-,-,-⟩:=hw.own_shape (i:=1) rfl
 obtain⟨a3,n3,c3,rfl,-,-,-⟩:=hw.own_shape (i:=2) rfl
 obtain⟨a4,n4,c4,rfl,-,-,-⟩:=hw.own_shape (i:=3) rfl
 obtain⟨a5,n5,c5,rfl,-,-,-⟩:=hw.own_shape (i:=4) rfl
 obtain⟨Γ1,e1,r1,hw⟩:=hw.freeze;obtain⟨Γ2,e2,r2,hw⟩:=hw.freeze;obtain⟨Γ3,e3,r3,hw⟩:=hw.freeze;obtain⟨Γ4,e4,r4,hw⟩:=hw.freeze;obtain⟨Γ5,e5,r5,hw⟩:=hw.freeze;have f4:=e5
 have f3:=e4.trans f4
 have f2:=e3.trans f3
 have f1:=e2.trans f2
 exact⟨Γ5,e1.trans f1,⟨_,_,_,_,_,_,_,_,_,_,_,_,_,_,_,cs,rfl,hcs,fun c hc=>(hok c hc).mono (e1.trans f1),hsz,r1.mono f1,r2.mono f2,r3.mono f3,r4.mono f4,r5⟩,hw⟩
def hw1:HwT:=⟨⟨#[109]⟩,[⟨0,32,0,1⟩],[],[],[],[]⟩
def hw2:HwT:=⟨⟨#[109]⟩,[⟨0,33,0,1⟩],[],[],[],[]⟩
theorem sz2:HwSz hw2:=by unfold HwSz maxS;decide
end Go.Proofs.YtfoggcgogafocaaGreat
end
section
open Go Mk
open Go.ChangeShapes Go.WideShapes Go.ChangeAt Go.RowKit
namespace Go.Proofs.YtfoggcgogafocaaGreat
theorem own_knob:ownKnob Tryz.prog.godebug=none:=by kernel_rfl
theorem keptBut_wd{W W':World}{S:List Res}(h:Wd (allG W) S W')(may:MemPlace→Prop):W.keptBut W' may:=by
 refine⟨h.os,h.out,fun i hi=>?_⟩
 have h1:W.heap[i]? = some W.heap[i]:=Array.getElem?_eq_getElem hi
 have h2:=h.imm i W.heap[i] h1
 rw[h1,h2];cases W.heap[i] <;> simp
theorem post_wd{H:Type}{enc:TypeId×Value→H}{f:Func}{s:ChangeSpec}{W W':World}{S:List Res}{args:Array Value}{v:Value}{ds gs:List (DataW H)}{before pa pv:List MemPlace}{apart:Bool}
  (hW:DataW.Whole enc Tryz.prog f.params.toList s.vars apart W args.toList ds gs before)
  (hres:∀(b:Nat) (sp:Nat→Bool) (hd:Bool),DataW.TrodAll enc Tryz.prog W' b sp hd f.resultTypes.toList (v.resultList f.resultTypes.size) (s.fn H (ds++gs)).results [])
  (hargs:∀sp:Nat→Bool,(∀p∈before,sp p.block=true)→DataW.TrodAll enc Tryz.prog W' 0 sp true f.params.toList args.toList (s.fn H (ds++gs)).args pa)
  (hvars:∀sp:Nat→Bool,(∀p∈before,sp p.block=true)→DataW.TrodVars enc Tryz.prog W' sp s.vars (s.fn H (ds++gs)).vars pv)
  (hps:before=pa++pv) (hk:Wd (allG W) S W'):s.post enc Tryz.prog f apart true false false W args v W':=by
 have hold:∀p∈before,(fun b=>decide (b<W.heap.size)) p.block=true:=fun p hp=>by simpa using hW.lt p hp
 exact⟨ds,gs,before,[],pa,pv,hW,hres _ _ _,hargs _ hold,hvars _ hold,keptBut_wd hk _,fun h=>by cases h⟩
theorem wd_back{Γ Γ':Gho}{w:World}(hle:Γ.le Γ')(h:Wd Γ' [] w):Wd Γ [] w:=by
 obtain⟨h1,h2,h3,h4,h5,-⟩:=h;exact⟨h1.trans hle.os,h2.trans hle.tape,h3.trans hle.out,by rw[←hle.dr];exact h4,fun b o hb=>h5 b o (hle.imm b o hb),[],trivial,by simp,by simp⟩
section
variable {H:Type}{en:TypeId×Value→H}{W W':World}{base:Nat}{sp:Nat→Bool}{held:Bool}{S:List Res}
theorem flat_inv{sz:Nat}:∀ {rows:List (List Value)},(∀r∈rows,r.length=sz)→∀ {j:Nat} {u:Value},rows.flatten[j]? = some u→∃i r row,rows[i]? = some row∧row[r]? = some u∧j=i*sz+r
 | [],_,j,u,h=>by simp at h
 | a::rows,hl,j,u,h=>by
  rw[List.flatten_cons]at h;by_cases hj:j<a.length
  ·rw[List.getElem?_append_left hj]at h;exact⟨0,j,a,rfl,h,by omega⟩
  ·rw[List.getElem?_append_right (by omega)]at h
   obtain⟨i,r,row,h1,h2,h3⟩:=flat_inv (fun r hr=>hl r (List.mem_cons_of_mem _ hr)) h
   have ha:=hl a (List.mem_cons_self ..)
   refine⟨i+1,r,row,by simpa using h1,h2,?_⟩
   rw[Nat.add_mul,Nat.one_mul];omega
theorem read_ints{n:Nat}{v:Value}{y:DataW H×List MemPlace}(h:DataW.trod en Tryz.prog W base sp held n 22 [v]=some y):∃xs:List Int,RepS (allG W) v 1 (intRows xs):=by
 have hc:Tryz.prog.cellsOf 3=1:=by kernel_rfl
 rcases Deep.open_slice Tryz.underlying22 h with⟨h0,-⟩|⟨a,len,cap,m,k,D,Pl,h0,-,hlc,hcm,hm,-,hel⟩
 ·cases h0
  refine⟨[],?_⟩
  unfold RepS intRows;exact⟨by simp,none,0,0,rfl,rfl,by omega,Nat.zero_le _,fun hh=>by simp at hh⟩
 ·cases h0
  have hlm:len≤m:=by rw[hm];split <;> omega
  have hx:∀i,i<len→∃s:Int,∀j u,[Value.int .i64 s][j]? = some u→W.cell? (a.add (i*1+j))=some u:=fun i hi=>by
   obtain⟨cs',h1,h2⟩:=hel i (by omega)
   rw[hc]at h1;obtain⟨-,hl,hat⟩:=World.cells?_some h1
   obtain⟨s,rfl,-⟩:=DataW.trod_int Tryz.underlying3 h2
   refine⟨s,fun j u hu=>?_⟩
   have hj:j<1:=by rw[←hl];exact(List.getElem?_eq_some_iff.1 hu).1
   have:=hat j hj
   rw[hu,Go.Deep.add_add]at this;exact this
  have:∃f:Nat→Int,∀i,i<len→∀j u,[Value.int .i64 (f i)][j]? = some u→W.cell? (a.add (i*1+j))=some u:=by
   have dflt:Int:=0
   refine⟨fun i=>if hi:i<len then (hx i hi).choose else dflt,fun i hi=>?_⟩
   simp only[hi,dif_pos]
   exact(hx i hi).choose_spec
  obtain⟨f,hf⟩:=this;refine⟨(List.range len).map f,?_⟩
  unfold RepS intRows;refine⟨fun r hr=>?_,some a,len,cap,rfl,by simp,hlc,hcm,fun hpos=>?_⟩
  ·obtain⟨s,-,rfl⟩:=List.mem_map.1 hr
   rfl
  ·have hpos:0<len:=by simpa using hpos
   have h00:=hf 0 hpos 0 (.int .i64 (f 0)) rfl
   obtain⟨g,o,spt⟩:=a;have h01:W.cell? ⟨g,o+0,spt⟩=some (.int .i64 (f 0)):=h00
   unfold World.cell? at h01
   cases hg:W.heap[g]? with
   | none=>rw[hg]at h01;simp at h01
   | some ob=>
    rw[hg]at h01;cases ob with
    | cells cur e fr=>
     cases spt with
     | some q=>simp at h01
     | none=>
      refine⟨g,o,cur,e,fr,rfl,hg,fun j u hj=>?_⟩
      obtain⟨i,r,row,h1,h2,h3⟩:=flat_inv (sz:=1) (rows:=((List.range len).map f).map fun x=>[Value.int .i64 x]) (fun r hr=>by
       obtain⟨s,-,rfl⟩:=List.mem_map.1 hr
       rfl) hj
      rw[List.getElem?_map,List.getElem?_map]at h1;have hi:i<len:=by
       by_cases hi:i<len
       ·exact hi
       ·rw[List.getElem?_eq_none (by simpa using hi)]at h1;simp at h1
      rw[List.getElem?_range hi]at h1;simp only[Option.map_some,Option.some.injEq]at h1
      subst h1;have h4:W.cell? ⟨g,o+(i*1+r),none⟩=some u:=by
       have h5:=hf i hi r u h2
       rwa [show Addr.add ⟨g,o,none⟩ (i*1+r)=⟨g,o+(i*1+r),none⟩ from by
        unfold Addr.add;by_cases h0:i*1+r=0
        ·rw[if_pos h0,h0];rfl
        ·rw[if_neg h0]]at h5
      unfold World.cell? at h4
      rw[hg]at h4;rw[h3];simpa using h4
    | _=>simp at h01
theorem carry_all(hk:Wd (allG W) S W'):∀ {ts:List TypeId} {vs:List Value} {ds:List (DataW H)} {ps:List MemPlace},DataW.TrodAll en Tryz.prog W base sp held ts vs ds ps→(∀p∈ps,p.block<W.heap.size)→DataW.TrodAll en Tryz.prog W' base sp held ts vs ds ps
 | [],[],[],_,h,_=>h
 | _::_,_::_,_::_,_,⟨p,q,⟨n,h1⟩,h2,e⟩,hs=>⟨p,q,⟨n,DataW.trod_carry n _ _ _ h1 fun x hx=>by
   have hb:=hs x (by rw[e];exact List.mem_append_left _ hx)
   cases x with
   | cell b off=>
    have h3:W'.heap[b]? = W.heap[b]?:=by
     have h4:W.heap[b]? = some (W.heap[b]'hb):=Array.getElem?_eq_getElem hb
     rw[h4];exact hk.imm b _ h4
    show W'.cell? _=W.cell? _
    unfold World.cell?
    rw[h3]
   | map b=>
    have h4:W.heap[b]? = some (W.heap[b]'hb):=Array.getElem?_eq_getElem hb
    show W'.heap[b]? = W.heap[b]?
    rw[h4];exact hk.imm b _ h4⟩,carry_all hk h2 (fun x hx=>hs x (by rw[e];exact List.mem_append_right _ hx)),e⟩
end
theorem own_kids:Kids Tryz.prog (· < Tryz.prog.types.size):=kids_rows (by kernel_rfl) (by kernel_rfl)
theorem own_full:∀t e,t<Tryz.prog.types.size→Tryz.prog.underlying t=some (.slice e)→0<Tryz.prog.cellsOf e:=slices_full_of _ (by kernel_rfl)
end Go.Proofs.YtfoggcgogafocaaGreat
end
section
open Go Mk
namespace Go.Proofs.YtfoggcgogafocaaGreat
set_option maxHeartbeats 4000000
attribute [local irreducible] Calls
structure Val where
 Kind:Int
 Num:Int
 Word:ByteArray
 deriving DecidableEq,Inhabited
instance:GoT Val where
 enc a:=[.int .i64 a.Kind,.int .i64 a.Num,.string a.Word]
 inj a b h:=by cases a;cases b;simp at h;simp[h]
 ks:=[5,5,1]
 kinds a:=rfl
def cV(a b:Val):Int:=orI (cI a.Kind b.Kind) (orI (cI a.Num b.Num) (cB a.Word b.Word))
theorem cV_ord:Ord3 cV:=(cI_ord.prod (cI_ord.prod cB_ord)).map (fun v:Val=>(v.Kind,v.Num,v.Word)) fun a b h=>by cases a;cases b;simp at h;simp[h]
abbrev Fact:=ByteArray×List Val
def cFact(a b:Fact):Int:=orI (cB a.1 b.1) (orI (cI a.2.length b.2.length) (cL cV a.2 b.2))
theorem cFact_ord:Ord3 cFact:=(cB_ord.prod (cI_ord.prod cV_ord.list)).map (fun f:Fact=>(f.1,((f.2.length:Int),f.2))) fun a b h=>by
 simp only[Prod.mk.injEq]at h;exact Prod.ext h.1 h.2.2
structure FactH where
 Rel:ByteArray
 A:Option Addr
 N:Nat
 C:Nat
 Args:List Val
def FactH.hdr(f:FactH):Value:=.slice f.A f.N f.C
def FactH.fact(f:FactH):Fact:=(f.Rel,f.Args)
def cF(f:FactH):List Value:=[.string f.Rel,f.hdr]
def FOk(Γ:Gho)(f:FactH):Prop:=RepS Γ f.hdr 3 (f.Args.map enc)
theorem FOk.len{Γ:Gho}{f:FactH}(h:FOk Γ f):f.N=f.Args.length∧f.N≤f.C∧f.C≤9223372036854775807:=by
 obtain⟨a,n,c,h1,h2,h3,h4⟩:=RepS.shape h
 unfold FactH.hdr at h1;cases h1
 exact⟨by simpa using h2,h3,h4⟩
theorem cF_one(f:FactH):(cF f).all (·.oneCell')=true:=rfl
theorem cFs_one(fs:List FactH):∀u∈(fs.map cF).flatten,u.oneCell'=true:=fun u hu=>by
 obtain⟨r,hr,hu⟩:=List.mem_flatten.1 hu
 obtain⟨f,_,rfl⟩:=List.mem_map.1 hr
 exact(List.all_eq_true.1 (cF_one f)) u hu
instance pc_isNaNs(s:ByteArray):PC Tryz.prog 177 [.string s] (.bool false):=⟨fun w=>by
 refine calls_of_W Tryz.func177 rfl rfl ?_
 repeat first|refine byW ?_|refine byV ?_;intro w hw
 exact⟨_,rfl,ret_b rfl (by simp),rfl⟩⟩
instance pc_isNaNi(s:Int):PC Tryz.prog 155 [.int .i64 s] (.bool false):=⟨fun w=>by
 refine calls_of_W Tryz.func155 rfl rfl ?_
 repeat first|refine byW ?_|refine byV ?_;intro w hw
 exact⟨_,rfl,ret_b rfl (by simp),rfl⟩⟩
instance pc_isNaNl(s:Int):PC Tryz.prog 205 [.int .i64 s] (.bool false):=⟨fun w=>by
 refine calls_of_W Tryz.func205 rfl rfl ?_
 repeat first|refine byW ?_|refine byV ?_;intro w hw
 exact⟨_,rfl,ret_b rfl (by simp),rfl⟩⟩
instance pc_cmps(a b:ByteArray):PC Tryz.prog 96 [.string a,.string b] (.int .i64 (cB a b)):=⟨fun w=>by
 refine calls_of_W Tryz.func96 rfl rfl ?_
 repeat first|refine byW ?_|refine byV ?_;intro w hw
 refine W_cond_false rfl ?_
 repeat first|refine byW ?_|refine byV ?_;intro w hw
 refine W_cond_false rfl ?_
 repeat first|refine byW ?_|refine byV ?_;intro w hw
 refine W_cond rfl (fun h=>?_) (fun h=>?_)
 ·repeat first|refine byW ?_|refine byV ?_;intro w hw
  exact⟨_,rfl,ret_i rfl (by simp[cB,h]),rfl⟩
 repeat first|refine byW ?_|refine byV ?_;intro w hw
 refine W_cond rfl (fun h2=>?_) (fun h2=>?_)
 ·repeat first|refine byW ?_|refine byV ?_;intro w hw
  exact⟨_,rfl,ret_i rfl (by simp[cB,h,h2]),rfl⟩
 ·repeat first|refine byW ?_|refine byV ?_;intro w hw
  exact⟨_,rfl,ret_i rfl (by simp[cB,h,h2]),rfl⟩⟩
instance pc_cmpi(a b:Int):PC Tryz.prog 90 [.int .i64 a,.int .i64 b] (.int .i64 (cI a b)):=⟨fun w=>by
 refine calls_of_W Tryz.func90 rfl rfl ?_
 refine byG ?_;refine W_cond_false rfl ?_
 refine byG ?_;refine W_cond_false rfl ?_
 refine byG ?_;refine W_cond rfl (fun h=>?_) (fun h=>?_)
 ·refine byG ?_;exact⟨_,rfl,ret_i rfl (by simp at h;simp[cI,h]),rfl⟩
 refine byG ?_;refine W_cond rfl (fun h2=>?_) (fun h2=>?_)
 ·refine byG ?_;exact⟨_,rfl,ret_i rfl (by simp at h h2;unfold cI;rw[if_neg (by omega),if_pos h2]),rfl⟩
 ·refine byG ?_;exact⟨_,rfl,ret_i rfl (by simp at h h2;unfold cI;rw[if_neg (by omega),if_neg (by omega)]),rfl⟩⟩
instance pc_cmpl(a b:Int):PC Tryz.prog 142 [.int .i64 a,.int .i64 b] (.int .i64 (cI a b)):=⟨fun w=>by
 refine calls_of_W Tryz.func142 rfl rfl ?_
 repeat first|refine byW ?_|refine byV ?_;intro w hw
 refine W_cond_false rfl ?_
 repeat first|refine byW ?_|refine byV ?_;intro w hw
 refine W_cond_false rfl ?_
 repeat first|refine byW ?_|refine byV ?_;intro w hw
 refine W_cond rfl (fun h=>?_) (fun h=>?_)
 ·repeat first|refine byW ?_|refine byV ?_;intro w hw
  exact⟨_,rfl,ret_i rfl (by simp at h;simp[cI,h]),rfl⟩
 repeat first|refine byW ?_|refine byV ?_;intro w hw
 refine W_cond rfl (fun h2=>?_) (fun h2=>?_)
 ·repeat first|refine byW ?_|refine byV ?_;intro w hw
  exact⟨_,rfl,ret_i rfl (by simp at h h2;unfold cI;rw[if_neg (by omega),if_pos h2]),rfl⟩
 ·repeat first|refine byW ?_|refine byV ?_;intro w hw
  exact⟨_,rfl,ret_i rfl (by simp at h h2;unfold cI;rw[if_neg (by omega),if_neg (by omega)]),rfl⟩⟩
instance pc_order(a b:ByteArray):PC Tryz.prog 98 [.string a,.string b] (.int .i64 (cB a b)):=⟨fun w=>by
 refine calls_of_W Tryz.func98 rfl rfl ?_
 repeat first|refine byW ?_|refine byV ?_;intro w hw
 refine W_cond rfl (fun h=>?_) (fun h=>?_)
 ·repeat first|refine byW ?_|refine byV ?_;intro w hw
  exact⟨_,rfl,ret_i rfl (by simp[cB,h]),rfl⟩
 repeat first|refine byW ?_|refine byV ?_;intro w hw
 refine W_cond rfl (fun h2=>?_) (fun h2=>?_)
 ·repeat first|refine byW ?_|refine byV ?_;intro w hw
  exact⟨_,rfl,ret_i rfl (by simp[cB,h,h2]),rfl⟩
 ·repeat first|refine byW ?_|refine byV ?_;intro w hw
  exact⟨_,rfl,ret_i rfl (by simp[cB,h,h2]),rfl⟩⟩
instance pc_number(a b:Int):PC Tryz.prog 99 [.int .i64 a,.int .i64 b] (.int .i64 (cI a b)):=⟨fun w=>by
 refine calls_of_W Tryz.func99 rfl rfl ?_
 repeat first|refine byW ?_|refine byV ?_;intro w hw
 refine W_cond rfl (fun h=>?_) (fun h=>?_)
 ·repeat first|refine byW ?_|refine byV ?_;intro w hw
  exact⟨_,rfl,ret_i rfl (by simp at h;simp[cI,h]),rfl⟩
 repeat first|refine byW ?_|refine byV ?_;intro w hw
 refine W_cond rfl (fun h2=>?_) (fun h2=>?_)
 ·repeat first|refine byW ?_|refine byV ?_;intro w hw
  exact⟨_,rfl,ret_i rfl (by simp at h h2;unfold cI;rw[if_neg (by omega),if_pos h2]),rfl⟩
 ·repeat first|refine byW ?_|refine byV ?_;intro w hw
  exact⟨_,rfl,ret_i rfl (by simp at h h2;unfold cI;rw[if_neg (by omega),if_neg (by omega)]),rfl⟩⟩
theorem orI_pos{x y:Int}(h:¬x=0):orI x y=x:=by unfold orI;rw[if_neg h]
theorem orI_null{x y:Int}(h:x=0):orI x y=y:=by unfold orI;rw[if_pos h]
theorem drop_none{α:Type}(l:List α){k:Nat}(h:l.length≤k):l.drop k=[]:=List.drop_eq_nil_of_le h
theorem drop_get{α:Type}{l:List α}{k:Nat}{x:α}(h:l[k]? = some x):l.drop k=x::l.drop (k+1):=by
 obtain⟨h1,h2⟩:=List.getElem?_eq_some_iff.1 h
 rw[←h2];exact List.drop_eq_getElem_cons h1
def orL:List Int→Int
 | []=>0
 | x::l=>orI x (orL l)
theorem orI_r(x:Int):orI x 0=x:=by unfold orI;split <;> simp[*]
theorem Or_any{Γ:Gho}{S:List Res}{w:World}{v:Value}(xs:List Int)(hw:Wd Γ S w)(hr:RdS Γ S v 1 (xs.map fun x=>[.int .i64 x])) :
  Calls Tryz.prog 89 #[v] w fun e w'=>e=.returned (.int .i64 (orL xs))∧Wd Γ S w':=by
 obtain⟨a,n,c,rfl,hn,hnc,hc⟩:=hr.shape;simp only[List.length_map]at hn
 refine calls_of_W Tryz.func89 rfl rfl ?_
 repeat first|refine byW ?_|refine byV ?_;intro w hw
 refine W_loop (fun μ ρ w=>∃(k:Nat),μ+k=n∧Has ρ [(3,.int .i64 0),(6,.slice a n c),(7,.int .i64 n),(8,.int .i64 k)]∧orL xs=orL (xs.drop k)∧Wd Γ S w) n ⟨0,by omega,⟨rfl,rfl,rfl,rfl,trivial⟩,rfl,hw⟩ ?_
 clear hw;rintro μ ρ w ⟨k,hk,hρ,ho,hw⟩
 rw[hρ.eq];repeat first|refine byW ?_|refine byV ?_;intro w hw
 refine W_cond rfl (fun h=>?_) (fun h=>?_)
 ·have hkn:k<n:=by simpa using h
  obtain⟨x,hx⟩:=get_lt (l:=xs) (k:=k) (by omega)
  have hd:xs.drop k=x::xs.drop (k+1):=by
   obtain⟨h1,h2⟩:=List.getElem?_eq_some_iff.1 hx
   rw[←h2];exact(List.drop_eq_getElem_cons h1)
  rw[hd]at ho;repeat first|refine byW ?_|refine byV ?_;intro w hw
  refine W_cond rfl (fun h2=>?_) (fun h2=>?_)
  ·repeat first|refine byW ?_|refine byV ?_;intro w hw
   have h2:¬x=0:=by simpa using h2
   refine⟨_,rfl,ret_i rfl ?_,hw⟩
   rw[ho];unfold orL orI;rw[if_neg h2]
  ·repeat first|refine byW ?_|refine byV ?_;intro w hw
   have h2:x=0:=by simpa using h2
   refine⟨μ-1,by omega,k+1,by omega,⟨rfl,rfl,rfl,rfl,trivial⟩,?_,hw⟩
   rw[ho];show orI x _=_;unfold orI;rw[if_pos h2]
 ·have hkn:¬k<n:=by simpa using h
  repeat first|refine byW ?_|refine byV ?_;intro w hw
  refine⟨_,rfl,ret_i rfl ?_,hw⟩
  rw[ho,List.drop_eq_nil_of_le (by omega)];rfl
end Go.Proofs.YtfoggcgogafocaaGreat
end
section
open Go
namespace Mk
section
variable {P:Program}{n:Nat}{opa:Array Oper}{Γ:Gho}{S:List Res}{QQ:Exit→Fr→World→Prop}{K:Value→World→Prop}{ρ:Fr}{w:World}{rest:List Oper}{sz:Nat}{rows:List (List Value)}
variable {d:Option Tmp}{T U ty:TypeId}{pos:String}{es:Array Edge}{g:Option (Nat×Bool)}{x y z:Operand}{v:Value}
theorem field_set{L r:List Value}{p f m sz N:Nat}(hp:p+sz≤N)(hN:N≤L.length)(hr:r.length=m)(hfm:f+m≤sz) :
  (L.take (p+f)++r++L.drop (p+f+r.length)).take N=(L.take N).take p++(((L.drop p).take sz).take f++r++((L.drop p).take sz).drop (f+m))++(L.take N).drop (p+sz):=by
 refine List.ext_getElem? fun i=>?_
 simp only[List.getElem?_append,List.getElem?_take,List.getElem?_drop,List.length_append,List.length_take,List.length_drop,hr]
 repeat' split
 all_goals first|omega|rfl|(congr 1;omega)|skip
theorem s_storeEf{E k f m i n c:Nat}{a:Option Addr}{v:Value}{r row:List Value}(hn:(P.info? T).map (·.size)=some m)(hw:Wd Γ S w)(hx:ev ρ x=.pointer (some ⟨aB a,aO a+k*sz+f,none⟩))(hy:ev ρ y=v)(hv:v.cells.toList=r)(hl:r.length=m)
  (h1:r.all (·.oneCell')=true) (hi:S[i]? = some (.own (.slice a n c) E sz rows)) (hkl:k<n) (hrow:rows[k]? = some row) (hfm:f+m≤sz) (hk:∀w',Wd Γ (S.set i (.own (.slice a n c) E sz (rows.set k (row.take f++r++row.drop (f+m))))) w'→K undef w'):Step P ⟨d,.store T x y,ty,pos,es,g⟩ ρ w K:=by
 obtain⟨bs0,hr0⟩:=hw.own_holds hi
 unfold Res.own at hr0;obtain⟨q0,a',n',c',e1,e2,e3,e4,e5⟩:=hr0;cases e1
 rcases e5 with⟨hc,_⟩|⟨b,cur,g1,g2,g3,g4,g5⟩
 ·omega
 ·subst g1;have hrl:row.length=sz:=q0 row (List.mem_of_getElem? hrow)
  have hnew:(row.take f++r++row.drop (f+m)).length=sz:=by simp[hl,hrl];omega
  have hx':ev ρ x=.pointer (some ⟨b,k*sz+f,none⟩):=by rw[hx];simp[aB,aO]
  have hks:k*sz+sz≤cur.size:=by
   rw[g4,show k*sz+sz=(k+1)*sz from by rw[Nat.add_mul];omega];exact Nat.mul_le_mul_right _ (by omega)
  have hfit:k*sz+f+0+r.length≤cur.size:=by rw[hl];omega
  have hst:=run_storeCells_at P b (k*sz+f) E r 0 cur w g3 hfit (fun u hu=>(List.all_eq_true.1 h1) u hu)
  simp only[Nat.add_zero]at hst
  have hsz:v.cells.size=m:=by rw[←hl,←hv];simp
  have hr:(execOp (ev ρ) ⟨d,.store T x y,ty,pos,es,g⟩).run P w=.ok .skip (w.setRow b (cur.toList.take (k*sz+f)++r++cur.toList.drop (k*sz+f+r.length)).toArray):=by
   cases hq:P.info? T with
   | none=>simp[hq]at hn
   | some q=>
    have hs:q.size=m:=by simpa[hq] using hn
    have hz:(Go.sizeOf T).run P w=.ok m w:=by simp[Go.sizeOf,typeInfo,hq,hs]
    have hsv:(storeVar T ⟨b,k*sz+f,none⟩ v).run P w=.ok () (w.setRow b (cur.toList.take (k*sz+f)++r++cur.toList.drop (k*sz+f+r.length)).toArray):=by
     unfold storeVar;rw[Sem.run_bind,hz];simp only[Result.andThen_ok,hsz,ne_eq,not_true_eq_false,if_false,hv]
     exact hst
    simp only[execOp,hx',hy,Instr.storeAt,Instr.sureAddr,Sem.run_bind,Sem.run_pure,Result.andThen_ok,hsv]
  have hfin:=hk _ (hw.upd hi (w':=w.setRow b (cur.toList.take (k*sz+f)++r++cur.toList.drop (k*sz+f+r.length)).toArray) ⟨rfl,rfl,rfl,(by first|exact Nat.le_refl _|exact Nat.le_succ _),by simp⟩ fun bs hr' hnd hlt=>by
   unfold Res.own at hr' ⊢
   obtain⟨q0',a2,n2,c2,f1,f2,f3,f4,f5⟩:=hr';cases f1
   rcases f5 with⟨hc,_⟩|⟨b2,cur2,k1,k2,k3,k4,k5⟩
   ·omega
   ·cases k1
    rw[show hp w b=some (.cells cur E (0,0)) from g3]at k3;cases k3
    refine⟨bs,⟨?_,_,_,_,rfl,by simpa using f2,f3,f4,.inr ⟨b,_,rfl,k2,setRow_heap w b cur _ E _ g3,?_,?_⟩⟩,hnd,fun x hx=>⟨by have:=hlt x hx;simpa using this,.inl hx⟩,fun k' _ hne=>setRow_other w b k' _ (fun e=>hne (by simp[k2,e]))⟩
    ·intro r' hr';rcases List.mem_or_eq_of_mem_set hr' with h|rfl
     ·exact q0 r' h
     ·exact hnew
    ·simp only[List.size_toArray,List.length_append,List.length_take,List.length_drop,Array.length_toList];omega
    ·have hkn:k*sz+sz≤n*sz:=by rw[show k*sz+sz=(k+1)*sz from by rw[Nat.add_mul];omega];exact Nat.mul_le_mul_right _ (by omega)
     have hns:n*sz≤cur.toList.length:=by rw[Array.length_toList,g4];exact Nat.mul_le_mul_right _ e3
     have e0:=rows_set_flatten (k:=k) (r:=row) q0 hrl (by omega)
     have e9:rows.set k row=rows:=by
      refine List.ext_getElem? fun i=>?_
      rw[List.getElem?_set];split
      ·rename_i h;subst h;rw[hrow];simp;omega
      ·rfl
     rw[e9]at e0;rw[rows_set_flatten q0 hnew (by omega),←g5]
     have hrw:row=(cur.toList.drop (k*sz)).take sz:=by
      have:row=((cur.toList.take (n*sz)).drop (k*sz)).take sz:=by
       rw[g5,e0,List.append_assoc,List.drop_append_of_le_length (by rw[List.length_take,←g5,List.length_take];omega)]
       have:((rows.flatten.take (k*sz)).drop (k*sz))=[]:=by rw[List.drop_eq_nil_iff,List.length_take];omega
       rw[this,List.nil_append,List.take_append_of_le_length (by omega),List.take_of_length_le (by omega)]
      rw[this,List.drop_take,List.take_take,Nat.min_eq_left (by omega)]
     rw[hrw];exact field_set hkn hns hl hfm
    )
  unfold Step;rw[hr];exact hfin
theorem lStoreEf{E k f i m mm c sz:Nat}{a:Option Addr}{r row:List Value}{rows:List (List Value)}[hn:TSz P T m](h:∀w',Wd Γ (S.set i (.own (.slice a mm c) E sz (rows.set k (row.take f++r++row.drop (f+m))))) w'→L P n opa QQ rest ρ w')(hrow:rows[k]? = some row)(hw:Wd Γ S w:=by exact hw)(hx:ev ρ x=.pointer (some ⟨aB a,aO a+k*sz+f,none⟩):=by exact rfl)
  (hy:ev ρ y=v:=by exact byMV) (hv:v.cells.toList=r:=by exact rfl) (hl:r.length=m:=by exact rfl) (h1:r.all (·.oneCell')=true:=by exact rfl) (hi:S[i]? = some (.own (.slice a mm c) E sz rows):=by exact byIX) (hk:k<mm:=by omega) (hfm:f+m≤sz:=by omega) :
  L P n opa QQ (⟨none,.store T x y,ty,pos,es,none⟩::rest) ρ w:=L_step rfl rfl (s_storeEf hn.h hw hx hy hv hl h1 hi hk hrow hfm h)
end
attribute [local irreducible] Calls
theorem W_cutT{P:Program}{n:Nat}{c:Code}{K:Fr→World→Prop}{Q:Exit→Fr→World→Prop}{ρ:Fr}{w:World}(I:Fr→World→Prop)(h1:W P n c (Then I Q) ρ w)(h2:∀ρ w,I ρ w→K ρ w):W P n c (Then K Q) ρ w:=
 h1.mono fun e ρ w h=>by
  cases e with
  | normal=>exact h2 ρ w h
  | _=>exact h
section
variable {P:Program}{n:Nat}{ops:List Oper}{Γ:Gho}{K:List Res}{wr tc stab:List (List Nat)}{Q:Fr→World→Prop}{i:Nat}{rest:List Oper}{ρ:Fr}{w:World}{M:Nat→Fr→List Res}{v:Value}{T T':Type}{o:Oper}
variable {ty:TypeId}{pos:String}{es:Array Edge}
theorem ml1{a b d:Fr→List Res}:ML [a,b,d] 1=b:=rfl
theorem ml2{a b d:Fr→List Res}:ML [a,b,d] 2=d:=rfl
theorem exC_open{φ:T→Fr→Prop}{R:T→List Res}{g:Fr}{Z:List Res}(h:Wd Γ (exC φ R g++Z) w):∃t,φ t g∧Wd Γ (R t++Z) w:=by
 obtain⟨⟨t,ht⟩,hw⟩:=Wd.openEx (S:=Z) h
 exact⟨t,ht,hw⟩
theorem exC_mk{φ:T→Fr→Prop}{R:T→List Res}{g:Fr}{Z:List Res}(t:T)(ht:φ t g)(h:Wd Γ (R t++Z) w):Wd Γ (exC φ R g++Z) w:=
 Wd.closeEx (X:=fun p:{t:T // φ t g}=>R p.1) ⟨t,ht⟩ h
theorem mM2{c c2:Nat}(m m2:Fr→List Res)(hs:∀Y w g,Wd Γ (K++(cellsAt tc stab i M g++Y)) w→Step P o (ovr stab.flatten g ρ) w fun u w'=>Wd Γ (K++(cellsAt tc stab i (setC (setC M c m) c2 m2) (putO g o.dst u)++Y)) w'∧(freeD stab o.dst=false→u=v))
  (h:MSw (mV P n ops Γ K wr tc stab) Q (i+1) rest ⟨putO ρ o.dst v,setC (setC M c m) c2 m2⟩) (hw0:wr.getD i []=[c,c2]) (hg:o.guard=none):MSw (mV P n ops Γ K wr tc stab) Q i (o::rest) ⟨ρ,M⟩:=by
 have hn:Mt.nxt (mV P n ops Γ K wr tc stab) i ⟨ρ,M⟩ ⟨v,setC (setC M c m) c2 m2⟩=setC (setC M c m) c2 m2:=by
  funext y
  simp only[Mt.nxt,MEnv.w,hw0]
  unfold setC;by_cases h1:y=c <;> by_cases h2:y=c2 <;> simp[h1,h2]
 refine⟨⟨v,setC (setC M c m) c2 m2⟩,⟨fun Γ' Y w g hr hw=>?_⟩,?_⟩
 ·have hΓ:Γ'=Γ:=hr
  subst hΓ;rw[hn];refine⟨fun _=>(hs Y w g hw).mono fun u w' ⟨h1,h2⟩=>⟨Γ',rfl,h1,h2⟩,fun hf=>?_⟩
  rw[wantF_none hg]at hf;cases hf
 ·simp only[Mt.next,hn];exact h
theorem mS{c:Nat}{F:Fr→List Res}(F':Fr→List Res)
  (hs:∀g w Y,Wd Γ (F (ovr (stab.getD c []) g noFr)++(K++Y)) w→Step P o (ovr stab.flatten g ρ) w fun u w'=>(freeD stab o.dst=false→u=v)∧Wd Γ (F' (ovr (stab.getD c []) (putO g o.dst u) noFr)++(K++Y)) w')
  (h:MSw (mV P n ops Γ K wr tc stab) Q (i+1) rest ⟨putO ρ o.dst v,setC M c F'⟩) (hM:M c=F:=by first|exact setC_self|exact ml1|exact ml2|exact((setC_other (by decide)).trans setC_self)|exact((setC_other (by decide)).trans ml2)|exact((setC_other (by decide)).trans ((setC_other (by decide)).trans ml2))|exact((setC_other (by decide)).trans ((setC_other (by decide)).trans ((setC_other (by decide)).trans ml2)))|exact((setC_other (by decide)).trans ((setC_other (by decide)).trans setC_self))|exact rfl) (hw0:wr.getD i []=[c]:=by exact rfl) (ht:tc.getD i []=[c]:=by exact rfl) (hg:o.guard=none:=by exact rfl) :
  MSw (mV P n ops Γ K wr tc stab) Q i (o::rest) ⟨ρ,M⟩:=by
 refine mM _ (fun Y w g hw=>?_) h hw0 hg
 rw[cells1 ht,hM]at hw;refine(hs g w Y hw.swapApp).mono ?_
 rintro u w' ⟨h2,h3⟩
 refine⟨?_,h2⟩
 rw[cells1 ht,setC_self];exact h3.swapApp
theorem mS2{c c2:Nat}{F G:Fr→List Res}(F' G':Fr→List Res)
  (hs:∀g w Y,Wd Γ (F (ovr (stab.getD c []) g noFr)++(G (ovr (stab.getD c2 []) g noFr)++(K++Y))) w→Step P o (ovr stab.flatten g ρ) w fun u w'=>(freeD stab o.dst=false→u=v)∧Wd Γ (F' (ovr (stab.getD c []) (putO g o.dst u) noFr)++(G' (ovr (stab.getD c2 []) (putO g o.dst u) noFr)++(K++Y))) w')
  (h:MSw (mV P n ops Γ K wr tc stab) Q (i+1) rest ⟨putO ρ o.dst v,setC (setC M c F') c2 G'⟩) (hM:M c=F:=by first|exact setC_self|exact ml1|exact ml2|exact((setC_other (by decide)).trans setC_self)|exact((setC_other (by decide)).trans ml2)|exact((setC_other (by decide)).trans ((setC_other (by decide)).trans ml2))|exact((setC_other (by decide)).trans ((setC_other (by decide)).trans ((setC_other (by decide)).trans ml2)))|exact((setC_other (by decide)).trans ((setC_other (by decide)).trans setC_self))|exact rfl) (hM2:M c2=G:=by first|exact setC_self|exact ml1|exact ml2|exact((setC_other (by decide)).trans setC_self)|exact((setC_other (by decide)).trans ml2)|exact((setC_other (by decide)).trans ((setC_other (by decide)).trans ml2))|exact((setC_other (by decide)).trans ((setC_other (by decide)).trans ((setC_other (by decide)).trans ml2)))|exact((setC_other (by decide)).trans ((setC_other (by decide)).trans setC_self))|exact rfl) (hw0:wr.getD i []=[c,c2]:=by exact rfl) (ht:tc.getD i []=[c,c2]:=by exact rfl) (hcc:Nat.beq c c2=false:=by exact rfl) (hg:o.guard=none:=by exact rfl) :
  MSw (mV P n ops Γ K wr tc stab) Q i (o::rest) ⟨ρ,M⟩:=by
 have hne:c≠c2:=fun e=>by subst e;simp at hcc
 refine mM2 _ _ (fun Y w g hw=>?_) h hw0 hg
 rw[cells2 ht,hM,hM2]at hw;have hw1:=(hw.perm (by rw[List.append_assoc];exact(List.perm_append_comm_assoc _ _ _).trans (List.Perm.append_left _ (List.perm_append_comm_assoc _ _ _)))  : Wd Γ (F (ovr (stab.getD c []) g noFr)++(G (ovr (stab.getD c2 []) g noFr)++(K++Y))) w)
 refine(hs g w Y hw1).mono ?_
 rintro u w' ⟨h2,h3⟩
 refine⟨?_,h2⟩
 rw[cells2 ht,setC_self,setC_other hne,setC_self];exact h3.perm (by rw[List.append_assoc];exact((List.perm_append_comm_assoc _ _ _).trans (List.Perm.append_left _ (List.perm_append_comm_assoc _ _ _))).symm)
theorem mBuildX{c dd E by' len sz:Nat}{zs:List Value}{parts:Array (Nat×Operand)}{TT:TypeId}{φ:T→Fr→Prop}{R:T→List Res}(rws:T→List (List Value))[TL P TT E sz by' zs]
  (h:MSw (mV P n ops Γ K wr tc stab) Q (i+1) rest ⟨putO ρ (some dd) undef,setC M c (exC (fun (p:T×Addr) g=>φ p.1 g∧g dd=.slice (some p.2) len len) fun p=>.own (.slice (some p.2) len len) E sz (rws p.1)::R p.1)⟩)
  (hf:∀t g,φ t (ovr (stab.getD c []) g noFr)→fillL (fun i=>some (i*sz,sz)) ((List.range (len*sz)).map fun i=>zs.getD (i%sz) undef) (parts.toList.map fun p=>(p.1,ev (ovr stab.flatten g ρ) p.2))=some (rws t).flatten)
  (hw0:wr.getD i []=[c]:=by exact rfl) (ht:tc.getD i []=[c]:=by exact rfl) (hM:M c=exC φ R:=by first|exact setC_self|exact ml1|exact ml2|exact((setC_other (by decide)).trans setC_self)|exact((setC_other (by decide)).trans ml2)|exact((setC_other (by decide)).trans ((setC_other (by decide)).trans ml2))|exact((setC_other (by decide)).trans ((setC_other (by decide)).trans ((setC_other (by decide)).trans ml2)))|exact((setC_other (by decide)).trans ((setC_other (by decide)).trans setC_self))|exact rfl) (hφ:∀t g u,φ t (ovr (stab.getD c []) g noFr)→φ t (ovr (stab.getD c []) (putO g (some dd) u) noFr):=by intro t g u h;exact h)
  (hlen:∀t,(rws t).length=len:=by intro t;rfl) (hr:∀t,(rws t).all (fun r=>Nat.beq r.length sz)=true:=by intro t;rfl) (hbig:Nat.ble (len*sz) 16777216=true:=by exact rfl)
  (hs:(stab.getD c []).contains dd=true:=by exact rfl) (hfr:freeD stab (some dd)=true:=by exact rfl) :
  MSw (mV P n ops Γ K wr tc stab) Q i (⟨some dd,.buildSlice TT len parts,ty,pos,es,none⟩::rest) ⟨ρ,M⟩:=
 mS (v:=undef) (exC (fun (p:T×Addr) g=>φ p.1 g∧g dd=.slice (some p.2) len len) fun p=>.own (.slice (some p.2) len len) E sz (rws p.1)::R p.1) (fun g w Y hw=>by
  obtain⟨t,h1,hw⟩:=exC_open hw
  refine s_buildSlice (rws:=rws t) hw (hf t g h1) rfl (hlen t) (fun r hm=>Nat.eq_of_beq_eq_true ((List.all_eq_true.1 (hr t)) r hm)) (Nat.le_of_ble_eq_true hbig) fun a w' hw'=>⟨fun hh=>(by rw[hfr]at hh;cases hh),exC_mk (t,a) ⟨hφ t g _ h1,?_⟩ hw'⟩
  rw[ovr_in (by simpa using hs)];exact upd_same _ _ _) h hM hw0 ht rfl
theorem mPureX{c dd:Nat}{op:Op}{φ:T→Fr→Prop}{R:T→List Res}(u:T→Value)
  (hy:∀t g w Y,φ t (ovr (stab.getD c []) g noFr)→Wd Γ (R t++(K++Y)) w→Yields P ⟨some dd,op,ty,pos,es,none⟩ (ovr stab.flatten g ρ) w (u t))
  (h:MSw (mV P n ops Γ K wr tc stab) Q (i+1) rest ⟨putO ρ (some dd) undef,setC M c (exC (fun t g=>φ t g∧g dd=u t) R)⟩)
  (hw0:wr.getD i []=[c]:=by exact rfl) (ht:tc.getD i []=[c]:=by exact rfl) (hM:M c=exC φ R:=by first|exact setC_self|exact ml1|exact ml2|exact((setC_other (by decide)).trans setC_self)|exact((setC_other (by decide)).trans ml2)|exact((setC_other (by decide)).trans ((setC_other (by decide)).trans ml2))|exact((setC_other (by decide)).trans ((setC_other (by decide)).trans ((setC_other (by decide)).trans ml2)))|exact((setC_other (by decide)).trans ((setC_other (by decide)).trans setC_self))|exact rfl) (hφ:∀t g u,φ t (ovr (stab.getD c []) g noFr)→φ t (ovr (stab.getD c []) (putO g (some dd) u) noFr):=by intro t g u h;exact h)
  (hs:(stab.getD c []).contains dd=true:=by exact rfl) (hfr:freeD stab (some dd)=true:=by exact rfl) :
  MSw (mV P n ops Γ K wr tc stab) Q i (⟨some dd,op,ty,pos,es,none⟩::rest) ⟨ρ,M⟩:=
 mS (v:=undef) (exC (fun t g=>φ t g∧g dd=u t) R) (fun g w Y hw=>by
  obtain⟨t,h1,hw⟩:=exC_open hw
  refine(hy t g w Y h1 hw).step ⟨fun hh=>(by rw[hfr]at hh;cases hh),exC_mk t ⟨hφ t g _ h1,?_⟩ hw⟩
  rw[ovr_in (by simpa using hs)];exact upd_same _ _ _) h hM hw0 ht rfl
theorem mAppX{c dd j j2 E by' sz m cc m2 c2:Nat}{zs:List Value}{a:Option Addr}{rows:List (List Value)}{TT:TypeId}{x y:Operand}{φ:T→Fr→Prop}{R:T→List Res}(a2:T→Option Addr)(rows2:T→List (List Value))[TL P TT E sz by' zs]
  (h:MSw (mV P n ops Γ K wr tc stab) Q (i+1) rest ⟨putO ρ (some dd) undef,setC M c (exC (fun (p:T×Value) g=>φ p.1 g∧g dd=p.2) fun p=>(R p.1).set j (.own p.2 E sz (rows++rows2 p.1)))⟩)
  (hy:∀t g,φ t (ovr (stab.getD c []) g noFr)→ev (ovr stab.flatten g ρ) y=.slice (a2 t) m2 c2) (hw0:wr.getD i []=[c]:=by exact rfl) (ht:tc.getD i []=[c]:=by exact rfl) (hM:M c=exC φ R:=by first|exact setC_self|exact ml1|exact ml2|exact((setC_other (by decide)).trans setC_self)|exact((setC_other (by decide)).trans ml2)|exact((setC_other (by decide)).trans ((setC_other (by decide)).trans ml2))|exact((setC_other (by decide)).trans ((setC_other (by decide)).trans ((setC_other (by decide)).trans ml2)))|exact((setC_other (by decide)).trans ((setC_other (by decide)).trans setC_self))|exact rfl) (hj:∀t,(R t)[j]? = some (.own (.slice a m cc) E sz rows):=by intro t;exact rfl) (hj2:∀t,(R t)[j2]? = some (.own (.slice (a2 t) m2 c2) E sz (rows2 t)):=by intro t;exact rfl)
  (h1:∀t,(rows2 t).flatten.all (·.oneCell')=true:=by intro t;rfl) (hx:∀g,ev (ovr stab.flatten g ρ) x=.slice a m cc:=by intro g;exact rfl)
  (hφ:∀t g u,φ t (ovr (stab.getD c []) g noFr)→φ t (ovr (stab.getD c []) (putO g (some dd) u) noFr):=by intro t g u h;exact h)
  (hb:(m+m2)*by'≤140737488355328:=by omega) (h63:m+m2≤9223372036854775807:=by omega) (hl2:∀t,m2=(rows2 t).length:=by intro t;rfl)
  (hs:(stab.getD c []).contains dd=true:=by exact rfl) (hfr:freeD stab (some dd)=true:=by exact rfl) :
  MSw (mV P n ops Γ K wr tc stab) Q i (⟨some dd,.call { callee:=.builtin .append,args:=#[x,y],argTypes:=#[TT,TT] },ty,pos,es,none⟩::rest) ⟨ρ,M⟩:=
 mS (v:=undef) (exC (fun (p:T×Value) g=>φ p.1 g∧g dd=p.2) fun p=>(R p.1).set j (.own p.2 E sz (rows++rows2 p.1))) (fun g w Y hw=>by
  obtain⟨t,ht1,hw⟩:=exC_open hw
  have hjl:j<(R t).length:=(List.getElem?_eq_some_iff.1 (hj t)).1
  have hjl2:j2<(R t).length:=(List.getElem?_eq_some_iff.1 (hj2 t)).1
  have hi:(R t++(K++Y))[j]? = some (.own (.slice a m cc) E sz rows):=by rw[List.getElem?_append_left hjl];exact hj t
  have hi2:(R t++(K++Y))[j2]? = some (.own (.slice (a2 t) m2 c2) E sz (rows2 t)):=by rw[List.getElem?_append_left hjl2];exact hj2 t
  refine s_append hw (hx g) (hy t g ht1) hi (hw.own_rd hi2) (hl2 t) (fun u hu=>(List.all_eq_true.1 (h1 t)) u hu) hb h63 fun v' w' hw'=>⟨fun hh=>(by rw[hfr]at hh;cases hh),exC_mk (t,v') ⟨hφ t g _ ht1,?_⟩ ?_⟩
  ·rw[ovr_in (by simpa using hs)];exact upd_same _ _ _
  ·rw[List.set_append_left _ _ hjl]at hw';exact hw') h hM hw0 ht rfl
theorem mJoinX{c0 c b ob dv j:Nat}{cs:Array Value}{E E2 sz2:Nat}{TT:TypeId}{x:Operand}{φ:T→Fr→Prop}{R:T→List Res}{val:T→Value}{rows:T→List (List Value)}[hn:TSz P TT 1]
  (h:MSw (mV P n ops Γ K wr tc stab) Q (i+1) rest ⟨ρ,setC (setC M c0 fun _=>[]) c (exC φ fun t=>.blk b (.cells (putCells cs ob [val t]) E)::R t)⟩)
  (hv:∀t g,φ t (ovr (stab.getD c []) g noFr)→ev (ovr stab.flatten g ρ) (.tmp dv)=val t) (hw0:wr.getD i []=[c0,c]:=by exact rfl) (ht:tc.getD i []=[c0,c]:=by exact rfl) (hcc:Nat.beq c0 c=false:=by exact rfl) (hM2:M c=exC φ R:=by first|exact setC_self|exact ml1|exact ml2|exact((setC_other (by decide)).trans setC_self)|exact((setC_other (by decide)).trans ml2)|exact((setC_other (by decide)).trans ((setC_other (by decide)).trans ml2))|exact((setC_other (by decide)).trans ((setC_other (by decide)).trans ((setC_other (by decide)).trans ml2)))|exact((setC_other (by decide)).trans ((setC_other (by decide)).trans setC_self))|exact rfl) (hj:∀t,(R t)[j]? = some (.own (val t) E2 sz2 (rows t)):=by intro t;exact rfl) (hx:∀g,ev (ovr stab.flatten g ρ) x=.pointer (some ⟨b,ob,none⟩):=by intro g;exact rfl)
  (hM:M c0=(fun _=>[.blk b (.cells cs E)]):=by exact rfl) (ho:ob+1≤cs.size:=by exact Nat.le_of_ble_eq_true rfl) :
  MSw (mV P n ops Γ K wr tc stab) Q i (⟨none,.store TT x (.tmp dv),ty,pos,es,none⟩::rest) ⟨ρ,M⟩:=
 mS2 (v:=undef) (fun _=>[]) (exC φ fun t=>.blk b (.cells (putCells cs ob [val t]) E)::R t) (fun g w Y hw=>by
  have hw2:Wd Γ (exC φ R (ovr (stab.getD c []) g noFr)++(.blk b (.cells cs E)::(K++Y))) w:=hw.perm (List.perm_append_comm_assoc _ _ _)
  obtain⟨t,ht1,hw⟩:=exC_open hw2
  have hw:Wd Γ (.blk b (.cells cs E)::(R t++(K++Y))) w:=hw.perm List.perm_middle
  have hjl:j<(R t).length:=(List.getElem?_eq_some_iff.1 (hj t)).1
  obtain⟨q1,q2,q3,e1,-,-,-⟩:=hw.own_shape (i:=j+1) (v:=val t) (e:=E2) (sz:=sz2) (rows:=rows t) (by rw[List.getElem?_cons_succ,List.getElem?_append_left hjl];exact hj t)
  refine s_store hn.h hw (hx g) (hv t g ht1) (vs:=[val t]) (by rw[e1];rfl) rfl (fun u hu=>by simp at hu;subst hu;rw[e1];rfl) (i:=0) rfl ho fun w' hw'=>⟨fun _=>rfl,?_⟩
  exact exC_mk (R:=fun t=>.blk b (.cells (putCells cs ob [val t]) E)::R t) t ht1 hw') h hM hM2 hw0 ht hcc rfl
theorem W_mixD{id:Nat}{l:List Oper}{QQ:Exit→Fr→World→Prop}(K X0 X1 X2:List Res)(N1 N2:List Nat)(wr tc:List (List Nat))(hw:Wd Γ (K++(X0++(X1++X2))) w)
  (h:MSw (mV P n l Γ K wr tc [[],N1,N2]) (fun ρ w=>QQ .normal ρ w) 0 l ⟨ρ,ML [fun _=>X0,exC (T:=Unit) (fun _ _=>True) (fun _=>X1),exC (T:=Unit) (fun _ _=>True) (fun _=>X2)]⟩)
  (hm:P.follows .mixedOrders=true:=by kernel_rfl) (hk:checkM n l wr tc [[],N1,N2]=true:=by kernel_rfl):W P n (.region id l.toArray true) QQ ρ w:=
 W_mixed K [fun _=>X0,exC (T:=Unit) (fun _ _=>True) (fun _=>X1),exC (T:=Unit) (fun _ _=>True) (fun _=>X2)] wr tc [[],N1,N2] (by
  show Wd Γ (K++(X0++(exC (T:=Unit) (fun _ _=>True) (fun _=>X1) (ovr N1 ρ noFr)++(exC (T:=Unit) (fun _ _=>True) (fun _=>X2) (ovr N2 ρ noFr)++[])))) w
  rw[List.append_nil];have h1:Wd Γ (X1++(X2++(K++X0))) w:=hw.perm (by
   rw[←List.append_assoc,←List.append_assoc X1];exact List.perm_append_comm)
  have h2:Wd Γ (exC (T:=Unit) (fun _ _=>True) (fun _=>X1) (ovr N1 ρ noFr)++(X2++(K++X0))) w:=exC_mk () trivial h1
  have h3:Wd Γ (X2++(exC (T:=Unit) (fun _ _=>True) (fun _=>X1) (ovr N1 ρ noFr)++(K++X0))) w:=h2.perm (List.perm_append_comm_assoc _ _ _)
  have h4:Wd Γ (exC (T:=Unit) (fun _ _=>True) (fun _=>X2) (ovr N2 ρ noFr)++(exC (T:=Unit) (fun _ _=>True) (fun _=>X1) (ovr N1 ρ noFr)++(K++X0))) w:=exC_mk () trivial h3
  have h5:Wd Γ (exC (T:=Unit) (fun _ _=>True) (fun _=>X1) (ovr N1 ρ noFr)++(exC (T:=Unit) (fun _ _=>True) (fun _=>X2) (ovr N2 ρ noFr)++(K++X0))) w:=h4.perm (List.perm_append_comm_assoc _ _ _)
  exact h5.perm (by
   rw[←List.append_assoc,←List.append_assoc K];exact List.perm_append_comm)) h hm hk
theorem mEndD{N1 N2:List Nat}{φ:T→Fr→Prop}{R:T→List Res}(h:∀t w g,φ t (ovr N1 g noFr)→Wd Γ (R t++K) w→Q (ovr [[],N1,N2].flatten g ρ) w)(hM0:M 0=fun _=>[]:=by exact rfl)(hM:M 1=exC φ R:=by first|exact setC_self|exact ml1|exact ml2|exact((setC_other (by decide)).trans setC_self)|exact((setC_other (by decide)).trans ml2)|exact((setC_other (by decide)).trans ((setC_other (by decide)).trans ml2))|exact((setC_other (by decide)).trans ((setC_other (by decide)).trans ((setC_other (by decide)).trans ml2)))|exact((setC_other (by decide)).trans ((setC_other (by decide)).trans setC_self))|exact rfl):MSw (mV P n ops Γ K wr tc [[],N1,N2]) Q i [] ⟨ρ,M⟩:=
 mEnd fun w g hw=>by
  have hw1:Wd Γ (K++(M 0 (ovr [] g noFr)++(M 1 (ovr N1 g noFr)++(M 2 (ovr N2 g noFr)++[])))) w:=hw
  rw[hM0,hM,List.nil_append]at hw1;have hw2:Wd Γ (exC φ R (ovr N1 g noFr)++(K++(M 2 (ovr N2 g noFr)++[]))) w:=hw1.swapApp
  obtain⟨t,ht,hw3⟩:=exC_open hw2
  exact h t w g ht (Wd.left (S:=R t++K) (by rw[List.append_assoc];exact hw3))
end
class PS(P:Program)(Γ:Gho)(S:List Res)(f:Nat)(args:List Value)(v:outParam Value):Prop where
 h:∀Y w,Wd Γ (S++Y) w→Calls P f args.toArray w fun e w'=>e=.returned v∧Wd Γ (S++Y) w'
section
variable {P:Program}{n:Nat}{ops:List Oper}{opa:Array Oper}{Γ:Gho}{S K:List Res}{Q:Fr→World→Prop}{QQ:Exit→Fr→World→Prop}{ρ:Fr}{w:World}{rest:List Oper}{wr tc stab:List (List Nat)}{i:Nat}{M:Nat→Fr→List Res}
variable {d:Option Tmp}{ty:TypeId}{pos:String}{es:Array Edge}{v:Value}{f:Nat}{args:List Operand}{tys:Array TypeId}{vs:List Value}{j dj:Nat}{want c:Bool}{g:Option (Nat×Bool)}
theorem s_ps{Y:List Res}[FnOk P f](hp:PS P Γ S f vs v)(ha:EvL ρ args vs)(hw:Wd Γ (S++Y) w):Step P ⟨d,.call { callee:=.value (.func f),args:=args.toArray,argTypes:=tys },ty,pos,es,g⟩ ρ w fun u w'=>u=v∧Wd Γ (S++Y) w':=
 s_call ha.eqA ((hp.h Y w hw).mono fun _ _ ⟨h1,h2⟩=>⟨v,h1,rfl,h2⟩)
theorem qPs[FnOk P f](h:Qw P n ops Γ S Q rest (putO ρ d v))(ha:EvL ρ args vs:=by exact byEV)(hp:PS P Γ S f vs v:=by infer_instance) :
  Qw P n ops Γ S Q (⟨d,.call { callee:=.value (.func f),args:=args.toArray,argTypes:=tys },ty,pos,es,none⟩::rest) ρ:=
 Q_c rfl rfl (fun _ _ hw=>s_ps hp ha hw) h
theorem qPsG[FnOk P f](h:Qw P n ops Γ S Q rest (putO ρ d (gv c v)))(hj:(ops[j]?).bind (·.dst)=some dj:=by exact rfl)(hc:GuardIs (ρ dj) want c:=by exact byGC)(ha:c=true→EvL ρ args vs:=by intro hc;exact byEVG)(hp:PS P Γ S f vs v:=by infer_instance) :
  Qw P n ops Γ S Q (⟨d,.call { callee:=.value (.func f),args:=args.toArray,argTypes:=tys },ty,pos,es,some (j,want)⟩::rest) ρ:=
 Q_gc rfl hj hc rfl (fun ht _ _ hw=>s_ps hp (ha ht) hw) h
end
theorem made_rows{zs:List Value}{sz:Nat}(hz:zs.length=sz)(h0:0<sz):∀n:Nat,(madeCells zs.toArray (n*sz)).toList=(List.replicate n zs).flatten:=fun n=>by
 unfold madeCells;simp only[Array.toList_map,Array.toList_range,List.size_toArray,hz]
 have hf:∀i:Nat,zs.toArray[i%sz]! = zs.getD (i%sz) undef:=fun i=>by
  have hlt:i%sz<zs.length:=by rw[hz];exact Nat.mod_lt _ h0
  rw[getElem!_pos (zs.toArray) _ (by simpa using hlt)]
  simp[List.getD_eq_getElem?_getD,List.getElem?_eq_getElem hlt]
 simp only[hf]
 induction n with
 | zero=>simp
 | succ n ih=>
  rw[show (n+1)*sz=sz+n*sz from by rw[Nat.add_mul];omega,List.range_add,List.map_append,List.map_map,List.replicate_succ,List.flatten_cons,←ih]
  congr 1
  ·refine List.ext_getElem? fun i=>?_
   rw[List.getElem?_map];by_cases hi:i<sz
   ·rw[List.getElem?_range hi];simp only[Option.map_some,Nat.mod_eq_of_lt hi]
    rw[List.getD_eq_getElem?_getD,List.getElem?_eq_getElem (by omega)];rfl
   ·rw[List.getElem?_eq_none (by simpa using hi),List.getElem?_eq_none (by omega)];rfl
  ·refine List.map_congr_left fun i _=>?_
   simp
section
variable {P:Program}{n:Nat}{opa:Array Oper}{Γ:Gho}{S:List Res}{QQ:Exit→Fr→World→Prop}{ρ:Fr}{w:World}{rest:List Oper}{K:Value→World→Prop}
variable {d:Option Tmp}{T ty:TypeId}{pos:String}{es:Array Edge}{g:Option (Nat×Bool)}{x y:Operand}
theorem s_makeSlice{E by' len sz:Nat}{zs:List Value}[hT:TL P T E sz by' zs](hw:Wd Γ S w)(hx:ev ρ x=.int .i64 (len:Nat))(hy:ev ρ y=.int .i64 (len:Nat))(hb:(by':Int)*len≤281474976710656)(h63:(len:Int)≤9223372036854775807)
  (hk:∀a w',Wd Γ (.own (.slice (some a) len len) E sz (List.replicate len zs)::S) w'→K (.slice (some a) len len) w'):Step P ⟨d,.makeSlice T x y,ty,pos,es,g⟩ ρ w K:=by
 obtain⟨q,z,hq,hz,hzc⟩:=zeroOf_info hT.z
 obtain⟨q',hq',hs,hb'⟩:=sizeBytes_info hT.s
 rw[hq]at hq';cases hq'
 have hrun:=run_make (P:=P) w T E q z hT.h hq hz .i64 .i64 (len:Int) (len:Int) (by omega) (Int.le_refl _) (by rw[hb'];exact hb) h63
 rw[hzc,hs]at hrun;have hr0:(execOp (ev ρ) ⟨d,.makeSlice T x y,ty,pos,es,g⟩).run P w=.ok (.value (.slice (some ⟨w.heap.size,0,none⟩) len len)) (w.alloc (.cells (madeCells zs.toArray (len*sz)) E)):=by
  simp only[execOp,hx,hy,Sem.run_bind,hrun,Result.andThen_ok,Int.toNat_natCast]
  rfl
 have hrows:=made_rows hT.n.1 hT.n.2 len
 have hfin:=hk ⟨w.heap.size,0,none⟩ (w.alloc (.cells (madeCells zs.toArray (len*sz)) E)) (hw.add (bs:=[w.heap.size]) ⟨rfl,rfl,rfl,(by first|exact Nat.le_refl _|exact Nat.le_succ _),by simp⟩ (by
  unfold Res.own;refine⟨fun r hr=>by rw[List.eq_of_mem_replicate hr];exact hT.n.1,_,_,_,rfl,(by simp),Nat.le_refl _,by simp[maxLen];omega,.inr ⟨w.heap.size,madeCells zs.toArray (len*sz),rfl,rfl,heap_alloc_new w _,size_madeCells _ _,?_⟩⟩
  rw[hrows,List.take_of_length_le];rw[←hrows,Array.length_toList,size_madeCells];exact Nat.le_refl _) (by simp) (by simp) fun k hk=>heap_alloc_old w _ hk)
 unfold Step;rw[hr0];exact hfin
theorem lMakeSlice{E by' len sz:Nat}{zs:List Value}[hT:TL P T E sz by' zs](h:∀a w',Wd Γ (.own (.slice (some a) len len) E sz (List.replicate len zs)::S) w'→L P n opa QQ rest (putO ρ d (.slice (some a) len len)) w')
  (hw:Wd Γ S w:=by exact hw) (hx:ev ρ x=.int .i64 (len:Nat):=by exact rfl) (hy:ev ρ y=.int .i64 (len:Nat):=by exact rfl) (hb:(by':Int)*len≤281474976710656:=by omega) (h63:(len:Int)≤9223372036854775807:=by omega) (hd:okDst n d=true:=by exact rfl) :
  L P n opa QQ (⟨d,.makeSlice T x y,ty,pos,es,none⟩::rest) ρ w:=L_step rfl hd (s_makeSlice hw hx hy hb h63 h)
end
end Mk
end
section
open Go Mk
namespace Go.Proofs.YtfoggcgogafocaaGreat
set_option maxHeartbeats 4000000
attribute [local irreducible] Calls cI cB
instance pg_cmpV(Γ:Gho)(a b:Val):PG Tryz.prog Γ 97 [.agg (enc a).toArray,.agg (enc b).toArray] (.int .i64 (cV a b)):=⟨fun S w hw=>by
 refine calls_of_W Tryz.func97 rfl rfl ?_
 repeat first|refine byW ?_|refine byV ?_;intro w hw
 refine lBox ?_;intro b1 w hw;refine lBox ?_;intro b2 w hw;have hw:Wd Γ (.blk b2 (.cells (enc b).toArray 41)::.blk b1 (.cells (enc a).toArray 41)::S) w:=hw
 repeat first|refine byW ?_|refine byV ?_;intro w hw
 refine W_cond rfl (fun h=>?_) (fun h=>?_)
 ·repeat first|refine byW ?_|refine byV ?_;intro w hw
  exact⟨_,rfl,ret_i rfl (by have h:=of_decide_eq_true h;subst h;rw[cV_ord.refl]),hw.drop.drop⟩
 ·repeat first|refine byW ?_|refine byV ?_;intro w hw
  refine W_mixC [.blk b2 _,.blk b1 _] S [23] [[],[],[],[],[],[],[],[],[],[],[],[],[],[],[],[0],[0],[]] hw ?_
  refine byM ?_;refine mStepX (v:=undef) (T':=Value) (fun t g=>g 23=t) (fun t=>.own t 3 1 ([cI a.Kind b.Kind,cI a.Num b.Num,cB a.Word b.Word].map fun x=>[.int .i64 x])::S) (fun t g w Y _ hw=>s_buildSlice (rws:=[cI a.Kind b.Kind,cI a.Num b.Num,cB a.Word b.Word].map fun x=>[.int .i64 x]) hw rfl rfl rfl (by simp) (by decide) fun q w' hw'=>⟨_,rfl,(fun h=>by cases h),hw'⟩) ?_
  refine mCallX (φ:=fun (t:Value) g=>g 23=t) (v:=.int .i64 (cV a b)) (T':=Value) (fun _ _=>True) (fun t=>.own t 3 1 ([cI a.Kind b.Kind,cI a.Num b.Num,cB a.Word b.Word].map fun x=>[.int .i64 x])::S) (fun t _=>[t]) (fun t g w Y ht hw=>?_) ?_ (ha:=fun t g ht=>EvL.cons ht EvL.nil)
  ·refine(Or_any _ hw (RdS.own (i:=0) hw rfl)).mono ?_
   rintro e w ⟨rfl,hw⟩
   refine⟨_,rfl,t,trivial,fun _=>?_,hw⟩
   unfold cV orL orL orL orL;rw[orI_r]
  refine byM ?_;refine mEndX fun t w g _ hw=>?_
  repeat first|refine byW ?_|refine byV ?_;intro w hw
  exact⟨_,rfl,rfl,hw.drop.left⟩⟩
theorem CompareFunc_any{Γ:Gho}{va vb:Value}{xs ys:List Val}(ha:RepS Γ va 3 (xs.map enc))(hb:RepS Γ vb 3 (ys.map enc)) :
  PG Tryz.prog Γ 82 [va,vb,.func (.func 97) #[] #[]] (.int .i64 (cL cV xs ys)):=⟨fun S w hw=>by
 obtain⟨a,n,c,rfl,hn,hnc,hc⟩:=ha.shape;obtain⟨a2,n2,c2,rfl,hn2,hnc2,hc2⟩:=hb.shape;simp only[List.length_map]at hn hn2
 refine calls_of_W Tryz.func82 rfl rfl ?_
 repeat first|refine byW ?_|refine byV ?_;intro w hw
 refine W_loop (fun μ ρ w=>∃(k:Nat),μ+k=n∧Has ρ [(0,.slice a n c),(1,.slice a2 n2 c2),(2,.func (.func 97) #[] #[]),(11,.slice a n c),(12,.int .i64 n),(13,.int .i64 k)]∧cL cV xs ys=cL cV (xs.drop k) (ys.drop k)∧Wd Γ S w) n ⟨0,by omega,⟨rfl,rfl,rfl,rfl,rfl,rfl,trivial⟩,rfl,hw⟩ ?_
 clear hw;rintro μ ρ w ⟨k,hk,hρ,ho,hw⟩
 rw[hρ.eq];repeat first|refine byW ?_|refine byV ?_;intro w hw
 refine W_cond rfl (fun h=>?_) (fun h=>?_)
 ·have hkn:k<n:=by simpa using h
  obtain⟨x,hx⟩:=get_lt (l:=xs) (k:=k) (by omega)
  have hd:xs.drop k=x::xs.drop (k+1):=drop_get hx
  rw[hd]at ho;repeat first|refine byW ?_|refine byV ?_;intro w hw
  refine lAlloc ?_;intro b8 w hw;repeat first|refine byW ?_|refine byV ?_;intro w hw
  refine lStore ?_;intro w hw;have hw:Wd Γ (.blk b8 (.cells (enc x).toArray 41)::S) w:=hw
  repeat first|refine byW ?_|refine byV ?_;intro w hw
  refine W_cond rfl (fun h2=>?_) (fun h2=>?_)
  ·repeat first|refine byW ?_|refine byV ?_;intro w hw
   have h2:n2≤k:=by simpa using h2
   refine⟨_,rfl,ret_i rfl ?_,hw.drop⟩
   rw[ho,drop_none ys (by omega)];rfl
  ·have h2:k<n2:=by simpa using h2
   obtain⟨y,hy⟩:=get_lt (l:=ys) (k:=k) (by omega)
   rw[drop_get hy]at ho;have ho:cL cV xs ys=orI (cV x y) (cL cV (xs.drop (k+1)) (ys.drop (k+1))):=ho
   repeat first|refine byW ?_|refine byV ?_;intro w hw
   refine lAlloc ?_;intro b9 w hw;refine lStore ?_;intro w hw;have hw:Wd Γ (.blk b9 (.cells (enc y).toArray 41)::.blk b8 (.cells (enc x).toArray 41)::S) w:=hw
   repeat first|refine byW ?_|refine byV ?_;intro w hw
   refine lCallv (fst:=[]) (cap:=[]) ?_
   refine((pg_cmpV Γ x y).h _ _ hw).mono ?_
   rintro e w ⟨rfl,hw⟩
   refine⟨_,rfl,?_⟩;repeat first|refine byW ?_|refine byV ?_;intro w hw
   refine W_cond rfl (fun h3=>?_) (fun h3=>?_)
   ·repeat first|refine byW ?_|refine byV ?_;intro w hw
    have h3:¬cV x y=0:=by simpa using h3
    refine⟨_,rfl,ret_i rfl ?_,hw.drop.drop⟩
    rw[ho,orI_pos h3]
   ·repeat first|refine byW ?_|refine byV ?_;intro w hw
    have h3:cV x y=0:=by simpa using h3
    refine⟨μ-1,by omega,k+1,by omega,⟨rfl,rfl,rfl,rfl,rfl,rfl,trivial⟩,?_,hw.drop.drop⟩
    rw[ho,orI_null h3]
 ·have hkn:¬k<n:=by simpa using h
  rw[drop_none xs (by omega)]at ho
  repeat first|refine byW ?_|refine byV ?_;intro w hw
  refine W_cond rfl (fun h2=>?_) (fun h2=>?_)
  ·repeat first|refine byW ?_|refine byV ?_;intro w hw
   have h2:n<n2:=by simpa using h2
   obtain⟨y,hy⟩:=get_lt (l:=ys) (k:=k) (by omega)
   rw[drop_get hy]at ho;exact⟨_,rfl,ret_i rfl (by rw[ho];rfl),hw⟩
  ·repeat first|refine byW ?_|refine byV ?_;intro w hw
   have h2:¬n<n2:=by simpa using h2
   rw[drop_none ys (by omega)]at ho
   exact⟨_,rfl,ret_i rfl (by rw[ho];rfl),hw⟩⟩
theorem pg_cmpF{Γ:Gho}{f g:FactH}(hf:FOk Γ f)(hg:FOk Γ g):PG Tryz.prog Γ 52 [.agg (cF f).toArray,.agg (cF g).toArray] (.int .i64 (cFact f.fact g.fact)):=⟨fun S w hw=>by
 obtain⟨l1,l2,l3⟩:=hf.len;obtain⟨m1,m2,m3⟩:=hg.len;have hC:=CompareFunc_any hf hg
 obtain⟨fr,fa,fn,fc,fs⟩:=f;obtain⟨gr,ga,gn,gc,gs⟩:=g;simp only at l1 l2 l3 m1 m2 m3
 refine calls_of_W Tryz.func52 rfl rfl ?_
 repeat first|refine byW ?_|refine byV ?_;intro w hw
 refine lBox ?_;intro b1 w hw;refine lBox ?_;intro b2 w hw;have hw:Wd Γ (.blk b2 (.cells #[.string gr,.slice ga gn gc] 67)::.blk b1 (.cells #[.string fr,.slice fa fn fc] 67)::S) w:=hw
 repeat first|refine byW ?_|refine byV ?_;intro w hw
 refine W_mixC [.blk b2 _,.blk b1 _] S [18] [[],[],[],[],[],[],[],[],[],[],[],[],[0],[0],[]] hw ?_
 refine byM ?_;refine mStepX (v:=undef) (T':=Value) (fun t g=>g 18=t) (fun t=>.own t 3 1 ([cB fr gr,cI fn gn].map fun x=>[.int .i64 x])::S) (fun t g w Y _ hw=>s_buildSlice (rws:=[cB fr gr,cI fn gn].map fun x=>[.int .i64 x]) hw rfl rfl rfl (by simp) (by decide) fun q w' hw'=>⟨_,rfl,(fun h=>by cases h),hw'⟩) ?_
 refine mCallX (φ:=fun (t:Value) g=>g 18=t) (v:=.int .i64 (orI (cB fr gr) (cI fn gn))) (T':=Value) (fun _ _=>True) (fun t=>.own t 3 1 ([cB fr gr,cI fn gn].map fun x=>[.int .i64 x])::S) (fun t _=>[t]) (fun t g w Y ht hw=>?_) ?_ (ha:=fun t g ht=>EvL.cons ht EvL.nil)
 ·refine(Or_any _ hw (RdS.own (i:=0) hw rfl)).mono ?_
  rintro e w ⟨rfl,hw⟩
  refine⟨_,rfl,t,trivial,fun _=>?_,hw⟩
  unfold orL orL orL;rw[orI_r]
 refine byM ?_;refine mEndX fun t w g _ hw=>?_
 have hw:Wd Γ (.blk b2 (.cells #[.string gr,.slice ga gn gc] 67)::.blk b1 (.cells #[.string fr,.slice fa fn fc] 67)::S) w:=hw.drop.flip
 have hcf:cFact (fr,fs) (gr,gs)=orI (orI (cB fr gr) (cI fn gn)) (cL cV fs gs):=by
  unfold cFact;rw[l1,m1];unfold orI;by_cases e:cB fr gr=0 <;> simp[e]
 repeat first|refine byW ?_|refine byV ?_;intro w hw
 refine W_cond rfl (fun h3=>?_) (fun h3=>?_)
 ·repeat first|refine byW ?_|refine byV ?_;intro w hw
  have h3:¬orI (cB fr gr) (cI fn gn)=0:=by simpa using h3
  refine⟨_,rfl,ret_i rfl ?_,hw.drop.drop⟩
  show _=cFact (fr,fs) (gr,gs)
  rw[hcf,orI_pos h3]
 ·have h3:orI (cB fr gr) (cI fn gn)=0:=by simpa using h3
  repeat first|refine byW ?_|refine byV ?_;intro w hw
  refine lPg (hp:=hC) ?_
  intro w hw;repeat first|refine byW ?_|refine byV ?_;intro w hw
  refine⟨_,rfl,ret_i rfl ?_,hw.drop.drop⟩
  show _=cFact (fr,fs) (gr,gs)
  rw[hcf,orI_null h3]⟩
end Go.Proofs.YtfoggcgogafocaaGreat
end
section
open Go Mk
namespace Go.Proofs.YtfoggcgogafocaaGreat
set_option maxHeartbeats 4000000
attribute [local irreducible] Calls cI cB
instance pg_refV(Γ:Gho)(a b:Val):PG Tryz.prog Γ 178 [.agg (enc a).toArray,.agg (enc b).toArray] (.int .i64 (cV a b)):=⟨fun S w hw=>by
 refine calls_of_W Tryz.func178 rfl rfl ?_
 repeat first|refine byW ?_|refine byV ?_;intro w hw
 refine lBox ?_;intro b1 w hw;refine lBox ?_;intro b2 w hw;have hw:Wd Γ (.blk b2 (.cells (enc b).toArray 41)::.blk b1 (.cells (enc a).toArray 41)::S) w:=hw
 repeat first|refine byW ?_|refine byV ?_;intro w hw
 refine W_cond rfl (fun h=>?_) (fun h=>?_)
 ·repeat first|refine byW ?_|refine byV ?_;intro w hw
  have h:¬cI a.Kind b.Kind=0:=by simpa using h
  exact⟨_,rfl,ret_i rfl (by unfold cV;rw[orI_pos h]),hw.drop.drop⟩
 have h:cI a.Kind b.Kind=0:=by simpa using h
 repeat first|refine byW ?_|refine byV ?_;intro w hw
 refine W_cond rfl (fun h2=>?_) (fun h2=>?_)
 ·repeat first|refine byW ?_|refine byV ?_;intro w hw
  have h2:¬cI a.Num b.Num=0:=by simpa using h2
  exact⟨_,rfl,ret_i rfl (by unfold cV;rw[orI_null h,orI_pos h2]),hw.drop.drop⟩
 have h2:cI a.Num b.Num=0:=by simpa using h2
 repeat first|refine byW ?_|refine byV ?_;intro w hw
 exact⟨_,rfl,ret_i rfl (by unfold cV;rw[orI_null h,orI_null h2]),hw.drop.drop⟩⟩
theorem pg_refL{Γ:Gho}{va vb:Value}{xs ys:List Val}(ha:RepS Γ va 3 (xs.map enc))(hb:RepS Γ vb 3 (ys.map enc))(hl:xs.length=ys.length) :
  PG Tryz.prog Γ 100 [va,vb] (.int .i64 (cL cV xs ys)):=⟨fun S w hw=>by
 obtain⟨a,n,c,rfl,hn,hnc,hc⟩:=ha.shape;obtain⟨a2,n2,c2,rfl,hn2,hnc2,hc2⟩:=hb.shape;simp only[List.length_map]at hn hn2
 refine calls_of_W Tryz.func100 rfl rfl ?_
 repeat first|refine byW ?_|refine byV ?_;intro w hw
 refine W_loop (fun μ ρ w=>∃(k:Nat),μ+k=n∧Has ρ [(0,.slice a n c),(1,.slice a2 n2 c2),(5,.int .i64 k)]∧cL cV xs ys=cL cV (xs.drop k) (ys.drop k)∧Wd Γ S w) n ⟨0,by omega,⟨rfl,rfl,rfl,trivial⟩,rfl,hw⟩ ?_
 clear hw;rintro μ ρ w ⟨k,hk,hρ,ho,hw⟩
 rw[hρ.eq];repeat first|refine byW ?_|refine byV ?_;intro w hw
 refine W_cond rfl (fun h=>?_) (fun h=>?_)
 ·have hkn:k<n:=by simp only[Bool.and_eq_true,decide_eq_true_eq]at h;omega
  obtain⟨x,hx⟩:=get_lt (l:=xs) (k:=k) (by omega)
  obtain⟨y,hy⟩:=get_lt (l:=ys) (k:=k) (by omega)
  rw[drop_get hx,drop_get hy]at ho;have ho:cL cV xs ys=orI (cV x y) (cL cV (xs.drop (k+1)) (ys.drop (k+1))):=ho
  have hk2:k<n2:=by omega
  repeat first|refine byW ?_|refine byV ?_;intro w hw
  refine W_quiet (by kernel_rfl) (by kernel_rfl) hw ?_
  refine byQ ?_;intro w hw;repeat first|refine byW ?_|refine byV ?_;intro w hw
  refine W_cond rfl (fun h3=>?_) (fun h3=>?_)
  ·repeat first|refine byW ?_|refine byV ?_;intro w hw
   have h3:¬cV x y=0:=by simpa using h3
   exact⟨_,rfl,ret_i rfl (by rw[ho,orI_pos h3]),hw⟩
  ·repeat first|refine byW ?_|refine byV ?_;intro w hw
   have h3:cV x y=0:=by simpa using h3
   exact⟨μ-1,by omega,k+1,by omega,⟨rfl,rfl,rfl,trivial⟩,by rw[ho,orI_null h3],hw⟩
 ·have hkn:¬k<n:=by
   intro hh;have:k<n2:=by omega
   simp[hh,this]at h
  rw[drop_none xs (by omega),drop_none ys (by omega)]at ho
  repeat first|refine byW ?_|refine byV ?_;intro w hw
  exact⟨_,rfl,ret_i rfl (by rw[ho];rfl),hw⟩⟩
theorem pg_refF{Γ:Gho}{f g:FactH}(hf:FOk Γ f)(hg:FOk Γ g):PG Tryz.prog Γ 54 [.agg (cF f).toArray,.agg (cF g).toArray] (.int .i64 (cFact f.fact g.fact)):=⟨fun S w hw=>by
 obtain⟨l1,l2,l3⟩:=hf.len;obtain⟨m1,m2,m3⟩:=hg.len;have hC:=fun hl=>pg_refL hf hg hl
 obtain⟨fr,fa,fn,fc,fs⟩:=f;obtain⟨gr,ga,gn,gc,gs⟩:=g;simp only at l1 l2 l3 m1 m2 m3 hC
 refine calls_of_W Tryz.func54 rfl rfl ?_
 repeat first|refine byW ?_|refine byV ?_;intro w hw
 refine lBox ?_;intro b1 w hw;refine lBox ?_;intro b2 w hw;have hw:Wd Γ (.blk b2 (.cells #[.string gr,.slice ga gn gc] 67)::.blk b1 (.cells #[.string fr,.slice fa fn fc] 67)::S) w:=hw
 repeat first|refine byW ?_|refine byV ?_;intro w hw
 refine W_cond rfl (fun h=>?_) (fun h=>?_)
 ·repeat first|refine byW ?_|refine byV ?_;intro w hw
  have h:¬cB fr gr=0:=by simpa using h
  exact⟨_,rfl,ret_i rfl (by show _=cFact (fr,fs) (gr,gs);unfold cFact;rw[orI_pos h]),hw.drop.drop⟩
 have h:cB fr gr=0:=by simpa using h
 repeat first|refine byW ?_|refine byV ?_;intro w hw
 refine W_cond rfl (fun h2=>?_) (fun h2=>?_)
 ·repeat first|refine byW ?_|refine byV ?_;intro w hw
  have h2:¬cI fn gn=0:=by simpa using h2
  exact⟨_,rfl,ret_i rfl (by show _=cFact (fr,fs) (gr,gs);unfold cFact;rw[orI_null h,←l1,←m1,orI_pos h2]),hw.drop.drop⟩
 have h2:cI fn gn=0:=by simpa using h2
 have hl:fs.length=gs.length:=by have:=cI_ord.eq0 h2;omega
 repeat first|refine byW ?_|refine byV ?_;intro w hw
 refine lPg (hp:=hC hl) ?_
 intro w hw;repeat first|refine byW ?_|refine byV ?_;intro w hw
 exact⟨_,rfl,ret_i rfl (by show _=cFact (fr,fs) (gr,gs);unfold cFact;rw[orI_null h,←l1,←m1,orI_null h2]),hw.drop.drop⟩⟩
def addK(fs:List FactH)(f:FactH):Nat→Nat
 | 0=>0
 | k+1=>match fs[k]? with
  | some x=>if 0<cFact x.fact f.fact then addK fs f k else k+1
  | none=>k+1
theorem addK_le(fs:List FactH)(f:FactH):∀k,addK fs f k≤k
 | 0=>Nat.le_refl _
 | k+1=>by
  unfold addK;split
  ·split
   ·have:=addK_le fs f k;omega
   ·omega
  ·omega
def addF(fs:List FactH)(f:FactH):List FactH:=
 let k:=addK fs f fs.length
 match k with
 | 0=>f::fs
 | k+1=>match fs[k]? with
  | some x=>if cFact x.fact f.fact=0 then fs else fs.take (k+1)++f::fs.drop (k+1)
  | none=>fs.take (k+1)++f::fs.drop (k+1)
end Go.Proofs.YtfoggcgogafocaaGreat
end
section
open Go
namespace Mk
attribute [local irreducible] Calls
section
variable {P:Program}{n:Nat}{ops:List Oper}{Γ:Gho}{K:List Res}{wr tc stab:List (List Nat)}{Q:Fr→World→Prop}{i:Nat}{rest:List Oper}{ρ:Fr}{M:Nat→Fr→List Res}
variable {d:Option Tmp}{ty:TypeId}{pos:String}{es:Array Edge}{f:Nat}{args:List Operand}{tys:Array TypeId}{vs:List Value}{v:Value}
theorem qPsv{S:List Res}{t:Tmp}{cap:List Value}[FnOk P f](hc:∀Y w,Wd Γ (S++Y) w→Calls P f (vs++cap).toArray w fun e w'=>e=.returned v∧Wd Γ (S++Y) w')(h:Qw P n ops Γ S Q rest (putO ρ d v))(ht:ρ t=.func (.func f) #[] cap.toArray:=by exact rfl)(ha:EvL ρ args vs:=by exact byEV) :
  Qw P n ops Γ S Q (⟨d,.call { callee:=.value (.tmp t),args:=args.toArray,argTypes:=tys },ty,pos,es,none⟩::rest) ρ:=
 Q_c rfl rfl (fun Y w hw=>s_callv ht ha.eqA (by simpa using (hc Y w hw).mono fun e w' ⟨h1,h2⟩=>⟨v,h1,rfl,h2⟩)) h
theorem wd_nil{S:List Res}{w:World}(hw:Wd Γ S w):Wd Γ [] w:=⟨hw.os,hw.tape,hw.out,hw.dr,hw.imm,[],trivial,by simp,by simp⟩
end
end Mk
end
section
open Go Mk
namespace Go.Proofs.YtfoggcgogafocaaGreat
set_option maxHeartbeats 16000000
attribute [local irreducible] Calls isS
section
variable {Γ:Gho}{S:List Res}{w:World}{bp:Nat}{a:Option Addr}{n c k:Nat}{e p:PosT}{er:Int}{toks:List Tok}
end
end Go.Proofs.YtfoggcgogafocaaGreat
end
section
open Go Mk
namespace Go.Proofs.YtfoggcgogafocaaGreat
set_option maxHeartbeats 4000000
section
variable {α:Type}{c:α→α→Int}
structure SetOf(c:α→α→Int)(db l:List α):Prop where
 asc:l.Pairwise fun a b=>c a b = -1
 mem:∀x,x∈l↔x∈db
theorem asc_uniq(h:Ord3 c):∀ {l k:List α},(l.Pairwise fun a b=>c a b = -1)→(k.Pairwise fun a b=>c a b = -1)→(∀x,x∈l↔x∈k)→l=k
 | [],[],_,_,_=>rfl
 | [],b::k,_,_,hm=>absurd ((hm b).2 (List.mem_cons_self)) (by simp)
 | a::l,[],_,_,hm=>absurd ((hm a).1 (List.mem_cons_self)) (by simp)
 | a::l,b::k,ha,hb,hm=>by
  have ha':=List.pairwise_cons.1 ha
  have hb':=List.pairwise_cons.1 hb
  have hab:a=b:=by
   rcases List.mem_cons.1 ((hm a).1 List.mem_cons_self) with e|e
   ·exact e
   rcases List.mem_cons.1 ((hm b).2 List.mem_cons_self) with e2|e2
   ·exact e2.symm
   have h1:=hb'.1 a e
   have h2:=ha'.1 b e2
   have:=h.trans h1 h2
   rw[h.refl]at this;exact absurd this (by decide)
  subst hab;congr 1
  refine asc_uniq h ha'.2 hb'.2 fun x=>?_
  have hne:∀ {m:List α},(∀y∈m,c a y = -1)→x∈m→x≠a:=fun hh hx e=>by
   subst e;have:=hh _ hx
   rw[h.refl]at this;exact absurd this (by decide)
  constructor
  ·intro hx;rcases List.mem_cons.1 ((hm x).1 (List.mem_cons_of_mem _ hx)) with e|e
   ·exact absurd e (hne ha'.1 hx)
   ·exact e
  ·intro hx;rcases List.mem_cons.1 ((hm x).2 (List.mem_cons_of_mem _ hx)) with e|e
   ·exact absurd e (hne hb'.1 hx)
   ·exact e
theorem SetOf.uniq(h:Ord3 c){db l k:List α}(h1:SetOf c db l)(h2:SetOf c db k):l=k:=asc_uniq h h1.asc h2.asc fun x=>(h1.mem x).trans (h2.mem x).symm
def insA(c:α→α→Int)(f:α):List α→List α
 | []=>[f]
 | x::l=>if c f x = -1 then f::x::l else if c f x=0 then x::l else x::insA c f l
def setA(c:α→α→Int):List α→List α
 | []=>[]
 | f::db=>insA c f (setA c db)
theorem insA_mem(h:Ord3 c){f x:α}:∀ {l:List α},x∈insA c f l↔x=f∨x∈l
 | []=>by simp[insA]
 | y::l=>by
  unfold insA;split
  ·simp
  ·split
   ·rename_i e
    have e:=h.eq0 e
    subst e;simp
   ·rw[List.mem_cons,insA_mem h,List.mem_cons];constructor
    ·rintro (h|h|h)
     ·exact .inr (.inl h)
     ·exact .inl h
     ·exact .inr (.inr h)
    ·rintro (h|h|h)
     ·exact .inr (.inl h)
     ·exact .inl h
     ·exact .inr (.inr h)
theorem insA_asc(h:Ord3 c){f:α}:∀ {l:List α},(l.Pairwise fun a b=>c a b = -1)→(insA c f l).Pairwise fun a b=>c a b = -1
 | [],_=>by simp[insA]
 | y::l,ha=>by
  have ha':=List.pairwise_cons.1 ha
  unfold insA;split
  ·rename_i e
   refine List.pairwise_cons.2 ⟨fun z hz=>?_,ha⟩
   rcases List.mem_cons.1 hz with q|q
   ·rw[q];exact e
   ·exact h.trans e (ha'.1 z q)
  ·split
   ·exact ha
   ·rename_i e1 e2
    refine List.pairwise_cons.2 ⟨fun z hz=>?_,insA_asc h ha'.2⟩
    rcases (insA_mem h).1 hz with q|q
    ·rw[q,h.anti];rcases h.rng f y with r|r|r
     ·exact absurd r e1
     ·exact absurd r e2
     ·rw[r]
    ·exact ha'.1 z q
theorem setA_of(h:Ord3 c):∀db:List α,SetOf c db (setA c db)
 | []=>⟨List.Pairwise.nil,fun x=>Iff.rfl⟩
 | f::db=>⟨insA_asc h (setA_of h db).asc,fun x=>by
  show x∈insA c f (setA c db)↔_
  rw[insA_mem h,(setA_of h db).mem,List.mem_cons]⟩
theorem SetOf.eq(h:Ord3 c){db l:List α}(h1:SetOf c db l):l=setA c db:=h1.uniq h (setA_of h db)
theorem setA_congr(h:Ord3 c){db db':List α}(hm:∀x,x∈db↔x∈db'):setA c db=setA c db':=
 (SetOf.mk (setA_of h db).asc fun x=>((setA_of h db).mem x).trans (hm x)).eq h
theorem setA_mem(h:Ord3 c){db:List α}{x:α}:x∈setA c db↔x∈db:=(setA_of h db).mem x
theorem insA_len{f:α}:∀ {l:List α},(insA c f l).length≤l.length+1
 | []=>by simp[insA]
 | y::l=>by
  have:=insA_len (f:=f) (l:=l)
  unfold insA;split
  ·simp
  ·split
   ·simp
   ·simp;omega
theorem setA_len:∀ {db:List α},(setA c db).length≤db.length
 | []=>by simp[setA]
 | f::db=>by
  have:=setA_len (db:=db)
  have:=insA_len (c:=c) (f:=f) (l:=setA c db)
  simp only[setA,List.length_cons];omega
theorem setA_idem(h:Ord3 c)(db:List α):setA c (setA c db)=setA c db:=setA_congr h fun x=>setA_mem h
theorem setA_filter(h:Ord3 c)(p:α→Bool)(db:List α):setA c (db.filter p)=(setA c db).filter p:=by
 refine(SetOf.eq h (SetOf.mk ((setA_of h db).asc.filter _) fun x=>?_)).symm
 rw[List.mem_filter,List.mem_filter,setA_mem h]
end
def kp{α:Type}(p:α→α→Bool):α→List α→List α
 | _,[]=>[]
 | a,b::l=>if p b a=true then kp p b l else b::kp p b l
def cmpct{α:Type}(p:α→α→Bool):List α→List α
 | []=>[]
 | a::l=>a::kp p a l
theorem kp_mem_of{α:Type}{p:α→α→Bool}{x:α}:∀ {l:List α} {a:α},x∈kp p a l→x∈l
 | [],_,h=>h
 | b::l,a,h=>by
  unfold kp at h;split at h
  ·exact List.mem_cons_of_mem _ (kp_mem_of h)
  ·rcases List.mem_cons.1 h with e|e
   ·rw[e];exact List.mem_cons_self
   ·exact List.mem_cons_of_mem _ (kp_mem_of e)
theorem cmpct_mem_of{α:Type}{p:α→α→Bool}{x:α}{l:List α}(h:x∈cmpct p l):x∈l:=by
 cases l with
 | nil=>exact h
 | cons a l=>
  rcases List.mem_cons.1 h with e|e
  ·rw[e];exact List.mem_cons_self
  ·exact List.mem_cons_of_mem _ (kp_mem_of e)
theorem kp_len{α:Type}{p:α→α→Bool}:∀ {l:List α} {a:α},(kp p a l).length≤l.length
 | [],_=>Nat.le_refl _
 | b::l,a=>by
  unfold kp;have:=kp_len (p:=p) (l:=l) (a:=b)
  split
  ·simp;omega
  ·simp;omega
theorem kp_snoc{α:Type}{p:α→α→Bool}{y:α}:∀(l:List α) (a:α),kp p a (l++[y])=kp p a l++(if p y (l.getLast?.getD a)=true then [] else [y])
 | [],a=>by
  show (if p y a=true then kp p y [] else y::kp p y [])=_
  rfl
 | b::l,a=>by
  have ih:=kp_snoc (p:=p) (y:=y) l b
  have hl:((b::l).getLast?).getD a=l.getLast?.getD b:=by
   cases l with
   | nil=>rfl
   | cons x l=>simp[List.getLast?_cons_cons];rw[List.getLast?_eq_some_getLast (by simp)];rfl
  rw[hl,List.cons_append];show (if p b a=true then kp p b (l++[y]) else b::kp p b (l++[y]))=(if p b a=true then kp p b l else b::kp p b l)++_
  rw[ih];split <;> simp
theorem cmpct_succ{α:Type}{p:α→α→Bool}{fs:List α}{j:Nat}{x y:α}(h0:0<j)(hy:fs[j]? = some y)(hx:fs[j-1]? = some x):cmpct p (fs.take (j+1))=if p y x=true then cmpct p (fs.take j) else cmpct p (fs.take j)++[y]:=by
 have ht:fs.take (j+1)=fs.take j++[y]:=by rw[List.take_add_one,hy];rfl
 have hjl:=(List.getElem?_eq_some_iff.1 hy).1
 rw[ht];have hlast:(fs.take j).getLast? = some x:=by
  rw[List.getLast?_eq_getElem?,List.length_take,Nat.min_eq_left (by omega),List.getElem?_take,if_pos (by omega)]
  exact hx
 cases hl:fs.take j with
 | nil=>rw[hl]at hlast;cases hlast
 | cons a l=>
  rw[hl]at hlast;have hla:l.getLast?.getD a=x:=by
   cases l with
   | nil=>simpa using hlast
   | cons b l=>rw[List.getLast?_cons_cons]at hlast;rw[hlast];rfl
  show a::kp p a (l++[y])=_
  rw[kp_snoc,hla];split <;> simp[cmpct]
section
variable {α β:Type}{c:α→α→Int}
theorem kp_spec(h:Ord3 c)(F:β→α):∀ {l:List β} {a:β},((a::l).Pairwise fun x y=>c (F y) (F x)≠-1) →
  ((kp (fun x y=>decide (c (F x) (F y)=0)) a l).map F).Pairwise (fun x y=>c x y = -1)∧(∀x∈(kp (fun x y=>decide (c (F x) (F y)=0)) a l).map F,c (F a) x = -1)∧∀x,x∈F a::(kp (fun x y=>decide (c (F x) (F y)=0)) a l).map F↔x∈F a::l.map F
 | [],a,_=>⟨List.Pairwise.nil,fun x hx=>absurd hx (by simp[kp]),fun x=>Iff.rfl⟩
 | b::l,a,hs=>by
  have hs':=List.pairwise_cons.1 hs
  obtain⟨k1,k2,k3⟩:=kp_spec h F hs'.2
  unfold kp;by_cases e:c (F b) (F a)=0
  ·have e2:=h.eq0 e
   rw[if_pos (decide_eq_true e)];rw[e2]at k2 k3
   refine⟨k1,k2,fun x=>?_⟩
   rw[k3 x,List.map_cons,e2];simp
  ·rw[if_neg (by simp[e])]
   have e3:c (F a) (F b) = -1:=by
    have h1:=hs'.1 b List.mem_cons_self
    rw[h.anti];rcases h.rng (F b) (F a) with r|r|r
    ·exact absurd r h1
    ·exact absurd r e
    ·rw[r]
   refine⟨?_,fun x hx=>?_,fun x=>?_⟩
   ·rw[List.map_cons];exact List.pairwise_cons.2 ⟨k2,k1⟩
   ·rw[List.map_cons]at hx;rcases List.mem_cons.1 hx with q|q
    ·rw[q];exact e3
    ·exact h.trans e3 (k2 x q)
   ·rw[List.map_cons,List.mem_cons,k3 x,List.map_cons,List.mem_cons (b:=F a)]
theorem cmpct_set(h:Ord3 c)(F:β→α){fs gs:List β}(hp:gs.Perm fs)(hs:gs.Pairwise fun x y=>c (F y) (F x)≠-1):(cmpct (fun x y=>decide (c (F x) (F y)=0)) gs).map F=setA c (fs.map F):=by
 refine SetOf.eq h ?_
 have hm:∀x,x∈gs.map F↔x∈fs.map F:=fun x=>(hp.map F).mem_iff
 cases gs with
 | nil=>exact⟨List.Pairwise.nil,hm⟩
 | cons a l=>
  obtain⟨k1,k2,k3⟩:=kp_spec h F hs
  refine⟨?_,fun x=>(k3 x).trans (hm x)⟩
  show ((F a::(kp _ a l).map F)).Pairwise _
  exact List.pairwise_cons.2 ⟨k2,k1⟩
end
end Go.Proofs.YtfoggcgogafocaaGreat
end
section
open Go Mk
namespace Go.Proofs.YtfoggcgogafocaaGreat
set_option maxHeartbeats 4000000
attribute [local irreducible] Calls cI cB cFact
theorem add_any(Γ:Gho)(S:List Res)(w:World)(v:Value)(fs:List FactH)(f:FactH)(hok:∀x∈fs,FOk Γ x)(hf:FOk Γ f)(hl:fs.length≤100000)(hw:Wd Γ (.own v 67 2 (fs.map cF)::S) w) :
  Calls Tryz.prog 68 #[v,.agg (cF f).toArray] w fun e w'=>∃v',e=.returned v'∧Wd Γ (.own v' 67 2 ((addF fs f).map cF)::S) w':=by
 obtain⟨a,n,c,rfl,hn,hnc,hc⟩:=hw.own_shape (i:=0) rfl
 simp only[List.length_map]at hn
 refine calls_of_W Tryz.func68 rfl rfl ?_
 repeat first|refine byW ?_|refine byV ?_;intro w hw
 refine lBox ?_;intro b3 w hw;have hw:Wd Γ (.blk b3 (.cells (cF f).toArray 67)::.own (.slice a n c) 67 2 (fs.map cF)::S) w:=hw
 repeat first|refine byW ?_|refine byV ?_;intro w hw
 refine W_loop (fun μ ρ w=>μ≤n∧Has ρ [(0,.slice a n c),(3,.pointer (some ⟨b3,0,none⟩)),(5,.int .i64 μ)]∧addK fs f n=addK fs f μ∧Wd Γ (.blk b3 (.cells (cF f).toArray 67)::.own (.slice a n c) 67 2 (fs.map cF)::S) w) n ⟨Nat.le_refl _,⟨rfl,rfl,rfl,trivial⟩,rfl,hw⟩ ?_
 clear hw;rintro k ρ w ⟨hkn,hρ,ho,hw⟩
 rw[hρ.eq];obtain⟨x,hx⟩:∃x:FactH,0<k→fs[((k:Int)-1).toNat]? = some x∧fs[k-1]? = some x∧FOk Γ x:=by
  by_cases h0:0<k
  ·obtain⟨x,hx⟩:=get_lt (l:=fs) (k:=k-1) (by omega)
   exact⟨x,fun _=>⟨by rw[show ((k:Int)-1).toNat=k-1 from by omega];exact hx,hx,hok x (List.mem_of_getElem? hx)⟩⟩
  ·exact⟨f,fun h=>absurd h h0⟩
 repeat first|refine byW ?_|refine byV ?_;intro w hw
 refine W_quiet (by kernel_rfl) (by kernel_rfl) hw ?_
 iterate 7 (first|refine Q_nil ?_|(apply Q_plain;first|(apply Q_go;first|refine qP ?_|refine qPg ?_)|refine qY ?_)|(apply Q_guarded;first|(apply Q_go;first|refine qPG ?_|refine qPgG ?_)|refine qG ?_))
 apply Q_guarded
 refine qG ?_ (hy:=fun hc w hw=>by
  have h0:=(hx (by have:=of_decide_eq_true hc;omega)).1
  exact byPUG)
 first|refine Q_nil ?_|(apply Q_plain;first|(apply Q_go;first|refine qP ?_|refine qPg ?_)|refine qY ?_)|(apply Q_guarded;first|(apply Q_go;first|refine qPG ?_|refine qPgG ?_)|refine qG ?_)
 refine qPgH (c:=decide ((0:Int)<(k:Int))) (fun hc=>pg_refF (hx (by have:=of_decide_eq_true hc;omega)).2.2 hf) ?_
 refine byQ ?_;intro w hw;refine W_cond rfl (fun h=>?_) (fun h=>?_)
 ·have h:0<k∧0<cFact x.fact f.fact:=by simpa using h
  obtain⟨h0,h1⟩:=h;obtain⟨-,hx2,-⟩:=hx h0
  repeat first|refine byW ?_|refine byV ?_;intro w hw
  refine⟨k-1,by omega,by omega,⟨rfl,rfl,by rw[show (((k-1:Nat):Int))=(k:Int)-1 from by omega];rfl,trivial⟩,?_,hw⟩
  obtain⟨k,rfl⟩:∃j,k=j+1:=⟨k-1,by omega⟩
  rw[ho];show addK fs f (k+1)=addK fs f k
  conv=>lhs;unfold addK
  simp only[Nat.add_sub_cancel]at hx2
  rw[hx2];exact if_pos h1
 ·have hK:addK fs f n=k:=by
   rw[ho];cases k with
   | zero=>rfl
   | succ k=>
    obtain⟨-,hx2,-⟩:=hx (by omega)
    simp only[Nat.add_sub_cancel]at hx2
    unfold addK;rw[hx2];refine if_neg fun h1=>?_
    have h0:(0:Int)<(k:Int)+1:=by omega
    simp[h1,h0]at h
  clear h ho;repeat first|refine byW ?_|refine byV ?_;intro w hw
  refine W_quiet (by kernel_rfl) (by kernel_rfl) hw ?_
  iterate 7 (first|refine Q_nil ?_|(apply Q_plain;first|(apply Q_go;first|refine qP ?_|refine qPg ?_)|refine qY ?_)|(apply Q_guarded;first|(apply Q_go;first|refine qPG ?_|refine qPgG ?_)|refine qG ?_))
  apply Q_guarded
  refine qG ?_ (hy:=fun hc w hw=>by
   have h0:=(hx (by have:=of_decide_eq_true hc;omega)).1
   exact byPUG)
  first|refine Q_nil ?_|(apply Q_plain;first|(apply Q_go;first|refine qP ?_|refine qPg ?_)|refine qY ?_)|(apply Q_guarded;first|(apply Q_go;first|refine qPG ?_|refine qPgG ?_)|refine qG ?_)
  refine qPgH (c:=decide ((0:Int)<(k:Int))) (fun hc=>pg_refF (hx (by have:=of_decide_eq_true hc;omega)).2.2 hf) ?_
  refine byQ ?_;intro w hw;refine W_cond rfl (fun h=>?_) (fun h=>?_)
  ·have h:0<k∧cFact x.fact f.fact=0:=by simpa using h
   obtain⟨h0,h1⟩:=h;obtain⟨-,hx2,-⟩:=hx h0
   have hA:addF fs f=fs:=by
    unfold addF;rw[←hn,hK];obtain⟨k,rfl⟩:∃j,k=j+1:=⟨k-1,by omega⟩
    simp only[Nat.add_sub_cancel]at hx2
    simp only[hx2]
    exact if_pos h1
   repeat first|refine byW ?_|refine byV ?_;intro w hw
   exact⟨_,rfl,_,rfl,by rw[hA];exact hw.drop⟩
  ·have hA:addF fs f=fs.take k++f::fs.drop k:=by
    unfold addF;rw[←hn,hK];cases k with
    | zero=>rfl
    | succ k=>
     obtain⟨-,hx2,-⟩:=hx (by omega)
     simp only[Nat.add_sub_cancel]at hx2
     simp only[hx2]
     refine if_neg fun h1=>?_
     have h0:(0:Int)<(k:Int)+1:=by omega
     simp[h1,h0]at h
   clear h hK;repeat first|refine byW ?_|refine byV ?_;intro w hw
   refine W_mixE 2 [[],[],[],[0],[],[1],[0],[0]] [[],[],[],[0],[],[1],[0,1],[0]] [[39,42,6],[41]] ?_
   refine byM ?_;refine mAppNil (m:=k) (rows2:=(fs.take k).map cF) ?_ (fun Y w hw=>by rw[List.map_take];exact(Wd.own_rd (i:=1) hw rfl).take k) (by simp;omega) (cFs_one _)
   refine byM ?_;refine mBuild [cF f] ?_
   refine mAppOwn2 (rows2:=[cF f]) ?_ (cFs_one [f]) (hb:=by simp;omega) (h63:=by simp;omega)
   refine mAssV ?_
   refine mEnd fun w g hw=>?_
   have hw:=hw.perm List.perm_append_comm
   have hw:Wd Γ (.own (g 6) 67 2 ((fs.take k).map cF++[cF f])::.own (g 41) 67 2 [cF f]::.blk b3 (.cells (cF f).toArray 67)::.own (.slice a n c) 67 2 (fs.map cF)::S) w:=hw
   obtain⟨a6,n6,c6,e6,hn6,hnc6,hc6⟩:=hw.own_shape (i:=0) rfl
   rw[e6]at hw;simp at hn6
   have hw:Wd Γ (.own (.slice a6 n6 c6) 67 2 ((fs.take k).map cF++[cF f])::.own (.slice a n c) 67 2 (fs.map cF)::.blk b3 (.cells (cF f).toArray 67)::S) w:=(hw.dropAt 1).ps [2,1]
   refine W_has (l:=[(0,.slice a n c),(5,.int .i64 k),(6,.slice a6 n6 c6)]) ⟨rfl,rfl,e6,trivial⟩ fun ρ hρ=>?_
   rw[hρ.eq];repeat first|refine byW ?_|refine byV ?_;intro w hw
   refine lApp (i:=0) (rows2:=(fs.drop k).map cF) ?_ (by rw[List.map_drop];exact(Wd.own_rd (i:=1) hw rfl).cut (c:=c) (by simp;omega) k (by simp;omega)) rfl rfl hw rfl (List.all_eq_true.2 (cFs_one _)) (by simp;omega)
   intro v' w hw;repeat first|refine byW ?_|refine byV ?_;intro w hw
   have hw:Wd Γ (.own v' 67 2 (((fs.take k).map cF++[cF f])++(fs.drop k).map cF)::.own (.slice a n c) 67 2 (fs.map cF)::.blk b3 (.cells (cF f).toArray 67)::S) w:=hw
   rw[show ((fs.take k).map cF++[cF f])++(fs.drop k).map cF=(addF fs f).map cF from by rw[hA];simp]at hw
   exact⟨_,rfl,v',rfl,(hw.dropAt 1).dropAt 1⟩
end Go.Proofs.YtfoggcgogafocaaGreat
end
section
open Go Mk
namespace Go.Proofs.YtfoggcgogafocaaGreat
set_option maxHeartbeats 4000000
attribute [local irreducible] Calls cI cB cFact addF
def setF(fs:List FactH):List FactH:=fs.foldl addF []
theorem setF_succ{fs:List FactH}{k:Nat}{x:FactH}(h:fs[k]? = some x):setF (fs.take (k+1))=addF (setF (fs.take k)) x:=by
 unfold setF;rw[List.take_add_one,h];simp
theorem addF_mem{fs:List FactH}{f x:FactH}(h:x∈addF fs f):x∈fs∨x=f:=by
 unfold addF at h;dsimp only at h
 split at h
 ·rcases List.mem_cons.1 h with h|h
  ·exact .inr h
  ·exact .inl h
 ·have key:∀k,x∈fs.take k++f::fs.drop k→x∈fs∨x=f:=fun k h=>by
   rcases List.mem_append.1 h with h|h
   ·exact .inl (List.mem_of_mem_take h)
   ·rcases List.mem_cons.1 h with h|h
    ·exact .inr h
    ·exact .inl (List.mem_of_mem_drop h)
  split at h
  ·split at h
   ·exact .inl h
   ·exact key _ h
  ·exact key _ h
theorem addF_len{fs:List FactH}{f:FactH}:(addF fs f).length≤fs.length+1:=by
 unfold addF;dsimp only
 split
 ·simp
 ·split
  ·split
   ·omega
   ·simp;omega
  ·simp;omega
theorem setF_mem{fs:List FactH}{x:FactH}(h:x∈setF fs):x∈fs:=by
 have key:∀(l:List FactH) (acc:List FactH),x∈l.foldl addF acc→x∈acc∨x∈l:=by
  intro l;induction l with
  | nil=>intro acc h;exact .inl h
  | cons y l ih=>
   intro acc h;rcases ih _ h with h|h
   ·rcases addF_mem h with h|h
    ·exact .inl h
    ·exact .inr (by simp[h])
   ·exact .inr (by simp[h])
 rcases key fs [] h with h|h
 ·simp at h
 ·exact h
theorem setF_len(fs:List FactH):(setF fs).length≤fs.length:=by
 have key:∀(l:List FactH) (acc:List FactH),(l.foldl addF acc).length≤acc.length+l.length:=by
  intro l;induction l with
  | nil=>intro acc;simp
  | cons y l ih=>
   intro acc;have:=ih (addF acc y)
   have:=addF_len (fs:=acc) (f:=y)
   simp only[List.foldl_cons,List.length_cons];omega
 show (fs.foldl addF []).length≤fs.length
 simpa using key fs []
instance pg_Word(Γ:Gho)(s:ByteArray):PG Tryz.prog Γ 29 [.string s] (.agg (enc (⟨2,0,s⟩:Val)).toArray):=⟨fun S w hw=>by
 refine calls_of_WC Tryz.func29 rfl rfl ?_
 repeat first|refine byW ?_|refine byV ?_;intro w hw
 refine lAlloc ?_;intro b w hw;repeat first|refine byW ?_|refine byV ?_;intro w hw
 refine lStore ?_;intro w hw;have hw:Wd Γ (.blk b (.cells (enc (⟨2,0,s⟩:Val)).toArray 41)::S) w:=hw
 repeat first|refine byW ?_|refine byV ?_;intro w hw
 exact⟨[.agg (enc (⟨2,0,s⟩:Val)).toArray],⟨resC (i:=0) hw rfl rfl rfl,trivial⟩,rfl,hw.drop⟩⟩
instance pg_Int(Γ:Gho)(v:Int):PG Tryz.prog Γ 9 [.int .i64 v] (.agg (enc (⟨1,v,⟨#[]⟩⟩:Val)).toArray):=⟨fun S w hw=>by
 refine calls_of_WC Tryz.func9 rfl rfl ?_
 repeat first|refine byW ?_|refine byV ?_;intro w hw
 refine lAlloc ?_;intro b w hw;repeat first|refine byW ?_|refine byV ?_;intro w hw
 refine lStore ?_;intro w hw;have hw:Wd Γ (.blk b (.cells (enc (⟨1,v,⟨#[]⟩⟩:Val)).toArray 41)::S) w:=hw
 repeat first|refine byW ?_|refine byV ?_;intro w hw
 exact⟨[.agg (enc (⟨1,v,⟨#[]⟩⟩:Val)).toArray],⟨resC (i:=0) hw rfl rfl rfl,trivial⟩,rfl,hw.drop⟩⟩
theorem Fact_any(Γ:Gho)(S:List Res)(w:World)(va:Value)(rel:ByteArray)(vs:List Val)(hr:RdS Γ S va 3 (vs.map enc))(hl:vs.length≤100000)(hw:Wd Γ S w) :
  Calls Tryz.prog 23 #[.string rel,va] w fun e w'=>∃f:FactH,e=.returned (.agg (cF f).toArray)∧f.fact=(rel,vs)∧Wd Γ (.own f.hdr 41 3 (f.Args.map enc)::S) w':=by
 obtain⟨a,n,c,rfl,hn,hnc,hc⟩:=hr.shape;simp only[List.length_map]at hn
 refine calls_of_WC Tryz.func23 rfl rfl ?_
 repeat first|refine byW ?_|refine byV ?_;intro w hw
 refine lAlloc ?_;intro b w hw;repeat first|refine byW ?_|refine byV ?_;intro w hw
 have hw:=Wd.addNil (a:=none) (E:=41) (sz:=3) hw
 refine lApp (i:=0) (rows2:=vs.map enc) ?_ (hr.cons.cons.rd hw) rfl rfl hw rfl (List.all_eq_true.2 (fun u hu=>(List.all_eq_true.1 (encs_one vs)) u hu)) (by simpa using hn)
 intro v' w hw;obtain⟨a',n',c',rfl,hn',hnc',hc'⟩:=hw.own_shape (i:=0) rfl
 repeat first|refine byW ?_|refine byV ?_;intro w hw
 refine lStore ?_;intro w hw;have hw:Wd Γ (.own (.slice a' n' c') 41 3 (vs.map enc)::.blk b (.cells (cF ⟨rel,a',n',c',vs⟩).toArray 67)::S) w:=hw
 repeat first|refine byW ?_|refine byV ?_;intro w hw
 exact⟨[.agg (cF ⟨rel,a',n',c',vs⟩).toArray],⟨resC (i:=1) hw rfl rfl rfl,trivial⟩,⟨rel,a',n',c',vs⟩,rfl,rfl,hw.dropAt 1⟩
end Go.Proofs.YtfoggcgogafocaaGreat
end
section
open Go Mk
namespace Go.Proofs.YtfoggcgogafocaaGreat
def lay_fct_ren:Go.Shelf.Ren:=⟨fun|6=>51|15=>81|14=>95|28=>140|29=>141|20=>169|21=>170|22=>171|23=>172|24=>173|25=>174|26=>175|27=>176|46=>221|47=>201|48=>202|49=>222|50=>223|57=>245|n=>n,fun|22=>32|24=>67|25=>126|3=>3|39=>81|0=>0|53=>213|55=>80|4=>4|46=>206|45=>205|50=>210|5=>5|9=>9|66=>246|70=>250|76=>268|77=>171|n=>n,fun|n=>n⟩
theorem lay_fct:Go.Proofs.SlLaysF0.n6 Tryz.prog lay_fct_ren:={
 mixed:=by kernel_rfl
 f6:=⟨Tryz.f51.name,by decide,Tryz.func51.trans (congrArg some (by kernel_rfl))⟩
 f14:=⟨Tryz.f95.name,by decide,Tryz.func95.trans (congrArg some (by kernel_rfl))⟩
 f15:=Tryz.func81.trans (congrArg some (by kernel_rfl))
 f20:=⟨Tryz.f169.name,by decide,Tryz.func169.trans (congrArg some (by kernel_rfl))⟩
 f21:=⟨Tryz.f170.name,by decide,Tryz.func170.trans (congrArg some (by kernel_rfl))⟩
 f22:=⟨Tryz.f171.name,by decide,Tryz.func171.trans (congrArg some (by kernel_rfl))⟩
 f23:=⟨Tryz.f172.name,by decide,Tryz.func172.trans (congrArg some (by kernel_rfl))⟩
 f24:=⟨Tryz.f173.name,by decide,Tryz.func173.trans (congrArg some (by kernel_rfl))⟩
 f25:=⟨Tryz.f174.name,by decide,Tryz.func174.trans (congrArg some (by kernel_rfl))⟩
 f26:=⟨Tryz.f175.name,by decide,Tryz.func175.trans (congrArg some (by kernel_rfl))⟩
 f27:=⟨Tryz.f176.name,by decide,Tryz.func176.trans (congrArg some (by kernel_rfl))⟩
 f28:=Tryz.func140.trans (congrArg some (by kernel_rfl))
 f29:=Tryz.func141.trans (congrArg some (by kernel_rfl))
 f46:=⟨Tryz.f221.name,by decide,Tryz.func221.trans (congrArg some (by kernel_rfl))⟩
 f47:=Tryz.func201.trans (congrArg some (by kernel_rfl))
 f48:=Tryz.func202.trans (congrArg some (by kernel_rfl))
 f49:=⟨Tryz.f222.name,by decide,Tryz.func222.trans (congrArg some (by kernel_rfl))⟩
 f50:=⟨Tryz.f223.name,by decide,Tryz.func223.trans (congrArg some (by kernel_rfl))⟩
 f57:=⟨Tryz.f245.name,by decide,Tryz.func245.trans (congrArg some (by kernel_rfl))⟩
 t0:=Tryz.underlying0
 a0:=Tryz.isAgg0
 z0:=Tryz.sizeOf0
 v0:=Tryz.zeroValue0
 t3:=Tryz.underlying3
 a3:=Tryz.isAgg3
 z3:=Tryz.sizeOf3
 v3:=Tryz.zeroValue3
 t4:=Tryz.underlying4
 a4:=Tryz.isAgg4
 z4:=Tryz.sizeOf4
 v4:=Tryz.zeroValue4
 t5:=Tryz.underlying5
 a5:=Tryz.isAgg5
 z5:=Tryz.sizeOf5
 v5:=Tryz.zeroValue5
 t9:=Tryz.underlying9
 a9:=Tryz.isAgg9
 z9:=Tryz.sizeOf9
 v9:=Tryz.zeroValue9
 t22:=Tryz.underlying32
 a22:=Tryz.isAgg32
 z22:=Tryz.sizeOf32
 v22:=Tryz.zeroValue32
 t25:=Tryz.underlying126
 a25:=Tryz.isAgg126
 z25:=Tryz.sizeOf126
 v25:=Tryz.zeroValue126
 t39:=Tryz.underlying81
 a39:=Tryz.isAgg81
 z39:=Tryz.sizeOf81
 v39:=Tryz.zeroValue81
 t45:=Tryz.underlying205
 a45:=Tryz.isAgg205
 z45:=Tryz.sizeOf205
 v45:=Tryz.zeroValue205
 t46:=Tryz.underlying206
 a46:=Tryz.isAgg206
 z46:=Tryz.sizeOf206
 v46:=Tryz.zeroValue206
 t50:=Tryz.underlying210
 a50:=Tryz.isAgg210
 z50:=Tryz.sizeOf210
 v50:=Tryz.zeroValue210
 t53:=Tryz.underlying213
 a53:=Tryz.isAgg213
 z53:=Tryz.sizeOf213
 v53:=Tryz.zeroValue213
 t55:=Tryz.underlying80
 a55:=Tryz.isAgg80
 z55:=Tryz.sizeOf80
 v55:=Tryz.zeroValue80
 t66:=Tryz.underlying246
 a66:=Tryz.isAgg246
 z66:=Tryz.sizeOf246
 v66:=Tryz.zeroValue246
 t70:=Tryz.underlying250
 a70:=Tryz.isAgg250
 z70:=Tryz.sizeOf250
 v70:=Tryz.zeroValue250
 t76:=Tryz.underlying268
 a76:=Tryz.isAgg268
 z76:=Tryz.sizeOf268
 v76:=Tryz.zeroValue268
 t77:=Tryz.underlying171
 a77:=Tryz.isAgg171
 z77:=Tryz.sizeOf171
 v77:=Tryz.zeroValue171 }
end Go.Proofs.YtfoggcgogafocaaGreat
end
section
open Go Mk
namespace Go.Proofs.YtfoggcgogafocaaGreat
set_option maxHeartbeats 4000000
attribute [local irreducible] Calls cI cB cFact addF
theorem FOk.mono{Γ Γ':Gho}{f:FactH}(h:FOk Γ f)(hl:Γ.le Γ'):FOk Γ' f:=RepS.mono h hl
theorem sort_facts{Γ:Gho}{S:List Res}{w:World}(fs:List FactH)(v:Value)(hok:∀f∈fs,FOk Γ f)(hl:fs.length≤1000000)(hw:Wd Γ (.own v 67 2 (fs.map cF)::S) w) :
  Calls Tryz.prog 51 #[v,.func (.func 52) #[] #[]] w fun e w'=>e=.returned (.tuple #[])∧∃gs:List FactH,gs.Perm fs∧(gs.Pairwise fun a b=>Go.Proofs.ltOf (fun a b:FactH=>cFact a.fact b.fact) b a=false)∧Wd Γ (.own v 67 2 (gs.map cF)::S) w':=by
 have hxs:(fs.attachWith (FOk Γ) hok).map Subtype.val=fs:=List.attachWith_map_subtype_val _
 have hrows:((fs.attachWith (FOk Γ) hok).map fun a=>cF a.1)=fs.map cF:=by
  conv=>rhs;rw[←hxs]
  rw[List.map_map];rfl
 rw[←hrows]at hw;haveI:Inhabited {f:FactH // FOk Γ f}:=⟨⟨⟨⟨#[]⟩,none,0,0,[]⟩,RepS.nil⟩⟩
 have:=SortFunc_K (α:={f:FactH // FOk Γ f}) (enc:=fun a=>cF a.1) lay_fct (fun a b=>cFact a.1.fact b.1.fact) 52 [] (fs.attachWith (FOk Γ) hok) v hw (i:=0) rfl (fun _=>rfl) (fun x u hu=>(List.all_eq_true.1 (cF_one x.1)) u hu) (by show TA Tryz.prog 67 2;infer_instance)
  (swo_on cFact_ord fun a:{f:FactH // FOk Γ f}=>a.1.fact) (by simp;omega) (fun dk w' hw' x y=>by
   have h1:∀b o,Γ.imm b=some o→(allG w').imm b=some o:=fun b o hb=>hw'.imm b o hb
   have h2:=pg_cmpF (Γ:=allG w') (f:=x.1) (g:=y.1) (RepS.imm x.2 h1) (RepS.imm y.2 h1)
   refine(h2.h [] w' (allG_wd w')).mono ?_
   rintro e w'' ⟨he,hw''⟩
   exact⟨he,[],hw''⟩)
 refine this.mono ?_
 rintro e w' ⟨he,ys,hp,hs,hw'⟩
 refine⟨he,ys.map Subtype.val,?_,?_,?_⟩
 ·have:=hp.map Subtype.val
  rwa [hxs]at this
 ·rw[List.pairwise_map];exact hs
 ·rw[List.map_map];exact hw'
end Go.Proofs.YtfoggcgogafocaaGreat
end
section
open Go Mk
namespace Go.Proofs.YtfoggcgogafocaaGreat
set_option maxHeartbeats 16000000
attribute [local irreducible] Calls cFact
theorem Clone_facts{Γ:Gho}{S:List Res}{w:World}{v:Value}{xs:List FactH}(hr:RdS Γ S v 2 (xs.map cF))(hN:xs.length≤1000000)(hw:Wd Γ S w) :
  Calls Tryz.prog 195 #[v] w fun e w'=>∃v',e=.returned v'∧Wd Γ (.own v' 67 2 (xs.map cF)::S) w':=by
 obtain⟨a,n,c,rfl,hn,hnc,hc⟩:=hr.shape;simp only[List.length_map]at hn
 refine calls_of_W Tryz.func195 rfl rfl ?_
 repeat first|refine byW ?_|refine byV ?_;intro w hw
 refine W_cond rfl (fun h=>?_) (fun h=>?_)
 ·repeat first|refine byW ?_|refine byV ?_;intro w hw
  have hx:xs=[]:=by
   cases a with
   | none=>
    cases xs with
    | nil=>rfl
    | cons x xs=>have:=(hr.rd hw).at_ (by simp);cases this
   | some a=>cases h
  subst hx;exact⟨_,rfl,_,rfl,Wd.addNil hw⟩
 ·repeat first|refine byW ?_|refine byV ?_;intro w hw
  refine lBuildSlice [] ?_
  intro a2 w hw;repeat first|refine byW ?_|refine byV ?_;intro w hw
  refine lApp (i:=0) (rows2:=xs.map cF) ?_ ((RdS.cons hr).rd hw) rfl rfl hw rfl (List.all_eq_true.2 (cFs_one xs)) (by simpa using hn)
  intro v' w hw;repeat first|refine byW ?_|refine byV ?_;intro w hw
  exact⟨_,rfl,v',rfl,by simpa using hw⟩
theorem Clone_vals{Γ:Gho}{S:List Res}{w:World}{v:Value}{xs:List Val}(hr:RepS Γ v 3 (xs.map enc))(hN:xs.length≤1000000)(hw:Wd Γ S w) :
  Calls Tryz.prog 126 #[v] w fun e w'=>∃v',e=.returned v'∧Wd Γ (.own v' 41 3 (xs.map enc)::S) w':=by
 obtain⟨a,n,c,rfl,hn,hnc,hc⟩:=hr.shape;simp only[List.length_map]at hn
 refine calls_of_W Tryz.func126 rfl rfl ?_
 repeat first|refine byW ?_|refine byV ?_;intro w hw
 refine W_cond rfl (fun h=>?_) (fun h=>?_)
 ·repeat first|refine byW ?_|refine byV ?_;intro w hw
  have hx:xs=[]:=by
   cases a with
   | none=>
    cases xs with
    | nil=>rfl
    | cons x xs=>have:=(hr.rd hw).at_ (by simp);cases this
   | some a=>cases h
  subst hx;exact⟨_,rfl,_,rfl,Wd.addNil hw⟩
 ·repeat first|refine byW ?_|refine byV ?_;intro w hw
  refine lBuildSlice [] ?_
  intro a2 w hw;repeat first|refine byW ?_|refine byV ?_;intro w hw
  refine lApp (i:=0) (rows2:=xs.map enc) ?_ (hr.rd hw) rfl rfl hw rfl (encs_one xs) (by simpa using hn)
  intro v' w hw;repeat first|refine byW ?_|refine byV ?_;intro w hw
  exact⟨_,rfl,v',rfl,by simpa using hw⟩
def cmpV:Value:=.func (.func 52) #[] #[]
def eqF(x y:FactH):Bool:=decide (cFact x.fact y.fact=0)
theorem eqcl_any{Γ:Gho}{S:List Res}{w:World}{b3:Nat}{f g:FactH}(hf:FOk Γ f)(hg:FOk Γ g)(hw:Wd Γ (.blk b3 (.cells #[cmpV] 126)::S) w) :
  Calls Tryz.prog 197 #[.agg (cF f).toArray,.agg (cF g).toArray,.pointer (some ⟨b3,0,none⟩)] w fun e w'=>e=.returned (.bool (eqF f g))∧Wd Γ (.blk b3 (.cells #[cmpV] 126)::S) w':=by
 have hC:=pg_cmpF hf hg
 obtain⟨fr,fa,fn,fc,fs⟩:=f;obtain⟨gr,ga,gn,gc,gs⟩:=g;refine calls_of_W Tryz.func197 rfl rfl ?_
 repeat first|refine byW ?_|refine byV ?_;intro w hw
 refine lBox ?_;intro b1 w hw;refine lBox ?_;intro b2 w hw;have hw:Wd Γ (.blk b2 (.cells #[.string gr,.slice ga gn gc] 67)::.blk b1 (.cells #[.string fr,.slice fa fn fc] 67)::.blk b3 (.cells #[cmpV] 126)::S) w:=hw
 repeat first|refine byW ?_|refine byV ?_;intro w hw
 refine lCallv (fst:=[]) (cap:=[]) ?_
 refine(hC.h _ _ hw).mono ?_
 rintro e w ⟨rfl,hw⟩
 refine⟨_,rfl,?_⟩;repeat first|refine byW ?_|refine byV ?_;intro w hw
 exact⟨_,rfl,rfl,hw.drop.drop⟩
theorem Compact_any{Γ:Gho}{S:List Res}{w:World}{b3:Nat}{v:Value}(fs:List FactH)(hok:∀f∈fs,FOk Γ f)(hl:fs.length≤1000000)(hw:Wd Γ (.own v 67 2 (fs.map cF)::.blk b3 (.cells #[cmpV] 126)::S) w) :
  Calls Tryz.prog 196 #[v,.func (.func 197) #[] #[.pointer (some ⟨b3,0,none⟩)]] w fun e w'=>∃v',e=.returned v'∧Wd Γ (.own v' 67 2 ((cmpct eqF fs).map cF)::.blk b3 (.cells #[cmpV] 126)::S) w':=by
 obtain⟨a,n,c,rfl,hn,hnc,hc⟩:=hw.own_shape (i:=0) rfl
 simp only[List.length_map]at hn
 refine calls_of_W Tryz.func196 rfl rfl ?_
 repeat first|refine byW ?_|refine byV ?_;intro w hw
 refine W_cond rfl (fun h=>?_) (fun h=>?_)
 ·have h:n<2:=by have:=of_decide_eq_true h;omega
  repeat first|refine byW ?_|refine byV ?_;intro w hw
  have hE:cmpct eqF fs=fs:=by
   cases fs with
   | nil=>rfl
   | cons x fs=>
    cases fs with
    | nil=>rfl
    | cons y fs=>simp at hn;omega
  rw[hE];exact⟨_,rfl,_,rfl,hw⟩
 have h:2≤n:=by have:=of_decide_eq_false h;omega
 repeat first|refine byW ?_|refine byV ?_;intro w hw
 refine W_loop (fun μ ρ w=>∃(k:Nat),μ+k=n∧1≤k∧Has ρ [(0,.slice a n c),(1,.func (.func 197) #[] #[.pointer (some ⟨b3,0,none⟩)]),(5,.int .i64 k)]∧cmpct eqF (fs.take k)=fs.take k∧Wd Γ (.own (.slice a n c) 67 2 (fs.map cF)::.blk b3 (.cells #[cmpV] 126)::S) w) (n-1) ⟨1,by omega,by omega,⟨rfl,rfl,rfl,trivial⟩,?_,hw⟩ ?_
 ·cases fs with
  | nil=>rfl
  | cons x fs=>rfl
 clear hw;rintro μ ρ w ⟨k,hk,hk1,hρ,ho,hw⟩
 rw[hρ.eq];repeat first|refine byW ?_|refine byV ?_;intro w hw
 refine W_cond rfl (fun h=>?_) (fun h=>?_)
 ·have hkn:k<n:=by have:=of_decide_eq_true h;omega
  obtain⟨y,hy⟩:=get_lt (l:=fs) (k:=k) (by omega)
  obtain⟨x,hx0⟩:=get_lt (l:=fs) (k:=k-1) (by omega)
  have hx:fs[((k:Int)-1).toNat]? = some x:=by rw[show ((k:Int)-1).toNat=k-1 from by omega];exact hx0
  have hfy:=hok y (List.mem_of_getElem? hy)
  have hfx:=hok x (List.mem_of_getElem? hx0)
  have hsucc:=cmpct_succ (p:=eqF) (by omega) hy hx0
  repeat first|refine byW ?_|refine byV ?_;intro w hw
  refine W_quiet (by kernel_rfl) (by kernel_rfl) hw ?_
  iterate 10 (first|refine Q_nil ?_|(apply Q_plain;first|(apply Q_go;first|refine qP ?_|refine qPg ?_)|refine qY ?_)|(apply Q_guarded;first|(apply Q_go;first|refine qPG ?_|refine qPgG ?_)|refine qG ?_))
  refine qPsv (v:=.bool (eqF y x)) (cap:=[.pointer (some ⟨b3,0,none⟩)]) (vs:=[.agg (cF y).toArray,.agg (cF x).toArray]) (fun Y w hw=>?_) ?_
  ·have hw:Wd Γ (.blk b3 (.cells #[cmpV] 126)::(.own (.slice a n c) 67 2 (fs.map cF)::S++Y)) w:=hw.ps [1]
   refine(eqcl_any hfy hfx hw).mono ?_
   rintro e w ⟨rfl,hw⟩
   exact⟨rfl,hw.ps [1]⟩
  refine byQ ?_;intro w hw;refine W_cond rfl (fun h2=>?_) (fun h2=>?_)
  ·rw[if_pos h2]at hsucc;repeat first|refine byW ?_|refine byV ?_;intro w hw
   refine W_loop (fun μ ρ w=>∃(m q:Nat) (cur:List FactH),μ+(k+m)=n∧1≤m∧1≤q∧q<k+m∧Has ρ [(0,.slice a n c),(1,.func (.func 197) #[] #[.pointer (some ⟨b3,0,none⟩)]),(5,.int .i64 q),(6,.slice (cutA a k c 2) (n-k) (c-k)),(7,.int .i64 m)]∧cur.length=n∧cur.take q=cmpct eqF (fs.take (k+m))∧(∀i,k+m-1≤i→cur[i]? = fs[i]?)∧Wd Γ (.own (.slice a n c) 67 2 (cur.map cF)::.blk b3 (.cells #[cmpV] 126)::S) w) (n-(k+1)) ⟨1,k,fs,by omega,by omega,by omega,by omega,⟨rfl,rfl,rfl,rfl,rfl,trivial⟩,hn.symm,by rw[hsucc,ho],fun i _=>rfl,hw⟩ ?_
   clear hw hρ hsucc;rintro μ2 ρ w ⟨m,q,cur,hm,hm1,hq1,hq2,hρ,hcl,hcur,hsame,hw⟩
   rw[hρ.eq];repeat first|refine byW ?_|refine byV ?_;intro w hw
   refine W_cond rfl (fun h3=>?_) (fun h3=>?_)
   ·have hmn:k+m<n:=by have:=of_decide_eq_true h3;omega
    obtain⟨y2,hy2⟩:=get_lt (l:=fs) (k:=k+m) (by omega)
    obtain⟨x2,hx2⟩:=get_lt (l:=fs) (k:=k+m-1) (by omega)
    have hcy:(cur.drop k)[m]? = some y2:=by rw[List.getElem?_drop,hsame _ (by omega)];exact hy2
    have hcx:(cur.drop k)[((m:Int)-1).toNat]? = some x2:=by
     rw[List.getElem?_drop,hsame _ (by omega),show k+((m:Int)-1).toNat=k+m-1 from by omega];exact hx2
    have hfy2:=hok y2 (List.mem_of_getElem? hy2)
    have hfx2:=hok x2 (List.mem_of_getElem? hx2)
    have hsucc:=cmpct_succ (p:=eqF) (by omega) hy2 hx2
    have hlen:n-k=((cur.drop k).map cF).length:=by simp[hcl]
    have hR2:RdS Γ (.own (.slice a n c) 67 2 (cur.map cF)::.blk b3 (.cells #[cmpV] 126)::S) (.slice (cutA a k c 2) (n-k) (c-k)) 2 ((cur.drop k).map cF):=⟨_,_,_,rfl,hlen,by omega,by omega,fun w hw=>by
     have:=(Wd.own_rd (i:=0) hw rfl).cut (c:=c) (by simp;omega) k (by simp;omega)
     rwa [←List.map_drop]at this⟩
    repeat first|refine byW ?_|refine byV ?_;intro w hw
    refine W_quiet (by kernel_rfl) (by kernel_rfl) hw ?_
    iterate 10 (first|refine Q_nil ?_|(apply Q_plain;first|(apply Q_go;first|refine qP ?_|refine qPg ?_)|refine qY ?_)|(apply Q_guarded;first|(apply Q_go;first|refine qPG ?_|refine qPgG ?_)|refine qG ?_))
    refine qPsv (v:=.bool (eqF y2 x2)) (cap:=[.pointer (some ⟨b3,0,none⟩)]) (vs:=[.agg (cF y2).toArray,.agg (cF x2).toArray]) (fun Y w hw=>?_) ?_
    ·have hw:Wd Γ (.blk b3 (.cells #[cmpV] 126)::(.own (.slice a n c) 67 2 (cur.map cF)::S++Y)) w:=hw.ps [1]
     refine(eqcl_any hfy2 hfx2 hw).mono ?_
     rintro e w ⟨rfl,hw⟩
     exact⟨rfl,hw.ps [1]⟩
    refine byQ ?_;intro w hw;refine W_cond rfl (fun h4=>?_) (fun h4=>?_)
    ·have h4:eqF y2 x2=false:=by simpa using h4
     rw[if_neg (by rw[h4];decide)]at hsucc
     repeat first|refine byW ?_|refine byV ?_;intro w hw
     refine lStoreE ?_;intro w hw;have hw:Wd Γ (.own (.slice a n c) 67 2 ((cur.map cF).set q (cF y2))::.blk b3 (.cells #[cmpV] 126)::S) w:=hw
     rw[←List.map_set]at hw;repeat first|refine byW ?_|refine byV ?_;intro w hw
     refine⟨n-(k+(m+1)),by omega,m+1,q+1,cur.set q y2,by omega,by omega,by omega,by omega,⟨rfl,rfl,rfl,rfl,rfl,trivial⟩,by rw[List.length_set];exact hcl,?_,fun i hi=>?_,hw⟩
     ·rw[show k+(m+1)=k+m+1 from rfl,hsucc,←hcur,List.take_add_one,List.take_set_of_le (by omega),List.getElem?_set_self (by omega)];rfl
     ·rw[List.getElem?_set_ne (by omega)];exact hsame i (by omega)
    ·have h4:eqF y2 x2=true:=by simpa using h4
     rw[if_pos h4]at hsucc;repeat first|refine byW ?_|refine byV ?_;intro w hw
     exact⟨n-(k+(m+1)),by omega,m+1,q,cur,by omega,by omega,by omega,by omega,⟨rfl,rfl,rfl,rfl,rfl,trivial⟩,hcl,by rw[show k+(m+1)=k+m+1 from rfl,hsucc];exact hcur,fun i hi=>hsame i (by omega),hw⟩
   ·have hmn:k+m=n:=by have:=of_decide_eq_false h3;omega
    have hfn:fs.take n=fs:=List.take_of_length_le (by omega)
    rw[hmn,hfn]at hcur;have hqn:q≤n:=by omega
    have hw:=Wd.own_take (i:=0) (m:=q) hw rfl hqn
    rw[←List.map_take,hcur]at hw;have hw:Wd Γ (.own (.slice a q c) 67 2 ((cmpct eqF fs).map cF)::.blk b3 (.cells #[cmpV] 126)::S) w:=hw
    repeat first|refine byW ?_|refine byV ?_;intro w hw
    refine lClear ?_;intro w hw;repeat first|refine byW ?_|refine byV ?_;intro w hw
    exact⟨_,rfl,_,rfl,hw⟩
  ·rw[if_neg (by rw[h2];decide)]at hsucc
   repeat first|refine byW ?_|refine byV ?_;intro w hw
   refine⟨μ-1,by omega,k+1,by omega,by omega,⟨rfl,rfl,rfl,trivial⟩,?_,hw⟩
   rw[hsucc,ho,List.take_add_one,hy];rfl
 ·have hkn:¬k<n:=by have:=of_decide_eq_false h;omega
  rw[List.take_of_length_le (by omega)]at ho
  repeat first|refine byW ?_|refine byV ?_;intro w hw
  rw[ho];exact⟨_,rfl,_,rfl,hw⟩
end Go.Proofs.YtfoggcgogafocaaGreat
end
section
open Go Mk
namespace Go.Proofs.YtfoggcgogafocaaGreat
set_option maxHeartbeats 16000000
attribute [local irreducible] Calls cFact
def ValOk(v:Val):Prop:=(-9223372036854775808≤v.Num∧v.Num≤9223372036854775807)∧v.Word.size≤100000
def FactOk(x:Fact):Prop:=x.2.length≤100000∧x.1.size≤100000∧∀v∈x.2,ValOk v
def FsOk(Γ:Gho)(fs:List FactH):Prop:=∀f∈fs,FOk Γ f∧FactOk f.fact
theorem FsOk.mono{Γ Γ':Gho}{fs:List FactH}(h:FsOk Γ fs)(hl:Γ.le Γ'):FsOk Γ' fs:=fun f hf=>⟨(h f hf).1.mono hl,(h f hf).2⟩
def facts(fs:List FactH):List Fact:=fs.map FactH.fact
def setS(l:List Fact):List Fact:=setA cFact l
theorem sorted_any{Γ:Gho}{S:List Res}{w:World}{v:Value}(fs:List FactH)(hok:FsOk Γ fs)(hl:fs.length≤100000)(hr:RdS Γ S v 2 (fs.map cF))(hw:Wd Γ S w) :
  Calls Tryz.prog 125 #[v,cmpV] w fun e w'=>∃v' gs,e=.returned v'∧facts gs=setS (facts fs)∧FsOk Γ gs∧Wd Γ (.own v' 67 2 (gs.map cF)::S) w':=by
 refine calls_of_W Tryz.func125 rfl rfl ?_
 repeat first|refine byW ?_|refine byV ?_;intro w hw
 refine lBox ?_;intro b3 w hw;have hw:Wd Γ (.blk b3 (.cells #[cmpV] 126)::S) w:=hw
 repeat first|refine byW ?_|refine byV ?_;intro w hw
 refine lCall (vs:=[v]) ?_
 refine(Clone_facts hr.cons (by omega) hw).mono ?_
 rintro e w ⟨v1,rfl,hw⟩
 refine⟨_,rfl,?_⟩;repeat first|refine byW ?_|refine byV ?_;intro w hw
 refine lCall (vs:=[v1,cmpV]) ?_
 refine(sort_facts fs v1 (fun f hf=>(hok f hf).1) (by omega) hw).mono ?_
 rintro e w ⟨rfl,gs,hp,hs,hw⟩
 refine⟨_,rfl,?_⟩;have hokg:∀g∈gs,g∈fs:=fun g hg=>hp.mem_iff.1 hg
 have hgl:gs.length=fs.length:=hp.length_eq
 repeat first|refine byW ?_|refine byV ?_;intro w hw
 refine lCall (vs:=[v1,.func (.func 197) #[] #[.pointer (some ⟨b3,0,none⟩)]]) ?_
 refine(Compact_any gs (fun g hg=>(hok g (hokg g hg)).1) (by omega) hw).mono ?_
 rintro e w ⟨v2,rfl,hw⟩
 refine⟨_,rfl,?_⟩;repeat first|refine byW ?_|refine byV ?_;intro w hw
 refine⟨_,rfl,v2,cmpct eqF gs,rfl,?_,fun g hg=>hok g (hokg g (cmpct_mem_of hg)),hw.dropAt 1⟩
 refine cmpct_set cFact_ord FactH.fact hp (hs.imp fun {a b} h q=>?_)
 have:Go.Proofs.ltOf cFact b.fact a.fact=true:=cFact_ord.lt_iff.2 q
 have h:Go.Proofs.ltOf cFact b.fact a.fact=false:=h
 rw[this]at h;cases h
end Go.Proofs.YtfoggcgogafocaaGreat
end
section
open Go Mk
namespace Go.Proofs.YtfoggcgogafocaaGreat
set_option maxHeartbeats 16000000
attribute [local irreducible] Calls cFact
theorem wrap_rng(a:Int):-9223372036854775808≤IntKind.i64.wrap a∧IntKind.i64.wrap a≤9223372036854775807:=by
 rw[IntKind.wrap_i64];omega
section
variable {Γ:Gho}{S:List Res}{w:World}
attribute [local irreducible] scanS endP isS
end
end Go.Proofs.YtfoggcgogafocaaGreat
end
section
end
section
open Go Mk
namespace Go.Proofs.YtfoggcgogafocaaGreat
set_option maxHeartbeats 16000000
attribute [local irreducible] Calls cFact
def allStr(s:ByteArray):Bool:=(bts s).all inStrC
def textS(s:ByteArray):Bool:=allStr s&&decide (0<s.size)&&decide (s.size≤24)
def rightV(v:Val):Bool:=(decide (v.Kind=1)&&decide (v.Word=⟨#[]⟩))||(decide (v.Kind=2)&&decide (v.Num=0)&&textS v.Word)
def rightS(x:Fact):Bool:=nameS x.1&&decide (1≤x.2.length)&&decide (x.2.length≤8)&&x.2.all rightV
theorem inStr_at{s:ByteArray}{i:Nat}{b:UInt8}(h:(bts s)[i]? = some b):inStr (byteAt s i)=inStrC b:=by
 have:byteAt s i=(b.toNat:Int):=by
  show ((s.data.toList.getD i 0).toNat:Int)=_
  rw[List.getD_eq_getElem?_getD,show s.data.toList[i]? = some b from h];rfl
 rw[this];rfl
theorem allStr_t{s:ByteArray}(h:∀i,i<s.size→inStr (byteAt s i)=true):allStr s=true:=by
 refine List.all_eq_true.2 fun b hb=>?_
 obtain⟨i,hi⟩:=List.mem_iff_getElem?.1 hb
 have hlt:=(List.getElem?_eq_some_iff.1 hi).1
 rw[bts_len]at hlt;rw[←inStr_at hi];exact h i hlt
theorem allStr_f{s:ByteArray}{i:Nat}(hi:i<s.size)(h:inStr (byteAt s i)=false):allStr s=false:=by
 obtain⟨b,hb⟩:=get_lt (l:=bts s) (k:=i) (by rw[bts_len];exact hi)
 refine List.all_eq_false.2 ⟨b,List.mem_of_getElem? hb,?_⟩
 rw[←inStr_at hb,h];decide
theorem pc_isTextF(s:ByteArray)(hs:s.size≤100000):PC Tryz.prog 249 [.string s] (.bool (textS s)):=⟨fun w=>by
 refine calls_of_W Tryz.func249 rfl rfl ?_
 repeat first|refine byW ?_|refine byV ?_;intro w hw
 refine W_loop (fun μ ρ w'=>∃(k:Nat),μ+k=s.size∧Has ρ [(0,.string s),(3,.int .i64 k)]∧(∀i,i<k→inStr (byteAt s i)=true)∧w'=w) s.size ⟨0,by omega,⟨rfl,rfl,trivial⟩,fun i hi=>by omega,rfl⟩ ?_
 rintro μ ρ w' ⟨k,hk,hρ,hall,rfl⟩
 rw[hρ.eq];repeat first|refine byW ?_|refine byV ?_;intro w hw
 refine W_cond rfl (fun h=>?_) (fun h=>?_)
 ·have hkn:k<s.size:=by have:=of_decide_eq_true h;omega
  repeat first|refine byW ?_|refine byV ?_;intro w hw
  refine W_cond rfl (fun h2=>?_) (fun h2=>?_)
  ·repeat first|refine byW ?_|refine byV ?_;intro w hw
   refine⟨_,rfl,ret_b rfl ?_,rfl⟩
   have h3:inStr (byteAt s k)=false:=by
    have h2':(((decide (byteAt s k<32)||decide (126<byteAt s k))||decide (byteAt s k=34))||decide (byteAt s k=92))=true:=h2
    unfold inStr;simp only[Bool.or_eq_true,decide_eq_true_eq]at h2'
    simp only[Bool.and_eq_false_iff,decide_eq_false_iff_not]
    omega
   unfold textS;rw[allStr_f hkn h3];rfl
  ·repeat first|refine byW ?_|refine byV ?_;intro w hw
   refine⟨μ-1,by omega,k+1,by omega,⟨rfl,rfl,trivial⟩,fun i hi=>?_,rfl⟩
   by_cases e:i=k
   ·subst e;have h2':(((decide (byteAt s i<32)||decide (126<byteAt s i))||decide (byteAt s i=34))||decide (byteAt s i=92))=false:=h2
    unfold inStr;simp only[Bool.or_eq_false_iff,decide_eq_false_iff_not]at h2'
    simp only[Bool.and_eq_true,decide_eq_true_eq]
    omega
   ·exact hall i (by omega)
 ·have hkn:¬k<s.size:=by have:=of_decide_eq_false h;omega
  repeat first|refine byW ?_|refine byV ?_;intro w hw
  refine⟨_,rfl,ret_b rfl ?_,rfl⟩
  unfold textS;rw[allStr_t fun i hi=>hall i (by omega)]
  have e1:decide (s≠⟨#[]⟩)=decide (0<s.size):=by simp only[ne_nilB]
  rw[e1,Bool.true_and];congr 1
  rw[decide_eq_decide];omega⟩
theorem pg_right{Γ:Gho}{f:FactH}(hf:FOk Γ f)(ho:FactOk f.fact):PG Tryz.prog Γ 233 [.agg (cF f).toArray] (.bool (rightS f.fact)):=⟨fun S w hw=>by
 obtain⟨l1,l2,l3⟩:=hf.len;obtain⟨o1,o2,o3⟩:=ho;have hr:=hf
 unfold FOk FactH.hdr at hr;obtain⟨fr,fa,fn,fc,fs⟩:=f;simp only[FactH.fact]at l1 l2 l3 o1 o2 o3 hr ⊢
 haveI:SB fr:=⟨by omega⟩
 refine calls_of_W Tryz.func233 rfl rfl ?_
 repeat first|refine byW ?_|refine byV ?_;intro w hw
 refine lBox ?_;intro b1 w hw;have hw:Wd Γ (.blk b1 (.cells #[.string fr,.slice fa fn fc] 67)::S) w:=hw
 repeat first|refine byW ?_|refine byV ?_;intro w hw
 refine W_cond rfl (fun h=>?_) (fun h=>?_)
 ·repeat first|refine byW ?_|refine byV ?_;intro w hw
  refine⟨_,rfl,ret_b rfl ?_,hw.drop⟩
  unfold rightS;have h':((!nameS fr||decide ((fn:Int)<1))||decide (8<(fn:Int)))=true:=h
  simp only[Bool.or_eq_true,Bool.not_eq_true',decide_eq_true_eq]at h'
  symm
  rcases h' with (q|q)|q
  ·rw[q];rfl
  ·rw[show decide (1≤fs.length)=false from decide_eq_false (by omega)];simp
  ·rw[show decide (fs.length≤8)=false from decide_eq_false (by omega)];simp
 have h':((!nameS fr||decide ((fn:Int)<1))||decide (8<(fn:Int)))=false:=h
 simp only[Bool.or_eq_false_iff,Bool.not_eq_false',decide_eq_false_iff_not]at h'
 obtain⟨⟨q1,q2⟩,q3⟩:=h';have hR:rightS (fr,fs)=fs.all rightV:=by
  unfold rightS;rw[q1,show decide (1≤fs.length)=true from decide_eq_true (by omega),show decide (fs.length≤8)=true from decide_eq_true (by omega)];simp
 rw[hR];repeat first|refine byW ?_|refine byV ?_;intro w hw
 refine W_loop (fun μ ρ w=>∃(k:Nat),μ+k=fn∧Has ρ [(24,.slice fa fn fc),(25,.int .i64 fn),(26,.int .i64 k)]∧fs.all rightV=(fs.drop k).all rightV∧Wd Γ S w) fn ⟨0,by omega,⟨rfl,rfl,rfl,trivial⟩,rfl,hw.drop⟩ ?_
 clear hw;rintro μ ρ w ⟨k,hk,hρ,ho,hw⟩
 rw[hρ.eq];repeat first|refine byW ?_|refine byV ?_;intro w hw
 refine W_cond rfl (fun h2=>?_) (fun h2=>?_)
 ·have hkn:k<fn:=by have:=of_decide_eq_true h2;omega
  obtain⟨v,hv⟩:=get_lt (l:=fs) (k:=k) (by omega)
  rw[drop_get hv]at ho;have hvo:=o3 v (List.mem_of_getElem? hv)
  have hT:=pc_isTextF v.Word hvo.2
  repeat first|refine byW ?_|refine byV ?_;intro w hw
  refine lAlloc ?_;intro b4 w hw;refine lStore ?_;intro w hw;have hw:Wd Γ (.blk b4 (.cells (enc v).toArray 41)::S) w:=hw
  repeat first|refine byW ?_|refine byV ?_;intro w hw
  refine W_cond rfl (fun h3=>?_) (fun h3=>?_)
  ·repeat first|refine byW ?_|refine byV ?_;intro w hw
   refine⟨_,rfl,ret_b rfl ?_,hw.drop⟩
   have h3':(!(decide (v.Kind=1)&&decide (v.Word=⟨#[]⟩)) && !(decide (v.Kind=2)&&decide (v.Num=0)&&textS v.Word))=true:=h3
   have:rightV v=false:=by
    unfold rightV;simp only[Bool.and_eq_true,Bool.not_eq_true']at h3'
    rw[h3'.1,h3'.2];rfl
   rw[ho,List.all_cons,this];rfl
  ·repeat first|refine byW ?_|refine byV ?_;intro w hw
   refine⟨μ-1,by omega,k+1,by omega,⟨rfl,rfl,rfl,trivial⟩,?_,hw.drop⟩
   have h3':(!(decide (v.Kind=1)&&decide (v.Word=⟨#[]⟩)) && !(decide (v.Kind=2)&&decide (v.Num=0)&&textS v.Word))=false:=h3
   have:rightV v=true:=by
    unfold rightV;rw[Bool.and_eq_false_iff,Bool.not_eq_false',Bool.not_eq_false']at h3';rw[Bool.or_eq_true];exact h3'
   rw[ho,List.all_cons,this];rfl
 ·repeat first|refine byW ?_|refine byV ?_;intro w hw
  refine⟨_,rfl,ret_b rfl ?_,hw⟩
  rw[ho,drop_none fs (by have:=of_decide_eq_false h2;omega)];rfl⟩
end Go.Proofs.YtfoggcgogafocaaGreat
end
section
open Go Mk
namespace Go.Proofs.YtfoggcgogafocaaGreat
set_option maxHeartbeats 16000000
attribute [local irreducible] Calls cFact
end Go.Proofs.YtfoggcgogafocaaGreat
end
section
open Go Mk
namespace Go.Proofs.YtfoggcgogafocaaGreat
set_option maxHeartbeats 16000000
attribute [local irreducible] Calls cFact
section
variable {Γ:Gho}{S:List Res}{w:World}{b:Nat}
end
end Go.Proofs.YtfoggcgogafocaaGreat
end
section
open Go Mk
namespace Go.Proofs.YtfoggcgogafocaaGreat
set_option maxHeartbeats 16000000
attribute [local irreducible] Calls cFact
end Go.Proofs.YtfoggcgogafocaaGreat
end
section
open Go Mk
namespace Go.Proofs.YtfoggcgogafocaaGreat
set_option maxHeartbeats 16000000
attribute [local irreducible] Calls cFact
section
variable {Γ:Gho}{S:List Res}{w:World}{b:Nat}
abbrev boxF(b:Nat)(f:FactH):Res:=.blk b (.cells (cF f).toArray 67)
end
end Go.Proofs.YtfoggcgogafocaaGreat
end
section
open Go Mk
namespace Go.Proofs.YtfoggcgogafocaaGreat
set_option maxHeartbeats 16000000
attribute [local irreducible] Calls cFact
end Go.Proofs.YtfoggcgogafocaaGreat
end
section
open Go Mk
namespace Go.Proofs.YtfoggcgogafocaaGreat
set_option maxHeartbeats 16000000
attribute [local irreducible] Calls cFact
end Go.Proofs.YtfoggcgogafocaaGreat
end
section
open Go
namespace Mk
attribute [local irreducible] Calls
section
variable {P:Program}{n:Nat}{ops:List Oper}{Γ:Gho}{K:List Res}{wr tc stab:List (List Nat)}{Q:Fr→World→Prop}{i:Nat}{rest:List Oper}{ρ:Fr}{M:Nat→Fr→List Res}
variable {d:Option Tmp}{ty:TypeId}{pos:String}{es:Array Edge}{f:Nat}{args:List Operand}{tys:Array TypeId}
theorem mCallG{c:Nat}{F:Fr→List Res}(F':Fr→List Res)(vs:Fr→List Value)[FnOk P f]
  (hs:∀g w Y,Wd Γ (F (ovr (stab.getD c []) g noFr)++(K++Y)) w→Calls P f (vs (ovr (stab.getD c []) g noFr)).toArray w fun e w'=>∃u,e=.returned u∧Wd Γ (F' (ovr (stab.getD c []) (putO g d u) noFr)++(K++Y)) w')
  (h:MSw (mV P n ops Γ K wr tc stab) Q (i+1) rest ⟨putO ρ d undef,setC M c F'⟩) (hM:M c=F:=by first|exact setC_self|exact ml1|exact ml2|exact((setC_other (by decide)).trans setC_self)|exact rfl) (hw0:wr.getD i []=[c]:=by exact rfl) (ht:tc.getD i []=[c]:=by exact rfl) (hfr:freeD stab d=true:=by exact rfl) (ha:∀g,EvL (ovr stab.flatten g ρ) args (vs (ovr (stab.getD c []) g noFr)):=by intro g;exact byEV) :
  MSw (mV P n ops Γ K wr tc stab) Q i (⟨d,.call { callee:=.value (.func f),args:=args.toArray,argTypes:=tys },ty,pos,es,none⟩::rest) ⟨ρ,M⟩:=
 mS (v:=undef) F' (fun g w Y hw=>s_call (ha g).eqA ((hs g w Y hw).mono fun e w' ⟨u,h1,h2⟩=>⟨u,h1,fun hh=>(by rw[hfr]at hh;cases hh),h2⟩)) h hM hw0 ht rfl
end
end Mk
end
section
open Go Mk
namespace Go.Proofs.YtfoggcgogafocaaGreat
set_option maxHeartbeats 16000000
attribute [local irreducible] Calls cFact
abbrev ownA(g:FactH):Res:=.own g.hdr 41 3 (g.Args.map enc)
theorem freezeAll{Γ:Gho}{S:List Res}{w:World}:∀(gs:List FactH),Wd Γ (gs.map ownA++S) w→∃Γ',Γ.le Γ'∧(∀g∈gs,FOk Γ' g)∧Wd Γ' S w
 | [],h=>⟨Γ,Gho.le.refl _,(fun g hg=>by cases hg),h⟩
 | g::gs,h=>by
  obtain⟨Γ1,l1,r1,h1⟩:=Wd.freeze (h:Wd Γ (ownA g::(gs.map ownA++S)) w)
  obtain⟨Γ2,l2,r2,h2⟩:=freezeAll gs h1
  refine⟨Γ2,l1.trans l2,fun x hx=>?_,h2⟩
  rcases List.mem_cons.1 hx with e|e
  ·rw[e];exact RepS.mono r1 l2
  ·exact r2 x e
def FsOk0(gs:List FactH):Prop:=∀g∈gs,FactOk g.fact
theorem setO_any{Γ:Gho}{S:List Res}{w:World}{v:Value}(fs:List FactH)(hok:FsOk Γ fs)(hl:fs.length≤100000)(hr:RdS Γ S v 2 (fs.map cF))(hw:Wd Γ S w) :
  Calls Tryz.prog 74 #[v] w fun e w'=>∃v' gs,e=.returned v'∧facts gs=setS (facts fs)∧FsOk0 gs∧Wd Γ (.own v' 67 2 (gs.map cF)::(gs.map ownA++S)) w':=by
 refine calls_of_W Tryz.func74 rfl rfl ?_
 repeat first|refine byW ?_|refine byV ?_;intro w hw
 refine lCall (vs:=[v,cmpV]) ?_
 refine(sorted_any fs hok hl hr hw).mono ?_
 clear hw;rintro e w ⟨v1,gs0,rfl,hgs0,hok0,hw⟩
 refine⟨_,rfl,?_⟩;obtain⟨a,n,c,rfl,hn,hnc,hc⟩:=hw.own_shape (i:=0) rfl
 simp only[List.length_map]at hn
 repeat first|refine byW ?_|refine byV ?_;intro w hw
 refine W_loop (fun μ ρ w=>∃(gs hs:List FactH),μ+gs.length=n∧gs.length+hs.length=n∧Has ρ [(3,.slice a n c),(8,.int .i64 n),(9,.int .i64 (gs.length:Nat))]∧facts (gs++hs)=setS (facts fs)∧FsOk Γ hs∧FsOk0 gs∧Wd Γ (.own (.slice a n c) 67 2 ((gs++hs).map cF)::(gs.map ownA++S)) w) n ⟨[],gs0,by simp,by simp[hn],⟨rfl,rfl,rfl,trivial⟩,hgs0,hok0,(fun g hg=>by cases hg),hw⟩ ?_
 clear hw hgs0 hok0 hn hok hr;rintro μ ρ w ⟨gs,hs,hk,hn,hρ,hgs,hok,hok1,hw⟩
 rw[hρ.eq];repeat first|refine byW ?_|refine byV ?_;intro w hw
 refine W_cond rfl (fun h=>?_) (fun h=>?_)
 ·have hkn:gs.length<n:=by have:=of_decide_eq_true h;omega
  cases hs with
  | nil=>simp at hn;omega
  | cons g hs=>
   have hg:(gs++g::hs)[gs.length]? = some g:=by rw[List.getElem?_append_right (Nat.le_refl _)];simp
   obtain⟨hf,hal⟩:=hok g (by simp)
   have hal1:g.Args.length≤100000:=hal.1
   have hll:(gs++g::hs).length=n:=by rw[List.length_append];exact hn
   repeat first|refine byW ?_|refine byV ?_;intro w hw
   refine lCall (vs:=[g.hdr]) ?_
   refine(Clone_vals (S:=.own (.slice a n c) 67 2 ((gs++g::hs).map cF)::(gs.map ownA++S)) hf (by omega) hw).mono ?_
   clear hw;rintro e w ⟨v2,rfl,hw⟩
   refine⟨_,rfl,?_⟩;obtain⟨a2,n2,c2,rfl,-,-,-⟩:=hw.own_shape (i:=0) rfl
   repeat first|refine byW ?_|refine byV ?_;intro w hw
   refine lStoreEf (i:=1) (r:=[.slice a2 n2 c2]) ?_ (rows_map hg)
   intro w hw;have hw:Wd Γ (.own (.slice a2 n2 c2) 41 3 (g.Args.map enc)::.own (.slice a n c) 67 2 (((gs++g::hs).map cF).set gs.length (cF ⟨g.Rel,a2,n2,c2,g.Args⟩))::(gs.map ownA++S)) w:=hw
   have e2:((gs++g::hs).map cF).set gs.length (cF ⟨g.Rel,a2,n2,c2,g.Args⟩)=((gs++[(⟨g.Rel,a2,n2,c2,g.Args⟩:FactH)])++hs).map cF:=by
    rw[←List.map_set,List.set_append_right _ _ (Nat.le_refl _),Nat.sub_self,List.set_cons_zero,List.append_assoc];rfl
   rw[e2]at hw;repeat first|refine byW ?_|refine byV ?_;intro w hw
   refine⟨μ-1,by omega,gs++[⟨g.Rel,a2,n2,c2,g.Args⟩],hs,by simp;omega,by simp at hn ⊢;omega,⟨rfl,rfl,by simp;rfl,trivial⟩,?_,fun x hx=>hok x (by simp[hx]),fun x hx=>?_,?_⟩
   ·rw[←hgs];unfold facts;simp[FactH.fact]
   ·rcases List.mem_append.1 hx with q|q
    ·exact hok1 x q
    ·rw[List.mem_singleton.1 q];exact hal
   ·have e3:((gs++[(⟨g.Rel,a2,n2,c2,g.Args⟩:FactH)]).map ownA++S)=gs.map ownA++(ownA ⟨g.Rel,a2,n2,c2,g.Args⟩::S):=by simp
    rw[e3];exact hw.perm ((List.Perm.swap _ _ _).trans (List.Perm.cons _ List.perm_middle.symm))
 ·have hkn:¬gs.length<n:=by have:=of_decide_eq_false h;omega
  have hs0:hs=[]:=List.eq_nil_of_length_eq_zero (by omega)
  subst hs0;rw[List.append_nil]at hw hgs
  repeat first|refine byW ?_|refine byV ?_;intro w hw
  exact⟨_,rfl,_,gs,rfl,hgs,hok1,hw⟩
structure RL(Γ:Gho)(v:Value)(fs:List FactH):Prop where
 rep:RepS Γ v 2 (fs.map cF)
 ok:FsOk Γ fs
theorem RL.mono{Γ Γ':Gho}{v:Value}{fs:List FactH}(h:RL Γ v fs)(hl:Γ.le Γ'):RL Γ' v fs:=⟨h.rep.mono hl,h.ok.mono hl⟩
theorem RL.nil{Γ:Gho}:RL Γ (.slice none 0 0) []:=⟨RepS.nil,fun f hf=>by cases hf⟩
theorem RL.len{Γ:Gho}{v:Value}{fs:List FactH}(h:RL Γ v fs):∃a c,v=.slice a fs.length c∧fs.length≤c∧c≤9223372036854775807:=by
 obtain⟨a,n,c,h1,h2,h3,h4⟩:=h.rep.shape;simp only[List.length_map]at h2
 subst h2;exact⟨a,c,h1,h3,h4⟩
theorem freezeL{Γ:Gho}{S:List Res}{w:World}{v:Value}{gs:List FactH}(hok:FsOk0 gs)(hw:Wd Γ (.own v 67 2 (gs.map cF)::(gs.map ownA++S)) w):∃Γ',Γ.le Γ'∧RL Γ' v gs∧Wd Γ' S w:=by
 obtain⟨Γ1,l1,r1,h1⟩:=hw.freeze;obtain⟨Γ2,l2,r2,h2⟩:=freezeAll gs h1
 exact⟨Γ2,l1.trans l2,⟨r1.mono l2,fun g hg=>⟨r2 g hg,hok g hg⟩⟩,h2⟩
def insS(l:List Fact)(f:Fact):List Fact×Int:=if rightS f=true then (if (setS (l++[f])).length≤8192 then (setS (l++[f]),0) else ([],15)) else ([],63)
section
variable {Γ:Gho}{S:List Res}{w:World}
theorem Insert_any{v:Value}{f:FactH}(fs:List FactH)(hok:FsOk Γ fs)(hl:fs.length≤50000)(hf:FOk Γ f)(hfo:FactOk f.fact)(hr:RdS Γ S v 2 (fs.map cF))(hw:Wd Γ S w) :
  Calls Tryz.prog 194 #[v,.agg (cF f).toArray] w fun e w'=>∃Γ' v' gs,Γ.le Γ'∧e=.returned (.tuple #[v',.int .i64 (insS (facts fs) f.fact).2])∧facts gs=(insS (facts fs) f.fact).1∧RL Γ' v' gs∧Wd Γ' S w':=by
 obtain⟨a,n,c,rfl,hn,hnc,hc⟩:=hr.shape;simp only[List.length_map]at hn
 have hR:=pg_right hf hfo
 have hall:FsOk Γ (fs++[f]):=fun x hx=>by
  rcases List.mem_append.1 hx with q|q
  ·exact hok x q
  ·rw[List.mem_singleton.1 q];exact⟨hf,hfo⟩
 refine calls_of_W Tryz.func194 rfl rfl ?_
 repeat first|refine byW ?_|refine byV ?_;intro w hw
 refine lBox ?_;intro b w hw;have hw:Wd Γ (boxF b f::S) w:=hw
 repeat first|refine byW ?_|refine byV ?_;intro w hw
 refine W_cond rfl (fun h=>?_) (fun h=>?_)
 ·have h:rightS f.fact=false:=by simpa using h
  have hI:insS (facts fs) f.fact=([],63):=if_neg (by rw[h];decide)
  rw[hI];repeat first|refine byW ?_|refine byV ?_;intro w hw
  exact⟨_,rfl,Γ,_,[],Gho.le.refl _,rfl,rfl,RL.nil,hw.drop⟩
 have h:rightS f.fact=true:=by simpa using h
 repeat first|refine byW ?_|refine byV ?_;intro w hw
 refine W_mixE 2 [[],[0],[],[1],[0],[0],[0]] [[],[0],[],[1],[0,1],[0],[0]] [[11,14,15,6],[13]] ?_
 refine byM ?_;refine mCallG (c:=0) (F:=fun _=>[]) (fun g=>[.own (g 11) 67 2 (fs.map cF)]) (fun _=>[.slice a n c]) (fun g w Y hw=>?_) ?_
 ·have hR2:RdS Γ ((boxF b f::S)++Y) (.slice a n c) 2 (fs.map cF):=RdS.app (RdS.cons hr)
  refine(Clone_facts hR2 (by omega) hw).mono ?_
  rintro e w ⟨v1,rfl,hw⟩
  exact⟨v1,rfl,hw⟩
 refine byM ?_;refine mBuild [cF f] ?_
 refine mAppOwn2 (rows2:=[cF f]) ?_ (cFs_one [f]) (hb:=by simp;omega) (h63:=by simp;omega)
 refine mCallG (c:=0) (F:=fun g=>[.own (g 14) 67 2 (fs.map cF++[cF f])]) (exC (fun (t:Value×List FactH) g=>g 15=t.1∧facts t.2=setS (facts fs++[f.fact])∧FsOk0 t.2) fun t=>.own t.1 67 2 (t.2.map cF)::t.2.map ownA) (fun g=>[g 14]) (fun g w Y hw=>?_) ?_
 ·have hw:Wd Γ ([.own (ovr [11,14,15,6] g noFr 14) 67 2 ((fs++[f]).map cF)]++((boxF b f::S)++Y)) w:=by rw[List.map_append];exact hw
  refine(setO_any (fs++[f]) hall (by simp;omega) (RdS.own (i:=0) hw rfl) hw).mono ?_
  clear hw;rintro e w ⟨v1,gs,rfl,h1,h2,hw⟩
  have h1:facts gs=setS (facts fs++[f.fact]):=by rw[h1];unfold facts;rw[List.map_append];rfl
  refine⟨v1,rfl,exC_mk (v1,gs) ⟨rfl,h1,h2⟩ ?_⟩
  have hw:Wd Γ ((.own v1 67 2 (gs.map cF)::gs.map ownA)++(.own (ovr [11,14,15,6] g noFr 14) 67 2 ((fs++[f]).map cF)::((boxF b f::S)++Y))) w:=hw
  exact(hw.perm List.perm_middle).drop
 refine mPureX (c:=0) (T:=Value×List FactH) (φ:=fun t g=>g 15=t.1∧facts t.2=setS (facts fs++[f.fact])∧FsOk0 t.2) (fun t=>t.1) (fun t g w Y ht _=>y_assign ht.1) ?_ (hφ:=fun t g u h=>h)
 refine mEnd fun w g hw=>?_
 have hw:Wd Γ ((boxF b f::S)++(exC (fun (t:Value×List FactH) g=>(g 15=t.1∧facts t.2=setS (facts fs++[f.fact])∧FsOk0 t.2)∧g 6=t.1) (fun t=>.own t.1 67 2 (t.2.map cF)::t.2.map ownA) (ovr [11,14,15,6] g noFr)++([.own (g 13) 67 2 [cF f]]++[]))) w:=hw
 obtain⟨⟨v1,gs⟩,⟨⟨-,h1,h2⟩,e6⟩,hw⟩:=exC_open hw.swapApp
 have e6:g 6=v1:=e6
 have h1:facts gs=setS (facts fs++[f.fact]):=h1
 have h2:FsOk0 gs:=h2
 obtain⟨Γ1,l1,hL,hw⟩:=freezeL h2 hw
 have hw5:Wd Γ1 (boxF b f::S) w:=hw.left
 have hgl:gs.length=(setS (facts fs++[f.fact])).length:=by rw[←h1];unfold facts;rw[List.length_map]
 have hL:RL Γ1 v1 gs:=hL
 obtain⟨a6,c6,rfl,k1,k2⟩:=hL.len;have hw:Wd Γ1 (boxF b f::S) w:=hw5
 refine W_has (l:=[(6,.slice a6 gs.length c6)]) ⟨e6,trivial⟩ fun ρ hρ=>?_
 rw[hρ.eq];repeat first|refine byW ?_|refine byV ?_;intro w hw
 refine W_cond rfl (fun h5=>?_) (fun h5=>?_)
 ·have h5:8192<gs.length:=by have:=of_decide_eq_true h5;omega
  have hI:insS (facts fs) f.fact=([],15):=by unfold insS;rw[if_pos h,if_neg (by omega)]
  rw[hI];repeat first|refine byW ?_|refine byV ?_;intro w hw
  exact⟨_,rfl,Γ1,_,[],l1,rfl,rfl,RL.nil,hw.drop⟩
 ·have h5:gs.length≤8192:=by have:=of_decide_eq_false h5;omega
  have hI:insS (facts fs) f.fact=(setS (facts fs++[f.fact]),0):=by unfold insS;rw[if_pos h,if_pos (by omega)]
  rw[hI];repeat first|refine byW ?_|refine byV ?_;intro w hw
  exact⟨_,rfl,Γ1,_,gs,l1,rfl,h1,hL,hw.drop⟩
end
end Go.Proofs.YtfoggcgogafocaaGreat
end
section
open Go Mk
namespace Go.Proofs.YtfoggcgogafocaaGreat
set_option maxHeartbeats 16000000
attribute [local irreducible] Calls cFact
section
variable {Γ:Gho}
end
end Go.Proofs.YtfoggcgogafocaaGreat
end
section
open Go Mk
namespace Go.Proofs.YtfoggcgogafocaaGreat
set_option maxHeartbeats 16000000
attribute [local irreducible] Calls cFact
theorem filt_succ{p:FactH→Bool}{fs:List FactH}{j:Nat}{x:FactH}(h:fs[j]? = some x):(fs.take (j+1)).filter p=if p x=true then (fs.take j).filter p++[x] else (fs.take j).filter p:=by
 rw[List.take_add_one,h,List.filter_append];show _++[x].filter p=_
 rw[List.filter_cons];split <;> simp
section
variable {Γ:Gho}{S:List Res}{w:World}{b:Nat}
end
end Go.Proofs.YtfoggcgogafocaaGreat
end
section
open Go Mk
namespace Go.Proofs.YtfoggcgogafocaaGreat
set_option maxHeartbeats 16000000
attribute [local irreducible] Calls cFact
theorem addK_spec(fs:List FactH)(f:FactH):∀k,k≤fs.length→(∀j x,addK fs f k≤j→j<k→fs[j]? = some x→0<cFact x.fact f.fact)∧(∀m x,addK fs f k=m+1→fs[m]? = some x→¬0<cFact x.fact f.fact)
 | 0,_=>⟨fun j x h1 h2 _=>by omega,fun m x h=>by cases h⟩
 | k+1,hk=>by
  obtain⟨x,hx⟩:=get_lt (l:=fs) (k:=k) (by omega)
  by_cases h:0<cFact x.fact f.fact
  ·have e:addK fs f (k+1)=addK fs f k:=by
    conv=>lhs;unfold addK
    rw[hx];exact if_pos h
   obtain⟨h1,h2⟩:=addK_spec fs f k (by omega)
   rw[e];refine⟨fun j y hj hjk hy=>?_,h2⟩
   by_cases e2:j=k
   ·subst e2;rw[hx]at hy;cases hy;exact h
   ·exact h1 j y hj (by omega) hy
  ·have e:addK fs f (k+1)=k+1:=by
    conv=>lhs;unfold addK
    rw[hx];exact if_neg h
   rw[e];refine⟨fun j y hj hjk _=>by omega,fun m y hm hy=>?_⟩
   have:m=k:=by omega
   subst this;rw[hx]at hy;cases hy;exact h
theorem facts_app{a b:List FactH}:facts (a++b)=facts a++facts b:=by unfold facts;rw[List.map_append]
theorem facts_mem{fs:List FactH}{x:Fact}:x∈facts fs↔∃f∈fs,f.fact=x:=by unfold facts;exact List.mem_map
theorem addF_set{fs:List FactH}{f:FactH}(ha:(facts fs).Pairwise fun a b=>cFact a b = -1):SetOf cFact (facts fs++[f.fact]) (facts (addF fs f)):=by
 obtain⟨h1,h2⟩:=addK_spec fs f fs.length (Nat.le_refl _)
 have hgt:∀ {x:FactH},0<cFact x.fact f.fact→cFact f.fact x.fact = -1:=fun {x} h=>by
  rw[cFact_ord.anti];rcases cFact_ord.rng x.fact f.fact with r|r|r <;> omega
 have hK:=addK_le fs f fs.length
 unfold addF;generalize addK fs f fs.length=k at *
 cases k with
 | zero=>
  refine⟨?_,fun x=>?_⟩
  ·show (f.fact::facts fs).Pairwise _
   refine List.pairwise_cons.2 ⟨fun y hy=>?_,ha⟩
   obtain⟨z,hz,rfl⟩:=facts_mem.1 hy
   obtain⟨j,hj⟩:=List.mem_iff_getElem?.1 hz
   exact hgt (h1 j z (Nat.zero_le _) (List.getElem?_eq_some_iff.1 hj).1 hj)
  ·show x∈f.fact::facts fs↔_
   rw[List.mem_cons,List.mem_append,List.mem_singleton,or_comm]
 | succ k=>
  obtain⟨y,hy⟩:=get_lt (l:=fs) (k:=k) (by omega)
  have hny:=h2 k y rfl hy
  simp only[hy]
  by_cases e:cFact y.fact f.fact=0
  ·rw[if_pos e];have e2:=cFact_ord.eq0 e
   refine⟨ha,fun x=>?_⟩
   rw[List.mem_append,List.mem_singleton];refine⟨fun h=>.inl h,fun h=>h.elim id fun q=>?_⟩
   rw[q,←e2];exact facts_mem.2 ⟨y,List.mem_of_getElem? hy,rfl⟩
  ·rw[if_neg e];have hyl:cFact y.fact f.fact = -1:=by rcases cFact_ord.rng y.fact f.fact with r|r|r <;> omega
   have hsplit:facts fs=facts (fs.take (k+1))++facts (fs.drop (k+1)):=by rw[←facts_app,List.take_append_drop]
   rw[hsplit]at ha;obtain⟨p1,p2,p3⟩:=List.pairwise_append.1 ha
   have hye:facts (fs.take (k+1))=facts (fs.take k)++[y.fact]:=by rw[List.take_add_one,hy,facts_app];rfl
   refine⟨?_,fun x=>?_⟩
   ·rw[facts_app];show (facts (fs.take (k+1))++f.fact::facts (fs.drop (k+1))).Pairwise _
    refine List.pairwise_append.2 ⟨p1,List.pairwise_cons.2 ⟨fun z hz=>?_,p2⟩,fun a hA b hB=>?_⟩
    ·obtain⟨z',hz',rfl⟩:=facts_mem.1 hz
     obtain⟨j,hj⟩:=List.mem_iff_getElem?.1 hz'
     rw[List.getElem?_drop]at hj;exact hgt (h1 _ z' (by omega) (List.getElem?_eq_some_iff.1 hj).1 hj)
    ·rcases List.mem_cons.1 hB with q|q
     ·rw[q];rw[hye]at hA p1
      rcases List.mem_append.1 hA with r|r
      ·exact cFact_ord.trans ((List.pairwise_append.1 p1).2.2 a r y.fact (List.mem_singleton.2 rfl)) hyl
      ·rw[List.mem_singleton.1 r];exact hyl
     ·exact p3 a hA b q
   ·rw[hsplit,facts_app];show x∈facts (fs.take (k+1))++f.fact::facts (fs.drop (k+1))↔_
    simp only[List.mem_append,List.mem_cons,List.mem_singleton,List.not_mem_nil,or_false]
    constructor
    ·rintro (h|h|h)
     ·exact .inl (.inl h)
     ·exact .inr h
     ·exact .inl (.inr h)
    ·rintro ((h|h)|h)
     ·exact .inl h
     ·exact .inr (.inr h)
     ·exact .inr (.inl h)
theorem setF_set(fs:List FactH):facts (setF fs)=setS (facts fs):=by
 refine SetOf.eq cFact_ord ?_
 have key:∀(l acc:List FactH) (D:List Fact),SetOf cFact D (facts acc)→SetOf cFact (D++facts l) (facts (l.foldl addF acc)):=by
  intro l;induction l with
  | nil=>intro acc D h;show SetOf cFact (D++[]) _;rw[List.append_nil];exact h
  | cons x l ih=>
   intro acc D h;have h1:=addF_set (f:=x) h.asc
   have:=ih (addF acc x) (D++[x.fact]) ⟨h1.asc,fun y=>by rw[h1.mem,List.mem_append,h.mem,List.mem_append]⟩
   rw[List.append_assoc]at this;exact this
 exact key fs [] [] ⟨List.Pairwise.nil,fun x=>Iff.rfl⟩
section
variable {Γ:Gho}{S:List Res}{w:World}
theorem SetR_any{v:Value}(fs:List FactH)(hok:∀x∈fs,FOk Γ x)(hl:fs.length≤100000)(hr:RdS Γ S v 2 (fs.map cF))(hw:Wd Γ S w) :
  Calls Tryz.prog 31 #[v] w fun e w'=>∃v',e=.returned v'∧Wd Γ (.own v' 67 2 ((setF fs).map cF)::S) w':=by
 obtain⟨a,n,c,rfl,hn,hnc,hc⟩:=hr.shape;simp only[List.length_map]at hn
 refine calls_of_W Tryz.func31 rfl rfl ?_
 repeat first|refine byW ?_|refine byV ?_;intro w hw
 refine W_loop (fun μ ρ w=>∃(k:Nat) (g:Value),μ+k=n∧Has ρ [(0,.slice a n c),(3,g),(4,.int .i64 k)]∧Wd Γ (.own g 67 2 ((setF (fs.take k)).map cF)::S) w) n ⟨0,.slice none 0 0,by omega,⟨rfl,rfl,rfl,trivial⟩,Wd.addNil hw⟩ ?_
 clear hw;rintro μ ρ w ⟨k,g,hk,hρ,hw⟩
 rw[hρ.eq];have hr2:RdS Γ (.own g 67 2 ((setF (fs.take k)).map cF)::S) (.slice a n c) 2 (fs.map cF):=hr.cons
 repeat first|refine byW ?_|refine byV ?_;intro w hw
 refine W_cond rfl (fun h=>?_) (fun h=>?_)
 ·have hkn:k<n:=by have:=of_decide_eq_true h;omega
  obtain⟨x,hx⟩:=get_lt (l:=fs) (k:=k) (by omega)
  have hsl:=setF_len (fs.take k)
  rw[List.length_take]at hsl;repeat first|refine byW ?_|refine byV ?_;intro w hw
  refine lCall (vs:=[g,.agg (cF x).toArray]) ?_
  refine(add_any Γ _ w g _ x (fun y hy=>hok y (List.mem_of_mem_take (setF_mem hy))) (hok x (List.mem_of_getElem? hx)) (by omega) hw).mono ?_
  rintro e w ⟨v',rfl,hw⟩
  refine⟨_,rfl,?_⟩;rw[←setF_succ hx]at hw;repeat first|refine byW ?_|refine byV ?_;intro w hw
  exact⟨μ-1,by omega,k+1,v',by omega,⟨rfl,rfl,rfl,trivial⟩,hw⟩
 ·have hkn:¬k<n:=by have:=of_decide_eq_false h;omega
  rw[List.take_of_length_le (by omega)]at hw
  repeat first|refine byW ?_|refine byV ?_;intro w hw
  exact⟨_,rfl,g,rfl,hw⟩
end
end Go.Proofs.YtfoggcgogafocaaGreat
end
section
open Go Mk
namespace Go.Proofs.YtfoggcgogafocaaGreat
set_option maxHeartbeats 16000000
attribute [local irreducible] Calls cFact
section
variable {Γ:Gho}{S:List Res}{w:World}
end
end Go.Proofs.YtfoggcgogafocaaGreat
end
section
open Go Mk
namespace Go.Proofs.YtfoggcgogafocaaGreat
set_option maxHeartbeats 16000000
attribute [local irreducible] Calls cFact
def selP(r:ByteArray)(m:Int)(x:Fact):Bool:=decide (x.1=r)&&decide ((x.2.length:Int)=m)
def selF(r:ByteArray)(m:Int)(x:FactH):Bool:=decide (x.Rel=r)&&decide ((x.N:Int)=m)
def selS(l:List Fact)(r:ByteArray)(m:Int):List Fact:=(setS l).filter (selP r m)
theorem selF_eq{Γ:Gho}{r:ByteArray}{m:Int}{x:FactH}(h:FOk Γ x):selF r m x=selP r m x.fact:=by
 have:=h.len.1
 unfold selF selP;rw[this];rfl
theorem facts_sel{Γ:Gho}{r:ByteArray}{m:Int}:∀ {fs:List FactH},(∀x∈fs,FOk Γ x)→facts (fs.filter (selF r m))=(facts fs).filter (selP r m)
 | [],_=>rfl
 | x::fs,h=>by
  have ih:=facts_sel (r:=r) (m:=m) (fs:=fs) fun y hy=>h y (List.mem_cons_of_mem _ hy)
  show facts ((x::fs).filter (selF r m))=(x.fact::facts fs).filter (selP r m)
  rw[List.filter_cons,List.filter_cons,selF_eq (h x List.mem_cons_self)];split
  ·show x.fact::facts _=_
   rw[ih]
  ·exact ih
section
variable {Γ:Gho}{S:List Res}{w:World}
theorem Select_any{v:Value}{r:ByteArray}{m:Int}(fs:List FactH)(hok:FsOk Γ fs)(hl:fs.length≤50000)(hr:RepS Γ v 2 (fs.map cF))(hw:Wd Γ S w) :
  Calls Tryz.prog 34 #[v,.string r,.int .i64 m] w fun e w'=>∃v' gs,e=.returned v'∧facts gs=selS (facts fs) r m∧FsOk0 gs∧Wd Γ (.own v' 67 2 (gs.map cF)::(gs.map ownA++S)) w':=by
 obtain⟨a,n,c,rfl,hn,hnc,hc⟩:=hr.shape;simp only[List.length_map]at hn
 refine calls_of_W Tryz.func34 rfl rfl ?_
 repeat first|refine byW ?_|refine byV ?_;intro w hw
 refine W_loop (fun μ ρ w=>∃(k:Nat) (g:Value),μ+k=n∧Has ρ [(1,.string r),(2,.int .i64 m),(7,g),(10,.slice a n c),(11,.int .i64 n),(12,.int .i64 k)]∧Wd Γ (.own g 67 2 (((fs.take k).filter (selF r m)).map cF)::S) w) n ⟨0,.slice none 0 0,by omega,⟨rfl,rfl,rfl,rfl,rfl,rfl,trivial⟩,Wd.addNil hw⟩ ?_
 clear hw;rintro μ ρ w ⟨k,g,hk,hρ,hw⟩
 rw[hρ.eq];repeat first|refine byW ?_|refine byV ?_;intro w hw
 refine W_cond rfl (fun h=>?_) (fun h=>?_)
 ·have hkn:k<n:=by have:=of_decide_eq_true h;omega
  obtain⟨x,hx⟩:=get_lt (l:=fs) (k:=k) (by omega)
  have hxo:=(hok x (List.mem_of_getElem? hx)).1
  have hsucc:=filt_succ (p:=selF r m) hx
  have hfl:=List.length_filter_le (selF r m) (fs.take k)
  rw[List.length_take]at hfl;repeat first|refine byW ?_|refine byV ?_;intro w hw
  refine lAlloc ?_;intro b9 w hw;refine lStore ?_;intro w hw;have hw:Wd Γ (boxF b9 x::.own g 67 2 (((fs.take k).filter (selF r m)).map cF)::S) w:=hw
  repeat first|refine byW ?_|refine byV ?_;intro w hw
  refine W_cond rfl (fun h3=>?_) (fun h3=>?_)
  ·have h3:selF r m x=true:=h3
   rw[if_pos h3]at hsucc;obtain⟨ag,ng,cg,rfl,hng,hngc,hcg⟩:=hw.own_shape (i:=1) rfl
   simp only[List.length_map]at hng
   repeat first|refine byW ?_|refine byV ?_;intro w hw
   refine lBuildSlice [cF x] ?_
   intro a29 w hw;refine lApp (i:=2) (rows2:=[cF x]) ?_ (Wd.own_rd (i:=0) hw rfl)
   intro v' w hw;repeat first|refine byW ?_|refine byV ?_;intro w hw
   have hw:Wd Γ (.own v' 67 2 (((fs.take k).filter (selF r m)).map cF++[cF x])::S) w:=hw.ds [0,0]
   rw[show ((fs.take k).filter (selF r m)).map cF++[cF x]=((fs.take (k+1)).filter (selF r m)).map cF from by rw[hsucc];simp]at hw
   exact⟨μ-1,by omega,k+1,v',by omega,⟨rfl,rfl,rfl,rfl,rfl,rfl,trivial⟩,hw⟩
  ·have h3:selF r m x=false:=h3
   rw[if_neg (by rw[h3];decide)]at hsucc
   repeat first|refine byW ?_|refine byV ?_;intro w hw
   exact⟨μ-1,by omega,k+1,g,by omega,⟨rfl,rfl,rfl,rfl,rfl,rfl,trivial⟩,by rw[hsucc];exact hw.drop⟩
 ·have hkn:¬k<n:=by have:=of_decide_eq_false h;omega
  rw[List.take_of_length_le (show fs.length≤k by omega)]at hw
  have hfl:=List.length_filter_le (selF r m) fs
  repeat first|refine byW ?_|refine byV ?_;intro w hw
  refine lCall (vs:=[g]) ?_
  refine(setO_any (fs.filter (selF r m)) (fun x hx=>hok x (List.mem_filter.1 hx).1) (by omega) (RdS.own (i:=0) hw rfl) hw).mono ?_
  clear hw;rintro e w ⟨v1,gs,rfl,h1,h2,hw⟩
  refine⟨_,rfl,?_⟩;repeat first|refine byW ?_|refine byV ?_;intro w hw
  refine⟨_,rfl,v1,gs,rfl,?_,h2,?_⟩
  ·rw[h1,facts_sel (fun x hx=>(hok x hx).1)];exact setA_filter cFact_ord _ _
  ·have hw:Wd Γ ((.own v1 67 2 (gs.map cF)::gs.map ownA)++(.own g 67 2 ((fs.filter (selF r m)).map cF)::S)) w:=hw
   exact(hw.perm List.perm_middle).drop
end
end Go.Proofs.YtfoggcgogafocaaGreat
end
section
open Go Mk
namespace Go.Proofs.YtfoggcgogafocaaGreat
set_option maxHeartbeats 4000000
structure Opd where
 Var:ByteArray
 Const:Val
 deriving DecidableEq,Inhabited
instance:GoT Opd where
 enc a:=[.string a.Var,.int .i64 a.Const.Kind,.int .i64 a.Const.Num,.string a.Const.Word]
 inj a b h:=by
  obtain⟨v,k,n,x⟩:=a;obtain⟨v',k',n',x'⟩:=b;simp at h
  simp[h]
 ks:=[1,5,5,1]
 kinds a:=rfl
structure Goal where
 Kind:Int
 Rel:ByteArray
 Args:List Opd
 Op:Int
 L:Opd
 R:Opd
 Off:Int
 Low:Int
 High:Int
structure Query where
 Sel:List ByteArray
 Goals:List Goal
structure GoalH where
 g:Goal
 A:Option Addr
 N:Nat
 C:Nat
def GoalH.hdr(x:GoalH):Value:=.slice x.A x.N x.C
def cG(x:GoalH):List Value:=
 [.int .i64 x.g.Kind,.string x.g.Rel,x.hdr,.int .i64 x.g.Op,.string x.g.L.Var,.int .i64 x.g.L.Const.Kind,.int .i64 x.g.L.Const.Num,.string x.g.L.Const.Word,
  .string x.g.R.Var,.int .i64 x.g.R.Const.Kind,.int .i64 x.g.R.Const.Num,.string x.g.R.Const.Word,.int .i64 x.g.Off,.int .i64 x.g.Low,.int .i64 x.g.High]
def GOk(Γ:Gho)(x:GoalH):Prop:=RepS Γ x.hdr 4 (x.g.Args.map enc)
theorem GOk.mono{Γ Γ':Gho}{x:GoalH}(h:GOk Γ x)(hle:Γ.le Γ'):GOk Γ' x:=RepS.mono h hle
theorem GOk.len{Γ:Gho}{f:GoalH}(h:GOk Γ f):f.N=f.g.Args.length∧f.N≤f.C∧f.C≤9223372036854775807:=by
 obtain⟨a,n,c,h1,h2,h3,h4⟩:=RepS.shape h
 unfold GoalH.hdr at h1;cases h1
 exact⟨by simpa using h2,h3,h4⟩
abbrev strRowsQ(l:List ByteArray):List (List Value):=l.map fun s=>[.string s]
structure QR(Γ:Gho)(vs vg:Value)(gs:List GoalH)(q:Query):Prop where
 sel:RepS Γ vs 1 (strRowsQ q.Sel)
 goals:RepS Γ vg 15 (gs.map cG)
 eq:gs.map (·.g)=q.Goals
 ok:∀x∈gs,GOk Γ x
theorem QR.mono{Γ Γ':Gho}{vs vg:Value}{gs:List GoalH}{q:Query}(h:QR Γ vs vg gs q)(hle:Γ.le Γ'):QR Γ' vs vg gs q:=
 ⟨h.sel.mono hle,h.goals.mono hle,h.eq,fun x hx=>(h.ok x hx).mono hle⟩
def I64(v:Int):Prop:=-9223372036854775808≤v∧v≤9223372036854775807
def OpdOk(o:Opd):Prop:=o.Var.size≤100000∧ValOk o.Const
structure GoalOk(g:Goal):Prop where
 rel:g.Rel.size≤100000
 len:g.Args.length≤1000
 args:∀o∈g.Args,OpdOk o
 l:OpdOk g.L
 r:OpdOk g.R
 off:I64 g.Off
 low:I64 g.Low
 high:I64 g.High
structure QueryOk(q:Query):Prop where
 sel:q.Sel.length≤1000
 names:∀s∈q.Sel,s.size≤100000
 len:q.Goals.length≤1000
 goals:∀g∈q.Goals,GoalOk g
def zVal:Val:=⟨0,0,⟨#[]⟩⟩
def zOpd:Opd:=⟨⟨#[]⟩,zVal⟩
def noS:ByteArray:=⟨#[]⟩
def anyS:ByteArray:=⟨#[95]⟩
def isAtomB(g:Goal):Bool:=decide (g.Kind=1)||decide (g.Kind=2)
def opsG(g:Goal):List Opd:=if g.Kind=1∨g.Kind=2 then g.Args else if g.Kind=3 then [g.L,g.R] else if g.Kind=4 then [g.L] else []
def hasN(l:List ByteArray)(s:ByteArray):Bool:=l.any fun t=>decide (t=s)
theorem hasN_iff{l:List ByteArray}{s:ByteArray}:hasN l s=true↔s∈l:=by
 unfold hasN;rw[List.any_eq_true];exact⟨fun⟨x,hx,he⟩=>by rw[←of_decide_eq_true he];exact hx,fun h=>⟨s,h,decide_eq_true rfl⟩⟩
def addN(l:List ByteArray)(s:ByteArray):List ByteArray:=if hasN l s=true then l else l++[s]
def isNm(s:ByteArray):Bool:=decide (s≠noS)&&decide (s≠anyS)
def allN(q:Query):List ByteArray:=q.Sel++q.Goals.flatMap fun g=>(opsG g).map (·.Var)
def namedQ(q:Query):List ByteArray:=((allN q).filter isNm).foldl addN []
def okLim(q:Query):Bool:=decide (1≤q.Goals.length)&&decide (q.Goals.length≤16)&&decide (q.Sel.length≤8)&&(q.Goals.all fun g=>!isAtomB g||(decide (1≤g.Args.length)&&decide (g.Args.length≤8)))&&decide ((namedQ q).length≤8)
def shapeG(g:Goal):Bool:=
 if g.Kind=1∨g.Kind=2 then decide (g.Op=0)&&decide (g.L=zOpd)&&decide (g.R=zOpd)&&decide (g.Off=0)&&decide (g.Low=0)&&decide (g.High=0)
 else if g.Kind=3 then decide (g.Rel=noS)&&decide (g.Args.length=0)&&decide (g.Low=0)&&decide (g.High=0)
 else if g.Kind=4 then decide (g.Rel=noS)&&decide (g.Args.length=0)&&decide (g.Op=0)&&decide (g.R=zOpd)&&decide (g.Off=0)&&decide (g.L.Var≠noS)
 else false
def plainO(o:Opd):Bool:=decide (o.Var=noS)||decide (o.Const=zVal)
def okShape(q:Query):Bool:=q.Goals.all fun g=>shapeG g&&(opsG g).all plainO
def fstS(s:ByteArray):Int:=byteAt s 0
def varS(s:ByteArray):Bool:=nameS s&&decide (65≤fstS s)&&decide (fstS s≤90)
def kwS(s:ByteArray):Bool:=decide (s=⟨#[115,101,108,101,99,116]⟩)||decide (s=⟨#[119,104,101,114,101]⟩)||decide (s=⟨#[110,111,116]⟩)||decide (s=⟨#[105,110]⟩)
def nameO(g:Goal)(o:Opd):Bool:=!(decide (o.Var=noS) && !rightV o.Const) && !(decide (o.Var=anyS) && !isAtomB g) && !(decide (o.Var≠noS)&&decide (o.Var≠anyS) && !varS o.Var)
def nameG(g:Goal):Bool:=!(isAtomB g&&(!nameS g.Rel||kwS g.Rel))&&(opsG g).all (nameO g)
def okNames(q:Query):Bool:=q.Sel.all varS&&q.Goals.all nameG
def numG(g:Goal):Bool:=
 if g.Kind=3 then decide (1≤g.Op)&&decide (g.Op≤6)&&decide (g.Off≠-9223372036854775808)
 else if g.Kind=4 then decide (g.Low≤g.High)&&decide (g.High-g.Low≤1000000) else true
def okNum(q:Query):Bool:=q.Goals.all numG
def boundQ(q:Query):List ByteArray:=q.Goals.flatMap fun g=>if g.Kind=1∨g.Kind=4 then (opsG g).map (·.Var) else []
def okSafe(q:Query):Bool:=(namedQ q).all fun s=>hasN (boundQ q) s
def valE(q:Query):Int:=
 if okLim q=false then 15 else if okShape q=false then 50 else if okNames q=false then 63 else if okNum q=false then 6 else if ¬q.Sel.Nodup then 56 else if okSafe q=false then 62 else 0
abbrev Env:=List (ByteArray×Val)
def cmpS(l r off:Int):Int:=cI l (r+off)
def opB(op c:Int):Bool:=if op=1 then decide (c=0) else if op=2 then decide (c≠0) else if op=3 then decide (c<0) else if op=4 then decide (c≤0) else if op=5 then decide (0<c) else decide (0≤c)
def holdsS(g:Goal)(l r:Val):Bool:=
 if g.Off=0∧g.Op=1 then decide (l=r) else if g.Off=0∧g.Op=2 then decide (l≠r)
 else if l.Kind≠1∨r.Kind≠1 then false else opB g.Op (cmpS l.Num r.Num g.Off)
def getE(e:Env)(s:ByteArray):Val:=(aGet e s).getD zVal
def valO(e:Env)(o:Opd):Val:=if o.Var≠noS then getE e o.Var else o.Const
def fit1(e:Env)(o:Opd)(v:Val):Bool:=
 if o.Var=anyS then true else if o.Var=noS then decide (o.Const=v) else match aGet e o.Var with|some u=>decide (u=v)|none=>rightV v
def fitsS(e:Env):List Opd→List Val→Bool
 | o::os,v::vs=>fit1 e o v&&fitsS e os vs
 | [],_=>true
 | _::_,[]=>false
def bindS(e:Env):List Opd→List Val→Option Env
 | o::os,v::vs=>if o.Var=noS∨o.Var=anyS then bindS e os vs else match aGet e o.Var with
  | some u=>if u=v then bindS e os vs else none
  | none=>bindS (e++[(o.Var,v)]) os vs
 | _,_=>some e
def doneG(e:Env)(gt:Goal×List Fact):Bool:=
 if gt.1.Kind=3 then holdsS gt.1 (valO e gt.1.L) (valO e gt.1.R) else if gt.1.Kind=2 then !(gt.2.any fun f=>fitsS e gt.1.Args f.2) else true
def rowS(sel:List ByteArray)(e:Env):List Val:=sel.map (getE e)
def finS(all:List (Goal×List Fact))(sel:List ByteArray)(e:Env):List (List Val):=if all.all (doneG e) then [rowS sel e] else []
def withS(f:Env→List (List Val))(e:Env)(os:List Opd)(vs:List Val):List (List Val):=match bindS e os vs with|some e'=>f e'|none=>[]
def rngV(low:Int)(n:Nat):Val:=⟨1,low+n,⟨#[]⟩⟩
def srch(fin:Env→List (List Val)):List (Goal×List Fact)→Env→List (List Val)
 | [],e=>fin e
 | (g,t)::r,e=>
  if g.Kind=1 then t.flatMap fun f=>if fitsS e g.Args f.2 then withS (srch fin r) e g.Args f.2 else []
  else if g.Kind=4 then match aGet e g.L.Var with
   | some v=>if v.Kind=1∧g.Low≤v.Num∧v.Num≤g.High then srch fin r e else []
   | none=>(List.range (g.High-g.Low+1).toNat).flatMap fun n=>withS (srch fin r) e [g.L] [rngV g.Low n]
  else srch fin r e
def tabS(db:List Fact)(g:Goal):List Fact:=if g.Kind=1∨g.Kind=2 then selS db g.Rel g.Args.length else []
def goalsT(db:List Fact)(q:Query):List (Goal×List Fact):=q.Goals.map fun g=>(g,tabS db g)
def factor(db:List Fact)(g:Goal):Nat:=if g.Kind=1 then max (tabS db g).length 1 else if g.Kind=4 then (g.High-g.Low+1).toNat else 1
def workN(db:List Fact)(gs:List Goal):Nat:=gs.foldl (fun n g=>n*factor db g) 1
def rawS(db:List Fact)(q:Query):List (List Val):=srch (finS (goalsT db q) q.Sel) (goalsT db q) []
def solS(db:List Fact)(q:Query):List (List Val):=setA (cL cV) (rawS db q)
def solveE(db:List Fact)(q:Query):Int:=if valE q≠0 then valE q else if 1000000<workN db q.Goals then 15 else 0
def solveS(db:List Fact)(q:Query):List (List Val):=if solveE db q=0 then solS db q else []
theorem flatMap_len{α β:Type}{f:α→List β}{m:Nat}:∀ {l:List α},(∀x∈l,(f x).length≤m)→(l.flatMap f).length≤l.length*m
 | [],_=>by simp
 | x::l,h=>by
  rw[List.flatMap_cons,List.length_append,List.length_cons,Nat.succ_mul];have h1:=h x (by simp)
  have h2:=flatMap_len (f:=f) (m:=m) (l:=l) fun y hy=>h y (by simp[hy])
  omega
def facG(gt:Goal×List Fact):Nat:=if gt.1.Kind=1 then max gt.2.length 1 else if gt.1.Kind=4 then (gt.1.High-gt.1.Low+1).toNat else 1
def prodG:List (Goal×List Fact)→Nat
 | []=>1
 | gt::r=>facG gt*prodG r
theorem withS_len{f:Env→List (List Val)}{m:Nat}(h:∀e,(f e).length≤m){e:Env}{os:List Opd}{vs:List Val}:(withS f e os vs).length≤m:=by
 unfold withS;split
 ·exact h _
 ·exact Nat.zero_le _
theorem srch_len{fin:Env→List (List Val)}(h:∀e,(fin e).length≤1):∀(r:List (Goal×List Fact)),(∀gt∈r,gt.1.Kind=4→gt.1.Low≤gt.1.High)→∀e,(srch fin r e).length≤prodG r
 | [],_,e=>h e
 | (g,t)::r,hr,e=>by
  have ih:=srch_len h r fun gt hg=>hr gt (by simp[hg])
  have hp:prodG ((g,t)::r)=facG (g,t)*prodG r:=rfl
  rw[hp];unfold srch facG;by_cases k1:g.Kind=1
  ·rw[if_pos k1,if_pos (show (g,t).1.Kind=1 from k1)];refine Nat.le_trans (flatMap_len (m:=prodG r) fun f _=>?_) (Nat.mul_le_mul_right _ (Nat.le_max_left ..))
   split
   ·exact withS_len ih
   ·exact Nat.zero_le _
  rw[if_neg k1,if_neg (show ¬(g,t).1.Kind=1 from k1)];by_cases k4:g.Kind=4
  ·rw[if_pos k4,if_pos (show (g,t).1.Kind=4 from k4)];have hlh:=hr (g,t) (by simp) k4
   split
   ·split
    ·refine Nat.le_trans (ih e) ?_
     have:1≤(g.High-g.Low+1).toNat:=by
      have:g.Low≤g.High:=hlh
      omega
     exact Nat.le_trans (by omega) (Nat.mul_le_mul_right (prodG r) this)
    ·exact Nat.zero_le _
   ·have:=flatMap_len (m:=prodG r) (f:=fun n=>withS (srch fin r) e [g.L] [rngV g.Low n]) (l:=List.range (g.High-g.Low+1).toNat) fun n _=>withS_len ih
    rw[List.length_range]at this;exact this
  rw[if_neg k4,if_neg (show ¬(g,t).1.Kind=4 from k4),Nat.one_mul];exact ih e
theorem foldl_work{db:List Fact}:∀(gs:List Goal) (n:Nat),gs.foldl (fun n g=>n*factor db g) n=n*prodG (gs.map fun g=>(g,tabS db g))
 | [],n=>by simp[prodG]
 | g::gs,n=>by
  rw[List.foldl_cons,foldl_work gs];show n*factor db g*_=n*(facG (g,tabS db g)*prodG (gs.map fun g=>(g,tabS db g)))
  rw[Nat.mul_assoc];rfl
theorem workN_prod{db:List Fact}{q:Query}:workN db q.Goals=prodG (goalsT db q):=by
 unfold workN goalsT;rw[foldl_work,Nat.one_mul]
theorem finS_len{all:List (Goal×List Fact)}{sel:List ByteArray}(e:Env):(finS all sel e).length≤1:=by
 unfold finS;split <;> simp
end Go.Proofs.YtfoggcgogafocaaGreat
end
section
open Go
namespace Mk
attribute [local irreducible] Calls
section
variable {α β:Type}[DecidableEq α]
theorem aGet_cons'(a b:α)(v:β)(l:List (α×β)):aGet ((a,v)::l) b=if a=b then some v else aGet l b:=by
 unfold aGet aIx;by_cases h:a=b
 ·subst h;simp[List.findIdx?_cons]
 ·simp only[List.findIdx?_cons,decide_eq_true_eq,h,decide_false,Bool.false_eq_true,if_false]
  cases l.findIdx? (fun p=>decide (p.1=b)) <;> simp
end
section
variable {P:Program}{n:Nat}{ops:List Oper}{Γ:Gho}{K:List Res}{wr tc stab:List (List Nat)}{Q:Fr→World→Prop}{i:Nat}{rest:List Oper}{ρ:Fr}{M:Nat→Fr→List Res}
variable {ty T:TypeId}{pos:String}{es:Array Edge}{x y:Operand}
end
def hpG(Γ:Gho)(w:World):Gho:=⟨hp w,Γ.os,Γ.tape,Γ.out,Γ.dr⟩
theorem hpG_le{Γ:Gho}{S:List Res}{w:World}(h:Wd Γ S w):Γ.le (hpG Γ w):=⟨h.imm,rfl,rfl,rfl,rfl⟩
theorem hpG_wd{Γ:Gho}{S:List Res}{w:World}(h:Wd Γ S w):Wd (hpG Γ w) [] w:=⟨h.os,h.tape,h.out,h.dr,fun _ _ h=>h,[],trivial,by simp,by simp⟩
theorem Holds.noimm{m m' h}:∀(R:List Res) (bss:List (List Nat)),(∀r∈R,∀bs,r.holds m bs h→r.holds m' bs h)→Holds m R bss h→Holds m' R bss h
 | [],[],_,_=>trivial
 | r::R,bs::bss,hr,hh=>⟨hr r (by simp) bs hh.1,Holds.noimm R bss (fun r h=>hr r (by simp[h])) hh.2⟩
 | [],_::_,_,hh=>hh.elim
 | _::_,[],_,hh=>hh.elim
theorem wd_keptG{Γ Γ':Gho}{S R:List Res}{w w':World}(h:Wd Γ S w)(hle:(hpG Γ w).le Γ')(hR:∀r∈R,∀bs,r.holds Γ'.imm bs (hp w')→r.holds Γ.imm bs (hp w'))(h':Wd Γ' R w'):Wd Γ (R++S) w':=by
 obtain⟨cs,k6,k7,k8⟩:=h'.own;have him:=h.imm
 obtain⟨h1,h2,h3,h4,h5,dss,d6,d7,d8⟩:=h;have hat:∀b∈dss.flatten,∃o,w.heap[b]? = some o:=fun b hbm=>⟨_,Array.getElem?_eq_getElem (d8 b hbm).1⟩
 have hnew:∀b∈cs.flatten,w.heap[b]? = none:=fun b hbm=>by
  cases hq:w.heap[b]? with
  | none=>rfl
  | some o=>have:=hle.imm b o hq;rw[(k8 b hbm).2]at this;cases this
 have hold:∀b∈dss.flatten,b∉cs.flatten:=fun b hbm hbs=>by
  obtain⟨o,ho⟩:=hat b hbm
  rw[hnew b hbs]at ho;cases ho
 have hkeep:∀b∈dss.flatten,w'.heap[b]? = w.heap[b]?:=fun b hbm=>by
  obtain⟨o,ho⟩:=hat b hbm
  rw[ho];exact h'.imm b o (hle.imm b o ho)
 refine⟨h'.os.trans hle.os,h'.tape.trans hle.tape,h'.out.trans hle.out,by have:=h'.dr;rw[hle.dr]at this;exact this,fun b o hb=>h'.imm b o (hle.imm b o (him b o hb)),cs++dss,Holds.append _ _ _ _ (Holds.noimm R cs hR k6) (Holds.loc (fun b o h=>h) S dss hkeep d6),?_,?_⟩
 ·rw[List.flatten_append,List.nodup_append];exact⟨k7,d7,fun a ha b hb' e=>hold b hb' (e ▸ ha)⟩
 ·intro b hbm;rw[List.flatten_append,List.mem_append]at hbm;rcases hbm with hbm|hbm
  ·refine⟨(k8 b hbm).1,?_⟩
   cases hq:Γ.imm b with
   | none=>rfl
   | some o=>have:=him b o hq;rw[hnew b hbm]at this;cases this
  ·obtain⟨o,ho⟩:=hat b hbm
   have:=hkeep b hbm
   rw[ho]at this;exact⟨(Array.getElem?_eq_some_iff.1 this).1,(d8 b hbm).2⟩
theorem freeze_list{α:Type}{f:α→Value}{e sz:Nat}{g:α→List (List Value)}{S:List Res}{w:World}:∀(l:List α) {Γ:Gho},Wd Γ (l.map (fun x=>Res.own (f x) e sz (g x))++S) w→∃Γ',Γ.le Γ'∧(∀x∈l,RepS Γ' (f x) sz (g x))∧Wd Γ' S w
 | [],Γ,hw=>⟨Γ,.refl _,by simp,hw⟩
 | x::l,Γ,hw=>by
  obtain⟨Γ1,h1,h2,hw⟩:=Wd.freeze (S:=l.map (fun x=>Res.own (f x) e sz (g x))++S) hw
  obtain⟨Γ2,h3,h4,hw⟩:=freeze_list l hw
  refine⟨Γ2,h1.trans h3,fun y hy=>?_,hw⟩
  rcases List.mem_cons.1 hy with rfl|hy
  ·exact h2.mono h3
  ·exact h4 y hy
end Mk
end
section
open Go
namespace Mk
section
variable {P:Program}{Γ:Gho}{S:List Res}{w:World}{E n c g i:Nat}{α:Type}[Inhabited α]{f:α→Value}
theorem flatK_one(d:Array α):Go.Sort.flatK (fun x=>[f x]) 1 d=d.map f:=by
 refine Array.ext (by simp) fun i h1 h2=>?_
 have h3:i<d.size*1:=by simpa using h1
 rw[←getElem!_pos _ i h1,Go.Sort.get_flatK _ _ _ _ h3];have h4:i<d.size:=by omega
 have e1:i / 1=i:=Nat.div_one i
 have e2:i%1=0:=Nat.mod_one i
 rw[e1,e2,getElem!_pos d i h4];simp
theorem sortWorld_K1(w:World)(g m:Nat)(dk:Array α)(os:Array Obj):Go.Proofs.sortWorld f w g 0 m dk os=Go.Proofs.sortWorldK (fun x=>[f x]) 1 w g 0 m dk os:=by
 unfold Go.Proofs.sortWorld Go.Proofs.sortWorldK Go.Sort.putRowK Go.Sort.putRow;congr 2
 funext cs
 refine Array.ext (by simp[Go.Sort.putCells]) fun i h1 h2=>?_
 simp only[Go.Sort.putCells,Array.getElem_mapIdx,flatK_one,Array.size_map,Nat.zero_le,Nat.zero_add,true_and,Nat.sub_zero,id]
 by_cases h:i<dk.size
 ·rw[if_pos h,if_pos h,getElem!_pos dk i h,getElem!_pos (dk.map f) i (by simpa using h)];simp
 ·rw[if_neg h,if_neg h]
end
attribute [local irreducible] Calls
section
variable {P:Program}{n:Nat}{ops:List Oper}{Γ:Gho}{K:List Res}{wr tc stab:List (List Nat)}{Q:Fr→World→Prop}{i:Nat}{rest:List Oper}{ρ:Fr}{M:Nat→Fr→List Res}
variable {d:Option Tmp}{ty:TypeId}{pos:String}{es:Array Edge}{f:Nat}{args:List Operand}{tys:Array TypeId}{vs:List Value}{v:Value}
variable {x y:Operand}{T:TypeId}
end
theorem perm_count{α:Type}{l l':List α}(h:∀(_:DecidableEq α) (a:α),l.count a=l'.count a):l.Perm l':=by
 classical
 exact List.perm_iff_count.2 fun a=>h _ a
theorem byPM{l l':List Res}(h:∀(_:DecidableEq Res) (a:Res),l.count a=l'.count a:=by intro _ a;simp only[psL,pullL,List.getElem?_cons_zero,List.getElem?_cons_succ,List.eraseIdx_cons_succ,List.eraseIdx_cons_zero,List.cons_append,List.nil_append,List.count_append,List.count_cons,List.count_nil,List.map_cons,List.map_nil,Nat.add_zero,Nat.zero_add];ac_rfl):l.Perm l':=perm_count h
section
variable {P:Program}{n:Nat}{ops:List Oper}{Γ:Gho}{K:List Res}{wr tc stab:List (List Nat)}{Q:Fr→World→Prop}{i:Nat}{rest:List Oper}{ρ:Fr}{M:Nat→Fr→List Res}
variable {d:Option Tmp}{ty:TypeId}{pos:String}{es:Array Edge}{f:Nat}{args:List Operand}{tys:Array TypeId}{v:Value}
end
def inn(E sz:Nat)(L:List (Value×List (List Value))):List Res:=L.map fun p=>Res.own p.1 E sz p.2
section
variable {Γ:Gho}{S:List Res}{w:World}{E sz k:Nat}{L:List (Value×List (List Value))}{p q:Value×List (List Value)}
end
section
variable {P:Program}{n:Nat}{ops:List Oper}{Γ:Gho}{K:List Res}{wr tc stab:List (List Nat)}{Q:Fr→World→Prop}{i:Nat}{rest:List Oper}{ρ:Fr}{M:Nat→Fr→List Res}{T:Type}
variable {ty:TypeId}{pos:String}{es:Array Edge}
abbrev SlT:=Option Addr×Nat×Nat
def slV(t:SlT):Value:=.slice t.1 t.2.1 t.2.2
end
end Mk
end
section
open Go
namespace Mk
section
variable {P:Program}{Γ:Gho}{S:List Res}{w:World}{E n c g i:Nat}{α:Type}[Inhabited α]{f:α→Value}
theorem SortFunc_P{ρ:Go.Shelf.Ren}(L:Go.Proofs.SlLaysF.n6 P ρ)(hf1:∀x,(f x).oneCell'=true)(cf:α→α→Int)(fn:Nat)(cap:List Value)[FnOk P fn](xs:List α)(v:Value)(hw:Wd Γ S w)(hi:S[i]? = some (.own v E 1 (xs.map fun x=>[f x])))
  (hO:Go.Sort.SWO (Go.Proofs.ltOf cf)) (hlen:xs.length<4611686018427387904)
  (hcmp:∀(dk:List α) w',Wd Γ (S.set i (.own v E 1 (dk.map fun x=>[f x]))) w'→∀x y,Calls P fn (#[f x,f y]++cap.toArray) w' fun e w''=>e=.returned (.int .i64 (cf x y))∧∃S'',Wd (allG w') S'' w'') :
  Calls P (ρ.f 6) #[v,.func (.func fn) #[] cap.toArray] w fun e w'=>e=.returned (.tuple #[])∧∃ys:List α,ys.Perm xs∧(ys.Pairwise fun a b=>Go.Proofs.ltOf cf b a=false)∧Wd Γ (S.set i (.own v E 1 (ys.map fun x=>[f x]))) w':=by
 obtain⟨a,n,c,rfl,e2,e3,e4,e5⟩:=own_block hw hi
 have hn:n=xs.length:=by simpa using e2
 by_cases h0:n=0
 ·have hx:xs=[]:=List.eq_nil_of_length_eq_zero (by omega)
  subst h0;refine(Go.Proofs.AnyF.slices_SortFunc_none (P:=P) (ρ:=ρ) { L with } a c _ w).mono ?_
  rintro e w' ⟨he,rfl⟩
  refine⟨he,[],by rw[hx],List.Pairwise.nil,?_⟩
  rw[hx]at hi;have hset:S.set i (.own (.slice a 0 c) E 1 (([]:List α).map fun x=>[f x]))=S:=by
   obtain⟨hil,hie⟩:=List.getElem?_eq_some_iff.1 hi
   rw[←hie];exact List.set_getElem_self hil
  rw[hset];exact hw
 ·have hc:0<c:=by omega
  rcases e5 with e5|⟨g,cur,rfl,hg,hcur,hcs,htk⟩
  ·omega
  obtain⟨hH,hgl⟩:=own_holdsK (enc:=fun x:α=>[f x]) (k:=1) (fun _=>rfl) hw hi hc
  have hH1:Go.Sort.Holds f w g 0 xs.toArray:=fun j hj=>by
   have:=hH j (by simpa using hj)
   rw[flatK_one]at this;have hj:j<xs.length:=by simpa using hj
   simpa[hj] using this
  have:=Go.Proofs.Any.slices_SortFunc L f hf1 cf hO fn cap.toArray g 0 c xs.toArray w (fun args w=>run_callFunc args) (fun m os dk hdk x y=>?_) hH1 hgl (by simpa using hlen)
  ·simp only[List.size_toArray]at this
   rw[←hn]at this;refine this.mono ?_
   rintro e w' ⟨he,d',n',os,hp,hs,rfl⟩
   have hd:d'.size=xs.length:=by have:=hp.1;simpa using this
   refine⟨he,d'.toList,by simpa using permIn_list (d:=xs.toArray) (by simpa[←hn] using hp),sortedIn_list (m:=n) (by omega) hs,?_⟩
   rw[sortWorld_K1];exact own_sortWorld (enc:=fun x:α=>[f x]) (k:=1) (fun _=>rfl) hw hi hc d' hd n' os
  ·have hw1:=own_sortWorld (enc:=fun x:α=>[f x]) (k:=1) (fun _=>rfl) hw hi hc dk (by simpa using hdk) m os
   rw[←sortWorld_K1]at hw1;refine(hcmp dk.toList _ hw1 x y).mono ?_
   rintro e w'' ⟨he,S'',hw2⟩
   exact⟨he,allG_grow hw2⟩
end
def InBlX(id:Nat)(Q:List Deferred→Exit→Fr→World→Prop):List Deferred→Exit→Fr→World→Prop:=fun D=>InBl id (Q D)
section
variable {P:Program}{n:Nat}{Q:List Deferred→Exit→Fr→World→Prop}{D:List Deferred}{ρ:Fr}{w:World}
theorem WX_skip(h:Q D .normal ρ w):WX P n .skip Q D ρ w:=fun a hd hs hf=>wp_skip ⟨hs,by rw[hd,hf];exact h⟩
theorem WX_exit{id:Nat}(h:Q D (.exit id) ρ w):WX P n (.exit id) Q D ρ w:=fun a hd hs hf=>wp_exit ⟨hs,by rw[hd,hf];exact h⟩
theorem WX_block{id:Nat}{c:Code}(h:WX P n c (InBlX id Q) D ρ w):WX P n (.block id c) Q D ρ w:=fun a hd hs hf=>
 wp_block (Code.wp_mono (fun e a w ⟨q,r⟩=>by
  cases e <;> first|exact⟨q,r⟩|(simp only[InBlX,InBl]at r;simp only[Exit.inBlock];split <;> rename_i h <;> simp only[h,if_true,if_false]at r <;> exact⟨q,r⟩)) (h a hd hs hf))
theorem WX_loop{c:Code}(I:Nat→Fr→World→Prop)(m₀:Nat)(h0:I m₀ ρ w)
  (round:∀m ρ w,I m ρ w→WX P n c (ThenX (fun D' ρ' w'=>D'=D∧∃m'<m,I m' ρ' w') Q) D ρ w):WX P n (.loop c) Q D ρ w:=fun a hd hs hf=>
 wp_loop_ghost (fun m a w=>a.defers=D∧a.tmps.size=n∧I m (fnOf a) w) m₀ ⟨hd,hs,hf ▸ h0⟩ fun m a w ⟨p,q,r⟩=>
  Code.wp_mono (fun e a w ⟨q,r⟩=>by
   cases e <;> first|exact⟨q,r⟩|(obtain⟨hD,m',h1,h2⟩:=r;exact⟨m',h1,hD,q,h2⟩)) (round m _ w r a p q rfl)
theorem byX1{p G:Prop}(h:G)(e:G→p:=by intro h;first|exact WX_seq h|exact WX_block h|exact WX_region h|exact WX_skip h|exact WX_ret h|exact WX_exit h):p:=e h
end
section
variable {P:Program}
attribute [local semireducible] W
theorem callsD_of_W{f:FuncId}{fn:Func}{c:Code}{args:Array Value}{u:FrameMode}{w:World}{R:Ending→World→Prop}(hf:P.funcs[f]? = some fn)(hb:fn.body=some c)
  (hn:Nat.ble args.size fn.ntmps=true) (h:W P fn.ntmps c (Post fn.results R) (entryFr args) w):CallsD P f args u w fun e u' w'=>u'=u∧R e w':=by
 have hle:args.size≤fn.ntmps:=Nat.le_of_ble_eq_true hn
 refine callsD_of_wp hf hb (Code.wp_mono ?_ (h _ rfl (by simp;omega) (fnOf_entry hn)))
 rintro e a w ⟨hd,hs,hq⟩
 cases e with
 | normal=>obtain⟨v,hv,hR⟩:=hq;exact⟨hd,v,results_resVal hv,hR⟩
 | ret=>obtain⟨v,hv,hR⟩:=hq;exact⟨hd,v,results_resVal hv,hR⟩
 | panic ch=>exact⟨hd,hq⟩
 | outgrown=>exact hq
 | exit id=>exact hq.elim
 | goto l=>exact hq.elim
theorem leaves_one{fn:Func}{tmps:Array Value}{R:Ending→World→Prop}{f:Nat}{fst cap:Array Value}{w:World}[FnOk P f](h:CallsD P f (fst++cap) .returning w fun e u' w'=>u'=.returning∧(∃v,e=.returned v)∧∃v,(results fn tmps).run P w'=.ok v w'∧R (.returned v) w') :
  Leaves P fn tmps R [⟨.fn (.func f) cap,fst⟩] .returning w:=
 leaves_cons (by intro h;cases h) (run_callFunc _) (h.mono fun e u' w' ⟨h1,⟨v,h2⟩,h3⟩=>by subst h1;subst h2;exact h3)
end
end Mk
end
section
open Go Mk
namespace Go.Proofs.YtfoggcgogafocaaGreat
set_option maxHeartbeats 16000000
attribute [local irreducible] Calls cI cB
theorem sb_of{s:ByteArray}(h:s.size≤100000):SB s:=⟨by omega⟩
instance pc_reserved(s:ByteArray):PC Tryz.prog 123 [.string s] (.bool (kwS s)):=⟨fun w=>by
 refine calls_of_W Tryz.func123 rfl rfl ?_
 repeat first|refine byW ?_|refine byV ?_;intro w hw
 exact⟨_,rfl,rfl,rfl⟩⟩
theorem pc_isVariable{s:ByteArray}(h:s.size≤100000):PC Tryz.prog 121 [.string s] (.bool (varS s)):=⟨fun w=>by
 haveI:=sb_of h
 have hs0:nameS s=true→0<s.size:=fun hn=>by
  unfold nameS wordS at hn;simp only[Bool.and_eq_true,decide_eq_true_eq]at hn
  exact hn.1.1.1
 refine calls_of_W Tryz.func121 rfl rfl ?_
 repeat first|refine byW ?_|refine byV ?_;intro w hw
 refine lG ?_ (hv:=fun hc=>by exact y_idxS byOP byOP (by omega) (by have:=hs0 hc;omega))
 repeat first|refine byW ?_|refine byV ?_;intro w hw
 refine lG ?_ (hv:=fun hc=>by exact y_idxS byOP byOP (by omega) (by have:=hs0 (andL hc);omega))
 repeat first|refine byW ?_|refine byV ?_;intro w hw
 exact⟨_,rfl,rfl,rfl⟩⟩
instance pg_isAtom(Γ:Gho)(x:GoalH):PG Tryz.prog Γ 33 [.agg (cG x).toArray] (.bool (isAtomB x.g)):=⟨fun S w hw=>by
 refine calls_of_W Tryz.func33 rfl rfl ?_
 repeat first|refine byW ?_|refine byV ?_;intro w hw
 refine lBox ?_;intro b1 w hw;have hw:Wd Γ (.blk b1 (.cells (cG x).toArray 47)::S) w:=hw
 repeat first|refine byW ?_|refine byV ?_;intro w hw
 exact⟨_,rfl,rfl,hw.drop⟩⟩
instance pg_cmpVq(Γ:Gho)(a b:Val):PG Tryz.prog Γ 83 [.agg (enc a).toArray,.agg (enc b).toArray] (.int .i64 (cV a b)):=⟨fun S w hw=>by
 refine calls_of_W Tryz.func83 rfl rfl ?_
 repeat first|refine byW ?_|refine byV ?_;intro w hw
 refine lBox ?_;intro b1 w hw;refine lBox ?_;intro b2 w hw;have hw:Wd Γ (.blk b2 (.cells (enc b).toArray 41)::.blk b1 (.cells (enc a).toArray 41)::S) w:=hw
 repeat first|refine byW ?_|refine byV ?_;intro w hw
 refine W_mixC [.blk b2 _,.blk b1 _] S [20] [[],[],[],[],[],[],[],[],[],[],[],[],[],[],[],[0],[0],[]] hw ?_
 refine byM ?_;refine mStepX (v:=undef) (T':=Value) (fun t g=>g 20=t) (fun t=>.own t 3 1 ([cI a.Kind b.Kind,cI a.Num b.Num,cB a.Word b.Word].map fun x=>[.int .i64 x])::S) (fun t g w Y _ hw=>s_buildSlice (rws:=[cI a.Kind b.Kind,cI a.Num b.Num,cB a.Word b.Word].map fun x=>[.int .i64 x]) hw rfl rfl rfl (by simp) (by decide) fun q w' hw'=>⟨_,rfl,(fun h=>by cases h),hw'⟩) ?_
 refine mCallX (φ:=fun (t:Value) g=>g 20=t) (v:=.int .i64 (cV a b)) (T':=Value) (fun _ _=>True) (fun t=>.own t 3 1 ([cI a.Kind b.Kind,cI a.Num b.Num,cB a.Word b.Word].map fun x=>[.int .i64 x])::S) (fun t _=>[t]) (fun t g w Y ht hw=>?_) ?_ (ha:=fun t g ht=>EvL.cons ht EvL.nil)
 ·refine(Or_any _ hw (RdS.own (i:=0) hw rfl)).mono ?_
  rintro e w ⟨rfl,hw⟩
  refine⟨_,rfl,t,trivial,fun _=>?_,hw⟩
  unfold cV orL orL orL orL;rw[orI_r]
 refine byM ?_;refine mEndX fun t w g _ hw=>?_
 repeat first|refine byW ?_|refine byV ?_;intro w hw
 exact⟨_,rfl,rfl,hw.drop.left⟩⟩
theorem CompareFunc_g{Γ:Gho}{q:Nat}[FnOk Tryz.prog q](hq:∀a b:Val,PG Tryz.prog Γ q [.agg (enc a).toArray,.agg (enc b).toArray] (.int .i64 (cV a b))){va vb:Value}{xs ys:List Val}(ha:RepS Γ va 3 (xs.map enc))(hb:RepS Γ vb 3 (ys.map enc)) :
  PG Tryz.prog Γ 82 [va,vb,.func (.func q) #[] #[]] (.int .i64 (cL cV xs ys)):=⟨fun S w hw=>by
 obtain⟨a,n,c,rfl,hn,hnc,hc⟩:=ha.shape;obtain⟨a2,n2,c2,rfl,hn2,hnc2,hc2⟩:=hb.shape;simp only[List.length_map]at hn hn2
 refine calls_of_W Tryz.func82 rfl rfl ?_
 repeat first|refine byW ?_|refine byV ?_;intro w hw
 refine W_loop (fun μ ρ w=>∃(k:Nat),μ+k=n∧Has ρ [(0,.slice a n c),(1,.slice a2 n2 c2),(2,.func (.func q) #[] #[]),(11,.slice a n c),(12,.int .i64 n),(13,.int .i64 k)]∧cL cV xs ys=cL cV (xs.drop k) (ys.drop k)∧Wd Γ S w) n ⟨0,by omega,⟨rfl,rfl,rfl,rfl,rfl,rfl,trivial⟩,rfl,hw⟩ ?_
 clear hw;rintro μ ρ w ⟨k,hk,hρ,ho,hw⟩
 rw[hρ.eq];repeat first|refine byW ?_|refine byV ?_;intro w hw
 refine W_cond rfl (fun h=>?_) (fun h=>?_)
 ·have hkn:k<n:=by simpa using h
  obtain⟨x,hx⟩:=get_lt (l:=xs) (k:=k) (by omega)
  have hd:xs.drop k=x::xs.drop (k+1):=drop_get hx
  rw[hd]at ho;repeat first|refine byW ?_|refine byV ?_;intro w hw
  refine lAlloc ?_;intro b8 w hw;repeat first|refine byW ?_|refine byV ?_;intro w hw
  refine lStore ?_;intro w hw;have hw:Wd Γ (.blk b8 (.cells (enc x).toArray 41)::S) w:=hw
  repeat first|refine byW ?_|refine byV ?_;intro w hw
  refine W_cond rfl (fun h2=>?_) (fun h2=>?_)
  ·repeat first|refine byW ?_|refine byV ?_;intro w hw
   have h2:n2≤k:=by simpa using h2
   refine⟨_,rfl,ret_i rfl ?_,hw.drop⟩
   rw[ho,drop_none ys (by omega)];rfl
  ·have h2:k<n2:=by simpa using h2
   obtain⟨y,hy⟩:=get_lt (l:=ys) (k:=k) (by omega)
   rw[drop_get hy]at ho;have ho:cL cV xs ys=orI (cV x y) (cL cV (xs.drop (k+1)) (ys.drop (k+1))):=ho
   repeat first|refine byW ?_|refine byV ?_;intro w hw
   refine lAlloc ?_;intro b9 w hw;refine lStore ?_;intro w hw;have hw:Wd Γ (.blk b9 (.cells (enc y).toArray 41)::.blk b8 (.cells (enc x).toArray 41)::S) w:=hw
   repeat first|refine byW ?_|refine byV ?_;intro w hw
   refine lCallv (fst:=[]) (cap:=[]) ?_
   refine((hq x y).h _ _ hw).mono ?_
   rintro e w ⟨rfl,hw⟩
   refine⟨_,rfl,?_⟩;repeat first|refine byW ?_|refine byV ?_;intro w hw
   refine W_cond rfl (fun h3=>?_) (fun h3=>?_)
   ·repeat first|refine byW ?_|refine byV ?_;intro w hw
    have h3:¬cV x y=0:=by simpa using h3
    refine⟨_,rfl,ret_i rfl ?_,hw.drop.drop⟩
    rw[ho,orI_pos h3]
   ·repeat first|refine byW ?_|refine byV ?_;intro w hw
    have h3:cV x y=0:=by simpa using h3
    refine⟨μ-1,by omega,k+1,by omega,⟨rfl,rfl,rfl,rfl,rfl,rfl,trivial⟩,?_,hw.drop.drop⟩
    rw[ho,orI_null h3]
 ·have hkn:¬k<n:=by simpa using h
  rw[drop_none xs (by omega)]at ho
  repeat first|refine byW ?_|refine byV ?_;intro w hw
  refine W_cond rfl (fun h2=>?_) (fun h2=>?_)
  ·repeat first|refine byW ?_|refine byV ?_;intro w hw
   have h2:n<n2:=by simpa using h2
   obtain⟨y,hy⟩:=get_lt (l:=ys) (k:=k) (by omega)
   rw[drop_get hy]at ho;exact⟨_,rfl,ret_i rfl (by rw[ho];rfl),hw⟩
  ·repeat first|refine byW ?_|refine byV ?_;intro w hw
   have h2:¬n<n2:=by simpa using h2
   rw[drop_none ys (by omega)]at ho
   exact⟨_,rfl,ret_i rfl (by rw[ho];rfl),hw⟩⟩
theorem pg_rows{Γ:Gho}{va vb:Value}{xs ys:List Val}(ha:RepS Γ va 3 (xs.map enc))(hb:RepS Γ vb 3 (ys.map enc)):PG Tryz.prog Γ 37 [va,vb] (.int .i64 (cL cV xs ys)):=⟨fun S w hw=>by
 have hC:=CompareFunc_g (q:=83) (fun a b=>pg_cmpVq Γ a b) ha hb
 obtain⟨a,n,c,rfl,hn,hnc,hc⟩:=ha.shape;obtain⟨a2,n2,c2,rfl,hn2,hnc2,hc2⟩:=hb.shape;refine calls_of_W Tryz.func37 rfl rfl ?_
 repeat first|refine byW ?_|refine byV ?_;intro w hw
 exact⟨_,rfl,rfl,hw⟩⟩
theorem pg_sameRow{Γ:Gho}{va vb:Value}{xs ys:List Val}(ha:RepS Γ va 3 (xs.map enc))(hb:RepS Γ vb 3 (ys.map enc)):PG Tryz.prog Γ 38 [va,vb] (.bool (decide (cL cV xs ys=0))):=⟨fun S w hw=>by
 have hC:=pg_rows ha hb
 obtain⟨a,n,c,rfl,hn,hnc,hc⟩:=ha.shape;obtain⟨a2,n2,c2,rfl,hn2,hnc2,hc2⟩:=hb.shape;refine calls_of_W Tryz.func38 rfl rfl ?_
 repeat first|refine byW ?_|refine byV ?_;intro w hw
 exact⟨_,rfl,rfl,hw⟩⟩
theorem pc_compareSum(l r off:Int)(hl:I64 l)(hr:I64 r)(ho:I64 off):PC Tryz.prog 198 [.int .i64 l,.int .i64 r,.int .i64 off] (.int .i64 (cmpS l r off)):=⟨fun w=>by
 have hwr:=wrap_rng (r+off)
 have hmod:IntKind.i64.wrap (r+off)=r+off∨(9223372036854775807<r+off∧IntKind.i64.wrap (r+off)=r+off-18446744073709551616)∨(r+off < -9223372036854775808∧IntKind.i64.wrap (r+off)=r+off+18446744073709551616):=by
  unfold I64 at *
  simp only[IntKind.wrap,IntKind.bits,IntKind.signed]
  simp
  split <;> omega
 obtain⟨s,hs⟩:∃s,s=IntKind.i64.wrap (r+off):=⟨_,rfl⟩
 refine calls_of_W Tryz.func198 rfl rfl ?_
 first|refine byW ?_|(refine byV ?_;intro w hw)
 first|refine byW ?_|(refine byV ?_;intro w hw)
 first|refine byW ?_|(refine byV ?_;intro w hw)
 first|refine byW ?_|(refine byV ?_;intro w hw)
 first|refine byW ?_|(refine byV ?_;intro w hw)
 first|refine byW ?_|(refine byV ?_;intro w hw)
 first|refine byW ?_|(refine byV ?_;intro w hw)
 first|refine byW ?_|(refine byV ?_;intro w hw)
 refine lY (v:=.int .i64 s) ?_ (hy:=by rw[hs];exact y_add rfl rfl)
 rw[←hs]at hmod hwr
 clear hs;unfold I64 at hl hr ho;repeat first|refine byW ?_|refine byV ?_;intro w hw
 refine W_cond rfl (fun h=>?_) (fun h=>?_)
 ·repeat first|refine byW ?_|refine byV ?_;intro w hw
  simp only[Bool.and_eq_true,decide_eq_true_eq]at h
  refine⟨_,rfl,ret_i rfl ?_,rfl⟩
  unfold cmpS cI;rw[if_pos (by omega)]
 repeat first|refine byW ?_|refine byV ?_;intro w hw
 refine W_cond rfl (fun h2=>?_) (fun h2=>?_)
 ·repeat first|refine byW ?_|refine byV ?_;intro w hw
  simp only[Bool.and_eq_true,decide_eq_true_eq]at h2
  refine⟨_,rfl,ret_i rfl ?_,rfl⟩
  unfold cmpS cI;rw[if_neg (by omega),if_pos (by omega)]
 have hsum:s=r+off:=by
  simp only[Bool.and_eq_false_iff,decide_eq_false_iff_not]at h h2
  omega
 repeat first|refine byW ?_|refine byV ?_;intro w hw
 exact⟨_,rfl,ret_i rfl (by rw[hsum];rfl),rfl⟩⟩
end Go.Proofs.YtfoggcgogafocaaGreat
end
