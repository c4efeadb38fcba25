/- Texts of this proof, one behind another. -/
import Derived.Test.YtfoggcgogafocaaGreatDoorM2
import Derived.Laws.MakeOwn
import Derived.Lib.UnsafeStr
import Derived.Lib.Builder
import Derived.Below
import Derived.Shelf.SlLaysF0
import Derived.Shelf.Lays
import Derived.Shelf.LaysM
import Derived.Shelf.Strconv.Itoa4
import Derived.Room.Shelf.Join48
import Derived.Test.YtfoggcgogafocaaGreatDoorRows
import Derived.Test.YtfoggcgogafocaaGreatDoorTie
import Derived.Test.YtfoggcgogafocaaGreatDoorCards
import Derived.ProofKit
import Derived.OpenShut
import Derived.LaidMore
import Derived.Stop.Joined
import Derived.Stop.LaidErr
import Derived.Deep.Slices
import Derived.ReadAgain
import Derived.ChangeMaps5
set_option linter.unusedVariables false
set_option linter.unusedSimpArgs false
section
open Go
namespace Mk
attribute [local irreducible] Calls
theorem made_rows{zs:List Value}{sz:Nat}(hz:zs.length=sz)(h0:0<sz):∀n:Nat,(madeCells zs.toArray (n*sz)).toList=(List.replicate n zs).flatten:=fun n=>by
 unfold madeCells;simp only[Array.toList_map,Array.toList_range,List.size_toArray,hz]
 have hf:∀i:Nat,zs.toArray[i%sz]! = zs.getD (i%sz) undef:=fun i=>by
  have hlt:i%sz<zs.length:=by rw[hz];exact Nat.mod_lt _ h0
  rw[getElem!_pos (zs.toArray) _ (by simpa using hlt)]
  simp[List.getD_eq_getElem?_getD,List.getElem?_eq_getElem hlt]
 simp only[hf]
 induction n with
 | zero=>simp
 | succ n ih=>
  rw[show (n+1)*sz=sz+n*sz from by rw[Nat.add_mul];omega,List.range_add,List.map_append,List.map_map,List.replicate_succ,List.flatten_cons,←ih]
  congr 1
  ·refine List.ext_getElem? fun i=>?_
   rw[List.getElem?_map];by_cases hi:i<sz
   ·rw[List.getElem?_range hi];simp only[Option.map_some,Nat.mod_eq_of_lt hi]
    rw[List.getD_eq_getElem?_getD,List.getElem?_eq_getElem (by omega)];rfl
   ·rw[List.getElem?_eq_none (by simpa using hi),List.getElem?_eq_none (by omega)];rfl
  ·refine List.map_congr_left fun i _=>?_
   simp
section
variable {P:Program}{n:Nat}{opa:Array Oper}{Γ:Gho}{S:List Res}{QQ:Exit→Fr→World→Prop}{ρ:Fr}{w:World}{rest:List Oper}{K:Value→World→Prop}
variable {d:Option Tmp}{T ty:TypeId}{pos:String}{es:Array Edge}{g:Option (Nat×Bool)}{x y:Operand}
theorem s_makeSlice{E by' len sz:Nat}{zs:List Value}[hT:TL P T E sz by' zs](hw:Wd Γ S w)(hx:ev ρ x=.int .i64 (len:Nat))(hy:ev ρ y=.int .i64 (len:Nat))(hb:(by':Int)*len≤281474976710656)(h63:(len:Int)≤9223372036854775807)
  (hk:∀a w',Wd Γ (.own (.slice (some a) len len) E sz (List.replicate len zs)::S) w'→K (.slice (some a) len len) w'):Step P ⟨d,.makeSlice T x y,ty,pos,es,g⟩ ρ w K:=by
 obtain⟨q,z,hq,hz,hzc⟩:=zeroOf_info hT.z
 obtain⟨q',hq',hs,hb'⟩:=sizeBytes_info hT.s
 rw[hq]at hq';cases hq'
 have hrun:=run_make (P:=P) w T E q z hT.h hq hz .i64 .i64 (len:Int) (len:Int) (by omega) (Int.le_refl _) (by rw[hb'];exact hb) h63
 rw[hzc,hs]at hrun;have hr0:(execOp (ev ρ) ⟨d,.makeSlice T x y,ty,pos,es,g⟩).run P w=.ok (.value (.slice (some ⟨w.heap.size,0,none⟩) len len)) (w.alloc (.cells (madeCells zs.toArray (len*sz)) E)):=by
  simp only[execOp,hx,hy,Sem.run_bind,hrun,Result.andThen_ok,Int.toNat_natCast]
  rfl
 have hrows:=made_rows hT.n.1 hT.n.2 len
 have hfin:=hk ⟨w.heap.size,0,none⟩ (w.alloc (.cells (madeCells zs.toArray (len*sz)) E)) (hw.add (bs:=[w.heap.size]) ⟨rfl,rfl,rfl,(by first|exact Nat.le_refl _|exact Nat.le_succ _),by simp⟩ (by
  unfold Res.own;refine⟨fun r hr=>by rw[List.eq_of_mem_replicate hr];exact hT.n.1,_,_,_,rfl,(by simp),Nat.le_refl _,by simp[maxLen];omega,.inr ⟨w.heap.size,madeCells zs.toArray (len*sz),rfl,rfl,heap_alloc_new w _,size_madeCells _ _,?_⟩⟩
  rw[hrows,List.take_of_length_le];rw[←hrows,Array.length_toList,size_madeCells];exact Nat.le_refl _) (by simp) (by simp) fun k hk=>heap_alloc_old w _ hk)
 unfold Step;rw[hr0];exact hfin
theorem lMakeSlice{E by' len sz:Nat}{zs:List Value}[hT:TL P T E sz by' zs](h:∀a w',Wd Γ (.own (.slice (some a) len len) E sz (List.replicate len zs)::S) w'→L P n opa QQ rest (putO ρ d (.slice (some a) len len)) w')
  (hw:Wd Γ S w:=by exact hw) (hx:ev ρ x=.int .i64 (len:Nat):=by exact rfl) (hy:ev ρ y=.int .i64 (len:Nat):=by exact rfl) (hb:(by':Int)*len≤281474976710656:=by omega) (h63:(len:Int)≤9223372036854775807:=by omega) (hd:okDst n d=true:=by exact rfl) :
  L P n opa QQ (⟨d,.makeSlice T x y,ty,pos,es,none⟩::rest) ρ w:=L_step rfl hd (s_makeSlice hw hx hy hb h63 h)
end
theorem wd_less{Γ Γ':Gho}{w:World}(hle:Γ.le Γ')(h:Wd Γ' [] w):Wd Γ [] w:=by
 obtain⟨h1,h2,h3,h4,h5,-⟩:=h;exact⟨h1.trans hle.os,h2.trans hle.tape,h3.trans hle.out,by rw[←hle.dr];exact h4,fun b o hb=>h5 b o (hle.imm b o hb),[],trivial,by simp,by simp⟩
section
variable {P:Program}{n:Nat}{ops:List Oper}{Γ:Gho}{K:List Res}{wr tc stab:List (List Nat)}{Q:Fr→World→Prop}{i:Nat}{rest:List Oper}{ρ:Fr}{M:Nat→Fr→List Res}
variable {d:Option Tmp}{op:Op}{ty:TypeId}{pos:String}{es:Array Edge}{j dj:Nat}{want:Bool}
theorem mGuard(h:MSw (mV P n ops Γ K wr tc stab) Q i (⟨d,op,ty,pos,es,none⟩::rest) ⟨ρ,M⟩)(hj:(ops[j]?).bind (·.dst)=some dj:=by exact rfl)(hv:∀g,(saysB (ovr stab.flatten g ρ dj) == some want)=true:=by intro g;exact rfl) :
  MSw (mV P n ops Γ K wr tc stab) Q i (⟨d,op,ty,pos,es,some (j,want)⟩::rest) ⟨ρ,M⟩:=by
 obtain⟨c,hg,hr⟩:=h;refine⟨c,⟨fun Γ' Y w g hrl hw=>⟨fun _=>?_,fun hf=>?_⟩⟩,hr⟩
 ·have h0:=(hg.run Γ' Y w g hrl hw).1 (wantF_none rfl)
  unfold Step execOp at h0 ⊢
  exact h0
 have h1:=hv g
 have h2:wantF ops (⟨d,op,ty,pos,es,some (j,want)⟩:Oper) (ovr stab.flatten g ρ)=true:=by
  simp only[wantF,hj]
  exact h1
 have hf:wantF ops (⟨d,op,ty,pos,es,some (j,want)⟩:Oper) (ovr stab.flatten g ρ)=false:=hf
 rw[h2]at hf;cases hf
end
section
variable {P:Program}{n:Nat}{ops:List Oper}{Γ:Gho}{K:List Res}{wr tc stab:List (List Nat)}{Q:Fr→World→Prop}{i:Nat}{rest:List Oper}{ρ:Fr}{M:Nat→Fr→List Res}
variable {d:Option Tmp}{op:Op}{ty:TypeId}{pos:String}{es:Array Edge}{j dj:Nat}{want:Bool}
theorem mGuardF(h:MSw (mV P n ops Γ K wr tc stab) Q (i+1) rest ⟨putO ρ d undef,M⟩)(hj:(ops[j]?).bind (·.dst)=some dj:=by exact rfl)(hv:∀g,(saysB (ovr stab.flatten g ρ dj) == some want)=false:=by intro g;exact rfl)(hw0:wr.getD i []=[]:=by exact rfl)(ho:outOf tc stab i d=true:=by exact rfl) :
  MSw (mV P n ops Γ K wr tc stab) Q i (⟨d,op,ty,pos,es,some (j,want)⟩::rest) ⟨ρ,M⟩:=by
 have hn:∀c,Mt.nxt (mV P n ops Γ K wr tc stab) i ⟨ρ,M⟩ c=M:=fun c=>by
  funext x;simp only[Mt.nxt,MEnv.w,hw0];rfl
 refine⟨⟨undef,M⟩,⟨fun Γ' Y w g hrl hw=>?_⟩,?_⟩
 ·have hΓ:Γ'=Γ:=hrl
  subst hΓ;rw[hn];refine⟨fun hf=>?_,fun _=>⟨?_,fun _=>rfl⟩⟩
  ·have h2:wantF ops (⟨d,op,ty,pos,es,some (j,want)⟩:Oper) (ovr stab.flatten g ρ)=false:=by
    simp only[wantF,hj]
    exact hv g
   have hf:wantF ops (⟨d,op,ty,pos,es,some (j,want)⟩:Oper) (ovr stab.flatten g ρ)=true:=hf
   rw[h2]at hf;cases hf
  ·have:=outOf_eq (g:=g) (v:=undef) ho M
   show Wd Γ' (K++(cellsAt tc stab i M (putO g d undef)++Y)) w
   rw[this];exact hw
 ·simp only[Mt.next,hn];exact h
end
theorem y_negW{P:Program}{ρ:Fr}{w:World}{d:Option Tmp}{T ty:TypeId}{pos:String}{es:Array Edge}{g:Option (Nat×Bool)}{x:Operand}{k:IntKind}{a:Int}(hx:ev ρ x=.int k a):Yields P ⟨d,.unOp .neg T x,ty,pos,es,g⟩ ρ w (.int k (k.wrap (-a))):=by
 unfold Yields;simp[execOp,go_sem,hx,Op.unary,Op.intArith]
end Mk
end
section
open Go Mk
namespace Go.Proofs.YtfoggcgogafocaaGreatDoor
set_option maxHeartbeats 8000000
attribute [local irreducible] Calls
def fpB(bp:Nat)(a:Option Addr)(n c k:Nat)(e p:PosT)(er:Int):Res:=.blk bp (.cells #[.slice a n c,.int .i64 k,.int .i64 e.Line,.int .i64 e.Col,.int .i64 p.Line,.int .i64 p.Col,.int .i64 er] 102)
def pk(toks:List Tok)(k:Nat):Tok:=(toks[k]?).getD default
theorem pk_none{toks:List Tok}{k:Nat}(h:¬k<toks.length):pk toks k=default:=by unfold pk;rw[List.getElem?_eq_none (by omega)];rfl
theorem pk_some{toks:List Tok}{k:Nat}{t:Tok}(h:toks[k]? = some t):pk toks k=t:=by unfold pk;rw[h];rfl
theorem pk_lt{toks:List Tok}{k:Nat}(h:(pk toks k).Kind≠0):k<toks.length:=by
 by_cases hk:k<toks.length
 ·exact hk
 ·rw[pk_none hk]at h;exact absurd rfl h
theorem isS_pk{toks:List Tok}{k:Nat}{kind:Int}{text:ByteArray}(h0:kind≠0):isS toks k kind text=(decide ((pk toks k).Kind=kind)&&decide ((pk toks k).Text=text)):=by
 unfold isS pk;cases toks[k]? with
 | none=>
  have:decide ((default:Tok).Kind=kind)=false:=decide_eq_false fun h=>h0 h.symm
  simp only[Option.getD_none,this,Bool.false_and]
 | some t=>rfl
def negV(v:Int):Int:=IntKind.i64.wrap (-(IntKind.i64.wrap v))
def posV(v:Int):Int:=IntKind.i64.wrap v
def intP(toks:List Tok)(e:PosT)(neg:Bool)(k:Nat):PR Int:=
 if (pk toks k).Kind≠2 then .error (posOf toks k e,50)
 else if (neg=true∧9223372036854775808<(pk toks k).Value)∨(neg=false∧9223372036854775808≤(pk toks k).Value) then .error (posOf toks k e,6)
 else .ok (if neg=true then negV (pk toks k).Value else posV (pk toks k).Value,k+1)
def dashB:ByteArray:=⟨#[45]⟩
def argI:PR Int→PR Val
 | .ok (v,k1)=>.ok (⟨1,v,⟨#[]⟩⟩,k1)
 | .error q=>.error q
def argP(toks:List Tok)(e:PosT)(beyond:Bool)(k:Nat):PR Val:=
 if (pk toks k).Kind=2∧9223372036854775808≤(pk toks k).Value then .error (posOf toks k e,6)
 else if (pk toks k).Kind=1∨(pk toks k).Kind=3 then
  if (pk toks k).Text=⟨#[]⟩∨24<(pk toks k).Text.size then .error (posOf toks k e,63)
  else if beyond=true then .error (posOf toks k e,15)
  else .ok (⟨2,0,(pk toks k).Text⟩,k+1)
 else if (pk toks k).Kind≠2∧((pk toks k).Kind≠4∨(pk toks k).Text≠dashB) then .error (posOf toks k e,50)
 else if beyond=true then .error (posOf toks k e,15)
 else argI (intP toks e (decide ((pk toks k).Kind=4)) (if (pk toks k).Kind=4 then k+1 else k))
section
variable {Γ:Gho}{S:List Res}{w:World}{bp:Nat}{a:Option Addr}{n c k:Nat}{e p:PosT}{er:Int}{toks:List Tok}
def FP{α:Type}(Γ:Gho)(S:List Res)(bp:Nat)(a:Option Addr)(n c:Nat)(e p:PosT)(V:α→Value)(Z:Value→Prop):PR α→Ending→World→Prop
 | .ok (x,k),r,w=>r=.returned (V x)∧Wd Γ (fpB bp a n c k e p 0::S) w
 | .error (p',er),r,w=>∃u k',r=.returned u∧Z u∧Wd Γ (fpB bp a n c k' e p' er::S) w
instance ps_fpeek[ht:RTok Γ a n c toks]:PS Tryz.prog Γ (fpB bp a n c k e p er::S) 122 [.pointer (some ⟨bp,0,none⟩)] (.agg (enc (pk toks k)).toArray):=⟨fun Y w hw=>by
 obtain⟨hn,hnc,hc⟩:=ht.len;have hr:=ht.h
 have hw:Wd Γ (fpB bp a n c k e p er::(S++Y)) w:=hw
 refine calls_of_WC Tryz.func122 rfl rfl ?_
 repeat first|refine byW ?_|refine byV ?_;intro w hw
 refine lAlloc ?_;intro b2 w hw;have hw:Wd Γ (.blk b2 (.cells (enc (default:Tok)).toArray 161)::fpB bp a n c k e p er::(S++Y)) w:=hw
 repeat first|refine byW ?_|refine byV ?_;intro w hw
 refine W_quiet (by kernel_rfl) (by kernel_rfl) hw ?_
 refine byQ ?_;intro w hw;refine W_cond rfl (fun h=>?_) (fun h=>?_)
 ·have h:k<n:=by simp at h;omega
  obtain⟨t,htk⟩:=get_lt (l:=toks) (k:=k) (by omega)
  rw[pk_some htk];repeat first|refine byW ?_|refine byV ?_;intro w hw
  refine W_mixC [fpB bp a n c k e p er] (.blk b2 _::(S++Y)) [] [[],[],[],[],[],[],[],[],[],[],[0]] (hw.ps [1]) ?_
  refine byM ?_;refine mStepX (φ:=fun (_:Unit) _=>True) (R:=fun _=>.blk b2 (.cells (enc (default:Tok)).toArray 161)::(S++Y)) (v:=undef) (T':=Unit) (fun _ _=>True) (fun _=>.blk b2 (.cells (enc t).toArray 161)::(S++Y)) (fun t' g w Y _ hw=>s_store (i:=0) (inferInstance:TSz Tryz.prog 161 5).h hw rfl rfl rfl rfl (fun u hu=>(List.all_eq_true.1 (enc_one t)) u hu) rfl (Nat.le_refl 5) fun w' hw'=>⟨(),trivial,(fun _=>rfl),hw'⟩) ?_
  refine mEndX fun t' w g _ hw=>?_
  have hw:Wd Γ (.blk b2 (.cells (enc t).toArray 161)::fpB bp a n c k e p er::(S++Y)) w:=hw.flip.ps [1]
  repeat first|refine byW ?_|refine byV ?_;intro w hw
  exact⟨[.agg (enc t).toArray],⟨resC (i:=0) hw rfl rfl rfl,trivial⟩,rfl,hw.drop⟩
 ·have h:¬k<n:=by simp at h;omega
  rw[pk_none (by omega)]
  repeat first|refine byW ?_|refine byV ?_;intro w hw
  refine lStore ?_;intro w hw;have hw:Wd Γ (.blk b2 (.cells (enc (default:Tok)).toArray 161)::fpB bp a n c k e p er::(S++Y)) w:=hw
  repeat first|refine byW ?_|refine byV ?_;intro w hw
  exact⟨[.agg (enc (default:Tok)).toArray],⟨resC (i:=0) hw rfl rfl rfl,trivial⟩,rfl,hw.drop⟩⟩
theorem ffail_any[ht:RTok Γ a n c toks](er:Int)(hw:Wd Γ (fpB bp a n c k e p 0::S) w) :
  Calls Tryz.prog 123 #[.pointer (some ⟨bp,0,none⟩),.int .i64 er] w fun r w'=>r=.returned (.bool false)∧Wd Γ (fpB bp a n c k e (posOf toks k e) er::S) w':=by
 obtain⟨hn,hnc,hc⟩:=ht.len;have hr:=ht.h
 refine calls_of_W Tryz.func123 rfl rfl ?_
 repeat first|refine byW ?_|refine byV ?_;intro w hw
 refine W_cond_true rfl ?_
 repeat first|refine byW ?_|refine byV ?_;intro w hw
 refine lStore ?_;intro w hw;repeat first|refine byW ?_|refine byV ?_;intro w hw
 refine lStore ?_;intro w hw;have hw:Wd Γ (fpB bp a n c k e e er::S) w:=hw
 repeat first|refine byW ?_|refine byV ?_;intro w hw
 refine W_quiet (by kernel_rfl) (by kernel_rfl) hw ?_
 refine byQ ?_;intro w hw;refine W_cond rfl (fun h=>?_) (fun h=>?_)
 ·have h:k<n:=by simp at h;omega
  obtain⟨t,htk⟩:=get_lt (l:=toks) (k:=k) (by omega)
  have hp:posOf toks k e=⟨t.Line,t.Col⟩:=by unfold posOf;rw[htk]
  rw[hp];repeat first|refine byW ?_|refine byV ?_;intro w hw
  refine W_mix1 [] (fpB bp a n c k e e er::S) [[],[],[],[],[],[],[],[],[],[],[],[],[],[],[0]] [[],[],[],[],[0],[],[],[],[0],[],[],[],[],[],[0]] hw ?_
  refine byM ?_;refine mStoreC ?_
  refine mEnd fun w g hw=>?_
  have hw:Wd Γ ((fpB bp a n c k e ⟨t.Line,t.Col⟩ er::S)++[]) w:=hw
  rw[List.append_nil]at hw;repeat first|refine byW ?_|refine byV ?_;intro w hw
  exact⟨_,rfl,rfl,hw⟩
 ·have h:¬k<n:=by simp at h;omega
  have hp:posOf toks k e=e:=by unfold posOf;rw[List.getElem?_eq_none (by omega)]
  rw[hp];repeat first|refine byW ?_|refine byV ?_;intro w hw
  exact⟨_,rfl,rfl,hw⟩
theorem fpunct_ex[ht:RTok Γ a n c toks](text:ByteArray)(hw:Wd Γ (fpB bp a n c k e p 0::S) w) :
  Calls Tryz.prog 124 #[.pointer (some ⟨bp,0,none⟩),.string text] w fun r w'=>(isS toks k 4 text=true→r=.returned (.bool true)∧Wd Γ (fpB bp a n c (k+1) e p 0::S) w')∧(isS toks k 4 text=false→r=.returned (.bool false)∧Wd Γ (fpB bp a n c k e (posOf toks k e) 50::S) w'):=by
 obtain⟨hn,hnc,hc⟩:=ht.len;have hbig:=ht.big
 have hi:=isS_pk (toks:=toks) (k:=k) (text:=text) (kind:=4) (by decide)
 refine calls_of_W Tryz.func124 rfl rfl ?_
 repeat(first|refine byW ?_|(refine byV ?_;intro w hw)|(apply L_plain;apply L_go;refine lPs ?_;intro w hw)|(apply L_guarded;apply L_go;refine lPsG ?_;intro w hw))
 refine lAlloc ?_;intro b5 w hw;refine lStore ?_;intro w hw;have hw:Wd Γ (.blk b5 (.cells (enc (pk toks k)).toArray 161)::fpB bp a n c k e p 0::S) w:=hw
 repeat first|refine byW ?_|refine byV ?_;intro w hw
 refine W_cond rfl (fun h=>?_) (fun h=>?_)
 ·have hf:isS toks k 4 text=false:=by
   rw[hi,Bool.and_eq_false_iff];simpa using h
  repeat first|refine byW ?_|refine byV ?_;intro w hw
  refine lCall ?_;refine(ffail_any (S:=.blk b5 _::S) 50 (hw.ps [1])).mono ?_
  rintro r w ⟨rfl,hw⟩
  refine⟨_,rfl,?_⟩;repeat first|refine byW ?_|refine byV ?_;intro w hw
  refine⟨_,rfl,?_⟩;rw[hf];exact⟨fun h=>(by cases h),fun _=>⟨rfl,hw.dropAt 1⟩⟩
 ·have hf:isS toks k 4 text=true:=by
   rw[hi,Bool.and_eq_true];simpa using h
  have hlt:=isS_lt hf
  repeat first|refine byW ?_|refine byV ?_;intro w hw
  refine lStore ?_;intro w hw;have hw:Wd Γ (.blk b5 (.cells (enc (pk toks k)).toArray 161)::fpB bp a n c (k+1) e p 0::S) w:=hw
  repeat first|refine byW ?_|refine byV ?_;intro w hw
  refine⟨_,rfl,?_⟩;rw[hf];exact⟨fun _=>⟨rfl,hw.drop⟩,fun h=>(by cases h)⟩
theorem fint_any[ht:RTok Γ a n c toks](neg:Bool)(hw:Wd Γ (fpB bp a n c k e p 0::S) w) :
  Calls Tryz.prog 166 #[.pointer (some ⟨bp,0,none⟩),.bool neg] w (FP Γ S bp a n c e p (fun v:Int=>.tuple #[.int .i64 v,.bool true]) (fun u=>u=.tuple #[.int .i64 0,.bool false]) (intP toks e neg k)):=by
 obtain⟨hn,hnc,hc⟩:=ht.len;have hbig:=ht.big
 refine calls_of_W Tryz.func166 rfl rfl ?_
 repeat(first|refine byW ?_|(refine byV ?_;intro w hw)|(apply L_plain;apply L_go;refine lPs ?_;intro w hw)|(apply L_guarded;apply L_go;refine lPsG ?_;intro w hw))
 refine lAlloc ?_;intro b5 w hw;refine lStore ?_;intro w hw;have hw:Wd Γ (.blk b5 (.cells (enc (pk toks k)).toArray 161)::fpB bp a n c k e p 0::S) w:=hw
 repeat first|refine byW ?_|refine byV ?_;intro w hw
 refine W_cond rfl (fun h=>?_) (fun h=>?_)
 ·have h:(pk toks k).Kind≠2:=of_decide_eq_true h
  repeat first|refine byW ?_|refine byV ?_;intro w hw
  refine lCall ?_;refine(ffail_any (S:=.blk b5 _::S) 50 (hw.ps [1])).mono ?_
  rintro r w ⟨rfl,hw⟩
  refine⟨_,rfl,?_⟩;repeat first|refine byW ?_|refine byV ?_;intro w hw
  refine⟨_,rfl,?_⟩;unfold intP;rw[if_pos h];exact⟨_,k,rfl,rfl,hw.dropAt 1⟩
 have h:(pk toks k).Kind=2:=Classical.not_not.1 (of_decide_eq_false h)
 have hlt:=pk_lt (toks:=toks) (k:=k) (by rw[h];decide)
 have hI:intP toks e neg k=if (neg=true∧9223372036854775808<(pk toks k).Value)∨(neg=false∧9223372036854775808≤(pk toks k).Value) then .error (posOf toks k e,6) else .ok (if neg=true then negV (pk toks k).Value else posV (pk toks k).Value,k+1):=by
  unfold intP;rw[if_neg (by simp[h])]
 rw[hI];repeat first|refine byW ?_|refine byV ?_;intro w hw
 refine W_cond rfl (fun h2=>?_) (fun h2=>?_)
 ·have h2:(neg=true∧9223372036854775808<(pk toks k).Value)∨(neg=false∧9223372036854775808≤(pk toks k).Value):=by simpa using h2
  rw[if_pos h2];repeat first|refine byW ?_|refine byV ?_;intro w hw
  refine lCall ?_;refine(ffail_any (S:=.blk b5 _::S) 6 (hw.ps [1])).mono ?_
  rintro r w ⟨rfl,hw⟩
  refine⟨_,rfl,?_⟩;repeat first|refine byW ?_|refine byV ?_;intro w hw
  exact⟨_,rfl,_,k,rfl,rfl,hw.dropAt 1⟩
 ·have h2:¬((neg=true∧9223372036854775808<(pk toks k).Value)∨(neg=false∧9223372036854775808≤(pk toks k).Value)):=fun q=>by
   rcases q with⟨q1,q2⟩|⟨q1,q2⟩ <;> simp[q1,q2]at h2
  rw[if_neg h2];repeat first|refine byW ?_|refine byV ?_;intro w hw
  refine lStore ?_;intro w hw;have hw:Wd Γ (.blk b5 (.cells (enc (pk toks k)).toArray 161)::fpB bp a n c (k+1) e p 0::S) w:=hw
  repeat first|refine byW ?_|refine byV ?_;intro w hw
  refine W_cond rfl (fun h3=>?_) (fun h3=>?_)
  ·repeat first|refine byW ?_|refine byV ?_;intro w hw
   refine lY (v:=.int .i64 (negV (pk toks k).Value)) ?_ (hy:=y_negW rfl)
   repeat first|refine byW ?_|refine byV ?_;intro w hw
   exact⟨_,rfl,by rw[if_pos h3];exact rfl,hw.drop⟩
  ·repeat first|refine byW ?_|refine byV ?_;intro w hw
   exact⟨_,rfl,by rw[if_neg (by simp[h3])];exact rfl,hw.drop⟩
end
end Go.Proofs.YtfoggcgogafocaaGreatDoor
end
section
open Go Mk
namespace Go.Proofs.YtfoggcgogafocaaGreatDoor
set_option maxHeartbeats 4000000
attribute [local irreducible] Calls cI cB
instance pg_cmpV(Γ:Gho)(a b:Val):PG Tryz.prog Γ 70 [.agg (enc a).toArray,.agg (enc b).toArray] (.int .i64 (cV a b)):=⟨fun S w hw=>by
 refine calls_of_W Tryz.func70 rfl rfl ?_
 repeat first|refine byW ?_|refine byV ?_;intro w hw
 refine lBox ?_;intro b1 w hw;refine lBox ?_;intro b2 w hw;have hw:Wd Γ (.blk b2 (.cells (enc b).toArray 48)::.blk b1 (.cells (enc a).toArray 48)::S) w:=hw
 repeat first|refine byW ?_|refine byV ?_;intro w hw
 refine W_cond rfl (fun h=>?_) (fun h=>?_)
 ·repeat first|refine byW ?_|refine byV ?_;intro w hw
  exact⟨_,rfl,ret_i rfl (by have h:=of_decide_eq_true h;subst h;rw[cV_ord.refl]),hw.drop.drop⟩
 ·repeat first|refine byW ?_|refine byV ?_;intro w hw
  refine W_mixC [.blk b2 _,.blk b1 _] S [23] [[],[],[],[],[],[],[],[],[],[],[],[],[],[],[],[0],[0],[]] hw ?_
  refine byM ?_;refine mStepX (v:=undef) (T':=Value) (fun t g=>g 23=t) (fun t=>.own t 3 1 ([cI a.Kind b.Kind,cI a.Num b.Num,cB a.Word b.Word].map fun x=>[.int .i64 x])::S) (fun t g w Y _ hw=>s_buildSlice (rws:=[cI a.Kind b.Kind,cI a.Num b.Num,cB a.Word b.Word].map fun x=>[.int .i64 x]) hw rfl rfl rfl (by simp) (by decide) fun q w' hw'=>⟨_,rfl,(fun h=>by cases h),hw'⟩) ?_
  refine mCallX (φ:=fun (t:Value) g=>g 23=t) (v:=.int .i64 (cV a b)) (T':=Value) (fun _ _=>True) (fun t=>.own t 3 1 ([cI a.Kind b.Kind,cI a.Num b.Num,cB a.Word b.Word].map fun x=>[.int .i64 x])::S) (fun t _=>[t]) (fun t g w Y ht hw=>?_) ?_ (ha:=fun t g ht=>EvL.cons ht EvL.nil)
  ·refine(Or_any _ hw (RdS.own (i:=0) hw rfl)).mono ?_
   rintro e w ⟨rfl,hw⟩
   refine⟨_,rfl,t,trivial,fun _=>?_,hw⟩
   unfold cV orL orL orL orL;rw[orI_r]
  refine byM ?_;refine mEndX fun t w g _ hw=>?_
  repeat first|refine byW ?_|refine byV ?_;intro w hw
  exact⟨_,rfl,rfl,hw.drop.left⟩⟩
theorem CompareFunc_any{Γ:Gho}{va vb:Value}{xs ys:List Val}(ha:RepS Γ va 3 (xs.map enc))(hb:RepS Γ vb 3 (ys.map enc)) :
  PG Tryz.prog Γ 69 [va,vb,.func (.func 70) #[] #[]] (.int .i64 (cL cV xs ys)):=⟨fun S w hw=>by
 obtain⟨a,n,c,rfl,hn,hnc,hc⟩:=ha.shape;obtain⟨a2,n2,c2,rfl,hn2,hnc2,hc2⟩:=hb.shape;simp only[List.length_map]at hn hn2
 refine calls_of_W Tryz.func69 rfl rfl ?_
 repeat first|refine byW ?_|refine byV ?_;intro w hw
 refine W_loop (fun μ ρ w=>∃(k:Nat),μ+k=n∧Has ρ [(0,.slice a n c),(1,.slice a2 n2 c2),(2,.func (.func 70) #[] #[]),(11,.slice a n c),(12,.int .i64 n),(13,.int .i64 k)]∧cL cV xs ys=cL cV (xs.drop k) (ys.drop k)∧Wd Γ S w) n ⟨0,by omega,⟨rfl,rfl,rfl,rfl,rfl,rfl,trivial⟩,rfl,hw⟩ ?_
 clear hw;rintro μ ρ w ⟨k,hk,hρ,ho,hw⟩
 rw[hρ.eq];repeat first|refine byW ?_|refine byV ?_;intro w hw
 refine W_cond rfl (fun h=>?_) (fun h=>?_)
 ·have hkn:k<n:=by simpa using h
  obtain⟨x,hx⟩:=get_lt (l:=xs) (k:=k) (by omega)
  have hd:xs.drop k=x::xs.drop (k+1):=drop_get hx
  rw[hd]at ho;repeat first|refine byW ?_|refine byV ?_;intro w hw
  refine lAlloc ?_;intro b8 w hw;repeat first|refine byW ?_|refine byV ?_;intro w hw
  refine lStore ?_;intro w hw;have hw:Wd Γ (.blk b8 (.cells (enc x).toArray 48)::S) w:=hw
  repeat first|refine byW ?_|refine byV ?_;intro w hw
  refine W_cond rfl (fun h2=>?_) (fun h2=>?_)
  ·repeat first|refine byW ?_|refine byV ?_;intro w hw
   have h2:n2≤k:=by simpa using h2
   refine⟨_,rfl,ret_i rfl ?_,hw.drop⟩
   rw[ho,drop_none ys (by omega)];rfl
  ·have h2:k<n2:=by simpa using h2
   obtain⟨y,hy⟩:=get_lt (l:=ys) (k:=k) (by omega)
   rw[drop_get hy]at ho;have ho:cL cV xs ys=orI (cV x y) (cL cV (xs.drop (k+1)) (ys.drop (k+1))):=ho
   repeat first|refine byW ?_|refine byV ?_;intro w hw
   refine lAlloc ?_;intro b9 w hw;refine lStore ?_;intro w hw;have hw:Wd Γ (.blk b9 (.cells (enc y).toArray 48)::.blk b8 (.cells (enc x).toArray 48)::S) w:=hw
   repeat first|refine byW ?_|refine byV ?_;intro w hw
   refine lCallv (fst:=[]) (cap:=[]) ?_
   refine((pg_cmpV Γ x y).h _ _ hw).mono ?_
   rintro e w ⟨rfl,hw⟩
   refine⟨_,rfl,?_⟩;repeat first|refine byW ?_|refine byV ?_;intro w hw
   refine W_cond rfl (fun h3=>?_) (fun h3=>?_)
   ·repeat first|refine byW ?_|refine byV ?_;intro w hw
    have h3:¬cV x y=0:=by simpa using h3
    refine⟨_,rfl,ret_i rfl ?_,hw.drop.drop⟩
    rw[ho,orI_pos h3]
   ·repeat first|refine byW ?_|refine byV ?_;intro w hw
    have h3:cV x y=0:=by simpa using h3
    refine⟨μ-1,by omega,k+1,by omega,⟨rfl,rfl,rfl,rfl,rfl,rfl,trivial⟩,?_,hw.drop.drop⟩
    rw[ho,orI_null h3]
 ·have hkn:¬k<n:=by simpa using h
  rw[drop_none xs (by omega)]at ho
  repeat first|refine byW ?_|refine byV ?_;intro w hw
  refine W_cond rfl (fun h2=>?_) (fun h2=>?_)
  ·repeat first|refine byW ?_|refine byV ?_;intro w hw
   have h2:n<n2:=by simpa using h2
   obtain⟨y,hy⟩:=get_lt (l:=ys) (k:=k) (by omega)
   rw[drop_get hy]at ho;exact⟨_,rfl,ret_i rfl (by rw[ho];rfl),hw⟩
  ·repeat first|refine byW ?_|refine byV ?_;intro w hw
   have h2:¬n<n2:=by simpa using h2
   rw[drop_none ys (by omega)]at ho
   exact⟨_,rfl,ret_i rfl (by rw[ho];rfl),hw⟩⟩
theorem pg_cmpF{Γ:Gho}{f g:FactH}(hf:FOk Γ f)(hg:FOk Γ g):PG Tryz.prog Γ 25 [.agg (cF f).toArray,.agg (cF g).toArray] (.int .i64 (cFact f.fact g.fact)):=⟨fun S w hw=>by
 obtain⟨l1,l2,l3⟩:=hf.len;obtain⟨m1,m2,m3⟩:=hg.len;have hC:=CompareFunc_any hf hg
 obtain⟨fr,fa,fn,fc,fs⟩:=f;obtain⟨gr,ga,gn,gc,gs⟩:=g;simp only at l1 l2 l3 m1 m2 m3
 refine calls_of_W Tryz.func25 rfl rfl ?_
 repeat first|refine byW ?_|refine byV ?_;intro w hw
 refine lBox ?_;intro b1 w hw;refine lBox ?_;intro b2 w hw;have hw:Wd Γ (.blk b2 (.cells #[.string gr,.slice ga gn gc] 45)::.blk b1 (.cells #[.string fr,.slice fa fn fc] 45)::S) w:=hw
 repeat first|refine byW ?_|refine byV ?_;intro w hw
 refine W_mixC [.blk b2 _,.blk b1 _] S [18] [[],[],[],[],[],[],[],[],[],[],[],[],[0],[0],[]] hw ?_
 refine byM ?_;refine mStepX (v:=undef) (T':=Value) (fun t g=>g 18=t) (fun t=>.own t 3 1 ([cB fr gr,cI fn gn].map fun x=>[.int .i64 x])::S) (fun t g w Y _ hw=>s_buildSlice (rws:=[cB fr gr,cI fn gn].map fun x=>[.int .i64 x]) hw rfl rfl rfl (by simp) (by decide) fun q w' hw'=>⟨_,rfl,(fun h=>by cases h),hw'⟩) ?_
 refine mCallX (φ:=fun (t:Value) g=>g 18=t) (v:=.int .i64 (orI (cB fr gr) (cI fn gn))) (T':=Value) (fun _ _=>True) (fun t=>.own t 3 1 ([cB fr gr,cI fn gn].map fun x=>[.int .i64 x])::S) (fun t _=>[t]) (fun t g w Y ht hw=>?_) ?_ (ha:=fun t g ht=>EvL.cons ht EvL.nil)
 ·refine(Or_any _ hw (RdS.own (i:=0) hw rfl)).mono ?_
  rintro e w ⟨rfl,hw⟩
  refine⟨_,rfl,t,trivial,fun _=>?_,hw⟩
  unfold orL orL orL;rw[orI_r]
 refine byM ?_;refine mEndX fun t w g _ hw=>?_
 have hw:Wd Γ (.blk b2 (.cells #[.string gr,.slice ga gn gc] 45)::.blk b1 (.cells #[.string fr,.slice fa fn fc] 45)::S) w:=hw.drop.flip
 have hcf:cFact (fr,fs) (gr,gs)=orI (orI (cB fr gr) (cI fn gn)) (cL cV fs gs):=by
  unfold cFact;rw[l1,m1];unfold orI;by_cases e:cB fr gr=0 <;> simp[e]
 repeat first|refine byW ?_|refine byV ?_;intro w hw
 refine W_cond rfl (fun h3=>?_) (fun h3=>?_)
 ·repeat first|refine byW ?_|refine byV ?_;intro w hw
  have h3:¬orI (cB fr gr) (cI fn gn)=0:=by simpa using h3
  refine⟨_,rfl,ret_i rfl ?_,hw.drop.drop⟩
  show _=cFact (fr,fs) (gr,gs)
  rw[hcf,orI_pos h3]
 ·have h3:orI (cB fr gr) (cI fn gn)=0:=by simpa using h3
  repeat first|refine byW ?_|refine byV ?_;intro w hw
  refine lPg (hp:=hC) ?_
  intro w hw;repeat first|refine byW ?_|refine byV ?_;intro w hw
  refine⟨_,rfl,ret_i rfl ?_,hw.drop.drop⟩
  show _=cFact (fr,fs) (gr,gs)
  rw[hcf,orI_null h3]⟩
end Go.Proofs.YtfoggcgogafocaaGreatDoor
end
section
open Go Mk
namespace Go.Proofs.YtfoggcgogafocaaGreatDoor
set_option maxHeartbeats 4000000
attribute [local irreducible] Calls cI cB
end Go.Proofs.YtfoggcgogafocaaGreatDoor
end
section
open Go
namespace Mk
attribute [local irreducible] Calls
def bRows(l:List UInt8):List (List Value):=l.map fun b=>[.int .u8 b.toNat]
theorem bRows_flat:∀l:List UInt8,(bRows l).flatten=Go.Lib.byteCells l
 | []=>rfl
 | b::l=>by
  show [Value.int .u8 b.toNat]++(bRows l).flatten=_
  rw[bRows_flat l];rfl
theorem bRows_len(l:List UInt8):(bRows l).length=l.length:=List.length_map ..
section
variable {P:Program}{Γ:Gho}{S:List Res}{w:World}{ρ:Fr}{K:Value→World→Prop}{d:Option Tmp}{T U ty:TypeId}{pos:String}{es:Array Edge}{g:Option (Nat×Bool)}{x y z:Operand}
theorem run_appStr_none(t u ty e:TypeId)(q:TypeInfo)(ht:P.underlying t=some (.slice e))(hu:P.underlying u=some .string)(hi:P.info? e=some q)(a:Option Addr)(n c:Nat)(h:n≤c)(s:ByteArray)(hs:s.size=0) :
  (Builtin.append_ #[t,u] ty #[.slice a n c,.string s]).run P w=.ok (.slice a n c) w:=by
 have he:s=⟨#[]⟩:=eq_nilB.2 hs
 subst he;cases a <;> simp[Builtin.append_,run_underlying ht,run_underlying hu,Go.sizeOf,typeInfo,hi,Builtin.lenOf,h,hs,Builtin.firstCells,loadCells,loadCellsFrom,storeCells]
theorem own_mk{v:Value}{e sz:Nat}{rows:List (List Value)}{m h:Hp}{bs:List Nat}(q:(∀r∈rows,r.length=sz)∧∃a n c,v=.slice a n c∧n=rows.length∧n≤c∧c≤maxLen∧((c=0∧bs=[])∨∃g cur,a=some ⟨g,0,none⟩∧bs=[g]∧h g=some (.cells cur e (0,0))∧cur.size=c*sz∧cur.toList.take (n*sz)=rows.flatten)):(Res.own v e sz rows).holds m bs h:=by
 unfold Res.own;exact q
theorem run_appStr_res{E:Nat}{a:Option Addr}{n c:Nat}{l:List UInt8}{s:ByteArray}{bs:List Nat}{mm:Hp}[hT:TL P T E 1 1 [.int .u8 0]][hU:TStr P U]
  (hown:(Res.own (.slice a n c) E 1 (bRows l)).holds mm bs (hp w)) (hb:n+s.size≤140737488355328) :
  ∃v' w' bs',(Builtin.append_ #[T,U] ty #[.slice a n c,.string s]).run P w=.ok v' w'∧Same3 w w'∧(Res.own v' E 1 (bRows (l++s.data.toList))).holds mm bs' (hp w')∧bs'.Nodup∧(∀b∈bs',b<w'.heap.size∧(b∈bs∨w.heap.size≤b))∧(∀k,k<w.heap.size→k∉bs→w'.heap[k]? = w.heap[k]?)∧(s.size=0→v'=.slice a n c):=by
 obtain⟨q,hq,hs,hby⟩:=sizeBytes_info hT.s
 obtain⟨q',z,hq',hz,hzc⟩:=zeroOf_info hT.z
 rw[hq]at hq';cases hq'
 have hrd:=own_rd_of hown
 unfold Res.own at hown;obtain⟨h0,a',n',c',e1,e2,e3,e4,e5⟩:=hown;cases e1
 rw[bRows_len]at e2;have hzs:z.cells.size=1:=by rw[hzc];rfl
 have hsl:s.data.toList.length=s.size:=by simp
 have hl2:(Go.Lib.strCells s).length=s.size:=Go.Lib.strCells_length s
 have hrows:∀r∈bRows (l++s.data.toList),r.length=1:=fun r hr=>by
  obtain⟨b,-,rfl⟩:=List.mem_map.1 hr
  rfl
 have hflat:(bRows (l++s.data.toList)).flatten=Go.Lib.byteCells l++Go.Lib.strCells s:=by rw[bRows_flat,Go.Lib.byteCells_append];rfl
 have hbl:(Go.Lib.byteCells l).length=l.length:=Go.Lib.byteCells_length l
 have hrl:(bRows (l++s.data.toList)).length=n+s.size:=by rw[bRows_len,List.length_append,hsl,e2]
 by_cases hm0:s.size=0
 ·have hl:s.data.toList=[]:=List.eq_nil_of_length_eq_zero (by rw[hsl];exact hm0)
  refine⟨_,w,bs,run_appStr_none T U ty E q hT.h hU.h hq _ _ _ e3 s hm0,⟨rfl,rfl,rfl,(by first|exact Nat.le_refl _|exact Nat.le_succ _),Nat.le_refl _⟩,?_,?_,?_,fun _ _ _=>rfl,fun _=>rfl⟩
  ·rw[hl,List.append_nil];exact own_mk ⟨h0,_,_,_,rfl,by rw[bRows_len];exact e2,e3,e4,e5⟩
  ·rcases e5 with⟨_,rfl⟩|⟨g,cur,_,rfl,_⟩ <;> simp
  ·rcases e5 with⟨_,rfl⟩|⟨g,cur,_,rfl,g3,_⟩
   ·simp
   ·intro b hb';simp at hb'
    subst hb';exact⟨(Array.getElem?_eq_some_iff.1 g3).1,.inl (by simp)⟩
 ·have hpos:0<s.size:=by omega
  have h63':((n+s.size:Nat):Int)≤9223372036854775807:=by omega
  have grown:∀old,old<n+s.size→∃bs',(Res.own (.slice (some ⟨w.heap.size,0,none⟩) (n+s.size) (grownCap w (n+s.size) old E)) E 1 (bRows (l++s.data.toList))).holds mm bs' (hp (w.drew.alloc (.cells ((Go.Lib.byteCells l).toArray++(Go.Lib.strCells s).toArray++Builtin.zeroCells z.cells (grownCap w (n+s.size) old E-(n+s.size))) E))) ∧
    bs'.Nodup∧(∀b∈bs',b<(w.drew.alloc (.cells ((Go.Lib.byteCells l).toArray++(Go.Lib.strCells s).toArray++Builtin.zeroCells z.cells (grownCap w (n+s.size) old E-(n+s.size))) E)).heap.size∧(b∈bs∨w.heap.size≤b)):=by
   intro old ho;have hge:=grownCap_ge w (n+s.size) old E
   have hcm:grownCap w (n+s.size) old E≤maxLen:=grownCap_le_maxLen w (n+s.size) old E (by simp[maxLen];omega)
   refine⟨[w.heap.size],own_mk ⟨hrows,_,_,_,rfl,hrl.symm,hge,hcm,.inr ⟨w.heap.size,_,rfl,rfl,heap_alloc_new w.drew _,?_,?_⟩⟩,by simp,by simp⟩
   ·simp only[Array.size_append,List.size_toArray,size_zeroCells,hzs,hbl,hl2]
    omega
   ·simp only[Array.toList_append,List.append_assoc]
    rw[hflat,←List.append_assoc,show (n+s.size)*1=(Go.Lib.byteCells l++Go.Lib.strCells s).length from by rw[List.length_append,hbl,hl2];omega]
    exact List.take_left
  have same:∀o,Same3 w (w.drew.alloc o):=fun o=>⟨rfl,rfl,rfl,(by first|exact Nat.le_refl _|exact Nat.le_succ _),by simp⟩
  have old_:∀o k,k<w.heap.size→(w.drew.alloc o).heap[k]? = w.heap[k]?:=fun o k hk=>heap_alloc_old w.drew o hk
  by_cases hroom:n+s.size≤c
  ·rcases e5 with⟨hc0,_⟩|⟨g,cur,rfl,rfl,g3,g4,g5⟩
   ·omega
   ·have hfit:n+s.size≤cur.size:=by rw[g4];omega
    have hr:=Go.Lib.run_append_room_string (P:=P) w T U ty E q hT.h hU.h hq hs g n c cur g3 s hroom hfit
    refine⟨_,_,[g],hr,⟨rfl,rfl,rfl,(by first|exact Nat.le_refl _|exact Nat.le_succ _),by simp⟩,own_mk ⟨hrows,_,_,_,rfl,hrl.symm,hroom,e4,.inr ⟨g,_,rfl,rfl,setRow_heap w g cur _ E _ g3,?_,?_⟩⟩,by simp,?_,fun k hk hne=>setRow_other w g k _ (by simpa using hne),fun hz=>absurd hz hm0⟩
    ·simp only[List.size_toArray,List.length_append,List.length_take,List.length_drop,Array.length_toList,hl2];omega
    ·show List.take _ (List.toArray _).toList=_
     rw[Nat.mul_one]at g5;rw[g5,hflat,bRows_flat,show (n+s.size)*1=(Go.Lib.byteCells l++Go.Lib.strCells s).length from by rw[List.length_append,hbl,hl2];omega]
     exact List.take_left
    ·intro b hb';simp at hb';subst hb'
     exact⟨by have:=(Array.getElem?_eq_some_iff.1 g3).1;simpa using this,.inl (by simp)⟩
  ·obtain⟨bs',hb1,hb2,hb3⟩:=grown c (by omega)
   cases ha:a with
   | none=>
    have hn0:n=0:=by
     rcases Nat.eq_zero_or_pos n with h|h
     ·exact h
     ·have:=hrd.at_ (by rw[bRows_len];omega);rw[ha]at this;cases this
    have hc0:c=0:=by
     rcases e5 with⟨hc0,_⟩|⟨g,cur,h',_⟩
     ·exact hc0
     ·rw[ha]at h';cases h'
    subst hn0;subst hc0;have hln:l=[]:=List.eq_nil_of_length_eq_zero e2.symm
    subst hln;have hr:=run_append_nil_string (P:=P) w T U ty E q z hT.h hU.h hq hz s hpos (by omega) (by rw[hby];omega)
    simp only[Nat.zero_add,show (Go.Lib.byteCells []).toArray = #[] from rfl,Array.empty_append]at hb1 hb3 ⊢
    have hcs:(Go.Lib.strCells s).toArray=s.data.map fun b=>Value.int .u8 b.toNat:=by
     apply Array.ext'
     simp[Go.Lib.strCells]
    rw[hcs]at hb1 hb3
    exact⟨_,_,bs',hr,same _,hb1,hb2,hb3,fun k hk _=>old_ _ k hk,fun hz=>absurd hz hm0⟩
   | some b0=>
    have hold:∀j u,(Go.Lib.byteCells l)[j]? = some u→w.cell? (b0.add j)=some u:=fun j u hj=>by
     have hp0:0<(bRows l).length:=by
      rw[bRows_len];have:=(List.getElem?_eq_some_iff.1 hj).1
      rw[hbl]at this;omega
     have h2:=hrd.at_ hp0
     rw[ha]at h2;have h3:b0=⟨aB (some b0),aO (some b0),none⟩:=Option.some.inj h2
     have:=hrd.range j u (by rw[bRows_flat];exact hj)
     rw[ha]at this;have h4:w.cell? ((⟨aB (some b0),aO (some b0),none⟩:Addr).add j)=some u:=by rw[Addr.add_mid];exact this
     rwa [←h3]at h4
    have hr:=Go.Lib.run_append_grow_string (P:=P) w T U ty E q z hT.h hU.h hq hz b0 n c (Go.Lib.byteCells l) (by rw[hbl,hs,Nat.mul_one];exact e2.symm) hold s (by omega) h63' (by rw[hby];exact growslice_fits (by omega) (by omega))
    exact⟨_,_,bs',hr,same _,hb1,hb2,hb3,fun k hk _=>old_ _ k hk,fun hz=>absurd hz hm0⟩
theorem s_appStr{E i:Nat}{a:Option Addr}{n c:Nat}{l:List UInt8}{s:ByteArray}[hT:TL P T E 1 1 [.int .u8 0]][hU:TStr P U](hw:Wd Γ S w)(hx:ev ρ x=.slice a n c)(hy:ev ρ y=.string s)
  (hi:S[i]? = some (.own (.slice a n c) E 1 (bRows l))) (hb:n+s.size≤140737488355328)
  (hk:∀v' w',(s.size=0→v'=.slice a n c)→Wd Γ (S.set i (.own v' E 1 (bRows (l++s.data.toList)))) w'→K v' w'):Step P ⟨d,.call { callee:=.builtin .append,args:=#[x,y],argTypes:=#[T,U] },ty,pos,es,g⟩ ρ w K:=by
 obtain⟨bss,h2,h3,h4⟩:=hw.own;obtain⟨bs,hbs,hown⟩:=Holds.get S bss i _ h2 hi
 obtain⟨v',w',bs',hr,hs,hh,hnd,hbb,hkk,hfit⟩:=run_appStr_res (P:=P) (T:=T) (U:=U) (ty:=ty) hown hb
 have hfin:K v' w':=hk v' w' hfit (hw.upd hi hs fun bs2 hr2' hnd2 hlt2=>by
  obtain⟨v2,w2,bs2',q1,q2,q3,q4,q5,q6,-⟩:=run_appStr_res (P:=P) (T:=T) (U:=U) (ty:=ty) hr2' hb
  rw[hr]at q1;cases q1
  exact⟨bs2',q3,q4,q5,q6⟩)
 have hrr:(execOp (ev ρ) ⟨d,.call { callee:=.builtin .append,args:=#[x,y],argTypes:=#[T,U] },ty,pos,es,g⟩).run P w=.ok (.value v') w':=by
  simp only[execOp,resolve,invoke,builtin,Sem.run_bind,Sem.run_pure,Result.andThen_ok,List.map_toArray,List.map_cons,List.map_nil,hx,hy,hr]
 unfold Step;rw[hrr];exact hfin
theorem lAppStr{n:Nat}{opa:Array Oper}{QQ:Exit→Fr→World→Prop}{rest:List Oper}{E i:Nat}{a:Option Addr}{m c:Nat}{l:List UInt8}{s:ByteArray}[TL P T E 1 1 [.int .u8 0]][TStr P U]
  (h:∀v' w',(s.size=0→v'=.slice a m c)→Wd Γ (S.set i (.own v' E 1 (bRows (l++s.data.toList)))) w'→L P n opa QQ rest (putO ρ d v') w') (hb:m+s.size≤140737488355328) (hw:Wd Γ S w:=by exact hw) (hx:ev ρ x=.slice a m c:=by exact rfl) (hy:ev ρ y=.string s:=by exact rfl)
  (hi:S[i]? = some (.own (.slice a m c) E 1 (bRows l)):=by exact byIX) (hd:okDst n d=true:=by exact rfl):L P n opa QQ (⟨d,.call { callee:=.builtin .append,args:=#[x,y],argTypes:=#[T,U] },ty,pos,es,none⟩::rest) ρ w:=
 L_step rfl hd (s_appStr hw hx hy hi hb h)
theorem shape_of{b:Nat}{cs:Array Value}{E:TypeId}{fr:Nat×Nat}(h:w.heap[b]? = some (.cells cs E fr)):w.shape? b=some (E,cs.size):=by simp[World.shape?,h]
theorem y_toUnsafe{b o i t E:Nat}{cs:Array Value}{fr:Nat×Nat}{j:TypeInfo}(hs:P.underlying T=some (.pointer t))(hd:P.underlying U=some .unsafePointer)(ht:P.info? t=some j)(hj:j.size≠0)(hw:Wd Γ S w)(hx:ev ρ x=.pointer (some ⟨b,o,none⟩))(hi:S[i]? = some (.blk b (.cells cs E fr)))(ho:o<cs.size) :
  Yields P ⟨d,.convert T U x,ty,pos,es,g⟩ ρ w (.pointer (some ⟨b,o,none⟩)):=by
 have:=Go.Lib.run_to_unsafe (P:=P) w (⟨b,o,none⟩:Addr) hs hd ht hj (shape_of (hw.at_blk hi)) ho
 unfold Yields;simp[execOp,go_sem,hx,this]
theorem y_fromUnsafe{b o i u E:Nat}{cs:Array Value}{fr:Nat×Nat}{j:TypeInfo}(hs:P.underlying T=some .unsafePointer)(hd:P.underlying U=some (.pointer u))(hu:P.info? u=some j)(hw:Wd Γ S w)(hx:ev ρ x=.pointer (some ⟨b,o,none⟩))(hi:S[i]? = some (.blk b (.cells cs E fr)))(hl:liesAt P P.depth E (cs.size / P.cellsOf E) o u 1=true) :
  Yields P ⟨d,.convert T U x,ty,pos,es,g⟩ ρ w (.pointer (some ⟨b,o,none⟩)):=by
 have:=Go.Lib.run_from_unsafe (P:=P) w (⟨b,o,none⟩:Addr) hs hd hu (shape_of (hw.at_blk hi)) hl
 unfold Yields;simp[execOp,go_sem,hx,this]
theorem y_neqPP{A:Addr}{te:Nat}{j:TypeInfo}(hp:P.underlying T=some (.pointer te))(hte:P.info? te=some j)(hx:ev ρ x=.pointer (some A))(hy:ev ρ y=.pointer (some A)):Yields P ⟨d,.binOp .neq T x y U,ty,pos,es,g⟩ ρ w (.bool false):=by
 have:=Go.Lib.run_neq_ptr_same (P:=P) w A hp hte
 unfold Yields;simp[execOp,go_sem,hx,hy,this]
theorem y_sliceData{a:Addr}{n c:Nat}(hx:ev ρ x=.slice (some a) n c)(hc:c≠0):Yields P ⟨d,.call { callee:=.builtin .unsafeSliceData,args:=#[x],argTypes:=#[T] },ty,pos,es,g⟩ ρ w (.pointer (some a)):=by
 have:=Go.Lib.run_unsafeSliceData_row (P:=P) w #[T] ty a n c hc
 unfold Yields;simp[execOp,go_sem,hx]
 simp[builtin,this]
theorem y_sliceDataN{n c:Nat}(hx:ev ρ x=.slice none n c):Yields P ⟨d,.call { callee:=.builtin .unsafeSliceData,args:=#[x],argTypes:=#[T] },ty,pos,es,g⟩ ρ w (.pointer none):=by
 have:=Go.Lib.run_unsafeSliceData_nil (P:=P) w #[T] ty n c
 unfold Yields;simp[execOp,go_sem,hx]
 simp[builtin,this]
theorem y_unsafeStrN{p:Option Addr}(hx:ev ρ x=.pointer p)(hy:ev ρ y=.int .i64 0):Yields P ⟨d,.call { callee:=.builtin .unsafeString,args:=#[x,y],argTypes:=#[T,U] },ty,pos,es,g⟩ ρ w (.string ⟨#[]⟩):=by
 have:=Go.Lib.run_unsafeString_none (P:=P) w T U ty p
 unfold Yields;simp[execOp,go_sem,hx,hy]
 simp[builtin,this];rfl
theorem s_unsafeStr{E n c:Nat}{a:Addr}{l:List UInt8}{R:List Res}(hp:P.underlying T=some (.pointer E))(hc:P.cellsOf E=1)(hw:Wd Γ (.own (.slice (some a) n c) E 1 (bRows l)::R) w)(hx:ev ρ x=.pointer (some a))(hy:ev ρ y=.int .i64 (l.length:Nat))(h0:l≠[])
  (hk:∀w',Wd Γ R w'→K (.string ⟨l.toArray⟩) w'):Step P ⟨d,.call { callee:=.builtin .unsafeString,args:=#[x,y],argTypes:=#[T,U] },ty,pos,es,g⟩ ρ w K:=by
 obtain⟨bss,h2,h3,h4⟩:=hw.own;obtain⟨bs,bss,rfl⟩:∃b c,bss=b::c:=by cases bss with|nil=>exact h2.elim|cons b c=>exact⟨_,_,rfl⟩
 obtain⟨hown,hrest⟩:=h2;have hrd:=own_rd_of hown
 unfold Res.own at hown;obtain⟨q0,a',n',c',e1,e2,e3,e4,e5⟩:=hown;cases e1
 rw[bRows_len]at e2;have hl0:l.length≠0:=by simpa using h0
 rcases e5 with⟨hc0,_⟩|⟨b,cur,g1,rfl,g3,g4,g5⟩
 ·omega
 ·cases g1
  have hsh:w.shape? b=some (E,cur.size):=by simp[World.shape?,show w.heap[b]? = some (.cells cur E (0,0)) from g3]
  have hr:=Go.Lib.run_unsafeString_row (P:=P) w T U ty E hp hc b cur.size hsh l h0 (by rw[g4];omega) (by simp only[maxLen]at e4;omega) (fun j x hx=>by
   have:=hrd.range j (.int .u8 x.toNat) (by rw[bRows_flat];simp[Go.Lib.byteCells,hx])
   rw[Addr.add_lit];simpa[aB,aO] using this)
  have hw':Wd Γ R (w.freeze ⟨b,0,none⟩ l.length):=by
   have hne:∀k,k≠b→(w.freeze ⟨b,0,none⟩ l.length).heap[k]? = w.heap[k]?:=fun k hk=>by
    unfold World.freeze;rw[if_neg hl0];show (w.heap.modify b _)[k]? = _
    rw[Array.getElem?_modify,if_neg (Ne.symm hk)]
   have hsz:(w.freeze ⟨b,0,none⟩ l.length).heap.size=w.heap.size:=by
    simp[World.freeze,hl0]
   have hos:(w.freeze ⟨b,0,none⟩ l.length).os=w.os∧(w.freeze ⟨b,0,none⟩ l.length).tape=w.tape∧(w.freeze ⟨b,0,none⟩ l.length).output=w.output∧(w.freeze ⟨b,0,none⟩ l.length).drawn=w.drawn:=by
    simp[World.freeze,hl0]
   have hnb:b∉bss.flatten:=by
    rw[List.flatten_cons,List.nodup_append]at h3;exact fun hb=>h3.2.2 b (by simp) b hb rfl
   have hbi:Γ.imm b=none:=(h4 b (by simp)).2
   refine⟨hos.1.trans hw.os,hos.2.1.trans hw.tape,hos.2.2.1.trans hw.out,by rw[hos.2.2.2];exact hw.dr,fun k o ho=>?_,bss,?_,?_,fun k hk=>?_⟩
   ·rw[hne k (fun e=>by subst e;rw[hbi]at ho;cases ho)]
    exact hw.imm k o ho
   ·exact Holds.loc (fun _ _ h=>h) R bss (fun k hk=>hne k (fun e=>by subst e;exact hnb hk)) hrest
   ·rw[List.flatten_cons,List.nodup_append]at h3;exact h3.2.1
   ·rw[hsz];exact h4 k (by rw[List.flatten_cons];exact List.mem_append_right _ hk)
  have hrr:(execOp (ev ρ) ⟨d,.call { callee:=.builtin .unsafeString,args:=#[x,y],argTypes:=#[T,U] },ty,pos,es,g⟩).run P w=.ok (.value (.string ⟨l.toArray⟩)) (w.freeze ⟨b,0,none⟩ l.length):=by
   simp only[execOp,resolve,invoke,builtin,Sem.run_bind,Sem.run_pure,Result.andThen_ok,List.map_toArray,List.map_cons,List.map_nil,hx,hy,hr]
  unfold Step;rw[hrr];exact hk _ hw'
end
end Mk
end
section
open Go Mk
namespace Go.Proofs.YtfoggcgogafocaaGreatDoor
set_option maxHeartbeats 16000000
attribute [local irreducible] Calls
section
variable {Γ:Gho}{S:List Res}{w:World}{bp:Nat}{a:Option Addr}{n c k:Nat}{e p:PosT}{er:Int}{toks:List Tok}
theorem farg_any[ht:RTok Γ a n c toks](beyond:Bool)(hw:Wd Γ (fpB bp a n c k e p 0::S) w) :
  Calls Tryz.prog 125 #[.pointer (some ⟨bp,0,none⟩),.bool beyond] w (FP Γ S bp a n c e p (fun v:Val=>.tuple #[.agg (enc v).toArray,.bool true]) (fun u=>∃v:Val,u=.tuple #[.agg (enc v).toArray,.bool false]) (argP toks e beyond k)):=by
 obtain⟨hn,hnc,hc⟩:=ht.len;have hbig:=ht.big
 refine calls_of_WC Tryz.func125 rfl rfl ?_
 repeat first|refine byW ?_|refine byV ?_;intro w hw
 refine lAlloc ?_;intro b4 w hw;have hw:Wd Γ (fpB bp a n c k e p 0::.blk b4 (.cells (enc (default:Val)).toArray 48)::S) w:=hw.ps [1]
 repeat(first|refine byW ?_|(refine byV ?_;intro w hw)|(apply L_plain;apply L_go;refine lPs ?_;intro w hw)|(apply L_guarded;apply L_go;refine lPsG ?_;intro w hw))
 refine lAlloc ?_;intro b6 w hw;refine lStore ?_;intro w hw;have hw:Wd Γ (fpB bp a n c k e p 0::.blk b6 (.cells (enc (pk toks k)).toArray 161)::.blk b4 (.cells (enc (default:Val)).toArray 48)::S) w:=hw.ps [1]
 have fin:∀(er:Int) (w:World) (ρ:Fr),Wd Γ (fpB bp a n c k e (posOf toks k e) er::.blk b6 (.cells (enc (pk toks k)).toArray 161)::.blk b4 (.cells (enc (default:Val)).toArray 48)::S) w→ρ 4=.pointer (some ⟨b4,0,none⟩)→ρ 5=.bool false→∃vs,ResL Tryz.prog ρ w [ResultVar.cell 4 48,ResultVar.tmp 5] vs∧FP Γ S bp a n c e p (fun v:Val=>.tuple #[.agg (enc v).toArray,.bool true]) (fun u=>∃v:Val,u=.tuple #[.agg (enc v).toArray,.bool false]) (.error (posOf toks k e,er)) (.returned (tupV vs)) w:=fun er w ρ hw h4 h5=>
  ⟨[.agg (enc (default:Val)).toArray,.bool false],⟨resC (i:=2) hw rfl h4 rfl,h5,trivial⟩,_,k,rfl,⟨default,rfl⟩,hw.ds [1,1]⟩
 repeat first|refine byW ?_|refine byV ?_;intro w hw
 refine W_cond rfl (fun h1=>?_) (fun h1=>?_)
 ·have h1:(pk toks k).Kind=2∧9223372036854775808≤(pk toks k).Value:=by simpa using h1
  have hE:argP toks e beyond k=.error (posOf toks k e,6):=by unfold argP;rw[if_pos h1]
  rw[hE];repeat first|refine byW ?_|refine byV ?_;intro w hw
  refine lCall ?_;refine(ffail_any 6 hw).mono ?_
  rintro r w ⟨rfl,hw⟩
  refine⟨_,rfl,?_⟩;refine lStore ?_;intro w hw;repeat first|refine byW ?_|refine byV ?_;intro w hw
  exact fin 6 w _ hw rfl rfl
 have h1:¬((pk toks k).Kind=2∧9223372036854775808≤(pk toks k).Value):=fun q=>by simp[q.1,q.2]at h1
 repeat first|refine byW ?_|refine byV ?_;intro w hw
 refine W_cond rfl (fun h2=>?_) (fun h2=>?_)
 ·have h2:(pk toks k).Kind=1∨(pk toks k).Kind=3:=by simpa using h2
  have hlt:=pk_lt (toks:=toks) (k:=k) (by rcases h2 with q|q <;> rw[q] <;> decide)
  repeat first|refine byW ?_|refine byV ?_;intro w hw
  refine W_cond rfl (fun h3=>?_) (fun h3=>?_)
  ·have h3:(pk toks k).Text=⟨#[]⟩∨24<(pk toks k).Text.size:=by
    rw[Bool.or_eq_true]at h3;rcases h3 with q|q
    ·exact .inl (of_decide_eq_true q)
    ·exact .inr (by have:=of_decide_eq_true q;omega)
   have hE:argP toks e beyond k=.error (posOf toks k e,63):=by unfold argP;rw[if_neg h1,if_pos h2,if_pos h3]
   rw[hE];repeat first|refine byW ?_|refine byV ?_;intro w hw
   refine lCall ?_;refine(ffail_any 63 hw).mono ?_
   rintro r w ⟨rfl,hw⟩
   refine⟨_,rfl,?_⟩;refine lStore ?_;intro w hw;repeat first|refine byW ?_|refine byV ?_;intro w hw
   exact fin 63 w _ hw rfl rfl
  have h3:¬((pk toks k).Text=⟨#[]⟩∨24<(pk toks k).Text.size):=fun q=>by
   rw[Bool.or_eq_false_iff]at h3;rcases q with q|q
   ·exact of_decide_eq_false h3.1 q
   ·have:=of_decide_eq_false h3.2;omega
  repeat first|refine byW ?_|refine byV ?_;intro w hw
  refine W_cond rfl (fun h4=>?_) (fun h4=>?_)
  ·have hE:argP toks e beyond k=.error (posOf toks k e,15):=by unfold argP;rw[if_neg h1,if_pos h2,if_neg h3,if_pos h4]
   rw[hE];repeat first|refine byW ?_|refine byV ?_;intro w hw
   refine lCall ?_;refine(ffail_any 15 hw).mono ?_
   rintro r w ⟨rfl,hw⟩
   refine⟨_,rfl,?_⟩;refine lStore ?_;intro w hw;repeat first|refine byW ?_|refine byV ?_;intro w hw
   exact fin 15 w _ hw rfl rfl
  have hE:argP toks e beyond k=.ok (⟨2,0,(pk toks k).Text⟩,k+1):=by unfold argP;rw[if_neg h1,if_pos h2,if_neg h3,if_neg (by rw[h4];decide)]
  rw[hE];repeat first|refine byW ?_|refine byV ?_;intro w hw
  refine W_cond rfl (fun h5=>?_) (fun h5=>?_)
  ·repeat first|refine byW ?_|refine byV ?_;intro w hw
   refine lStore ?_;intro w hw;have hw:Wd Γ (fpB bp a n c (k+1) e p 0::.blk b6 (.cells (enc (pk toks k)).toArray 161)::.blk b4 (.cells (enc (default:Val)).toArray 48)::S) w:=hw
   repeat first|refine byW ?_|refine byV ?_;intro w hw
   refine lStore ?_;intro w hw;have hw:Wd Γ (fpB bp a n c (k+1) e p 0::.blk b6 (.cells (enc (pk toks k)).toArray 161)::.blk b4 (.cells (enc (⟨2,0,(pk toks k).Text⟩:Val)).toArray 48)::S) w:=hw
   repeat first|refine byW ?_|refine byV ?_;intro w hw
   exact⟨[.agg (enc (⟨2,0,(pk toks k).Text⟩:Val)).toArray,.bool true],⟨resC (i:=2) hw rfl rfl rfl,rfl,trivial⟩,rfl,hw.ds [1,1]⟩
  ·rcases h2 with q|q <;> simp[q]at h5
 have h2:¬((pk toks k).Kind=1∨(pk toks k).Kind=3):=fun q=>by rcases q with q|q <;> simp[q]at h2
 repeat first|refine byW ?_|refine byV ?_;intro w hw
 refine W_cond rfl (fun h3=>?_) (fun h3=>?_)
 ·have h3:(pk toks k).Kind≠2∧((pk toks k).Kind≠4∨(pk toks k).Text≠dashB):=by
   rw[Bool.and_eq_true,Bool.or_eq_true]at h3;exact⟨of_decide_eq_true h3.1,h3.2.imp of_decide_eq_true of_decide_eq_true⟩
  have hE:argP toks e beyond k=.error (posOf toks k e,50):=by unfold argP;rw[if_neg h1,if_neg h2,if_pos h3]
  rw[hE];repeat first|refine byW ?_|refine byV ?_;intro w hw
  refine lCall ?_;refine(ffail_any 50 hw).mono ?_
  rintro r w ⟨rfl,hw⟩
  refine⟨_,rfl,?_⟩;refine lStore ?_;intro w hw;repeat first|refine byW ?_|refine byV ?_;intro w hw
  exact fin 50 w _ hw rfl rfl
 have h3:¬((pk toks k).Kind≠2∧((pk toks k).Kind≠4∨(pk toks k).Text≠dashB)):=fun q=>by
  have e1:decide ((pk toks k).Kind≠2)=true:=decide_eq_true q.1
  have e2:(decide ((pk toks k).Kind≠4)||decide ((pk toks k).Text≠dashB))=true:=by
   rcases q.2 with q|q
   ·rw[decide_eq_true q];rfl
   ·rw[decide_eq_true q,Bool.or_true]
  have h3':(decide ((pk toks k).Kind≠2)&&(decide ((pk toks k).Kind≠4)||decide ((pk toks k).Text≠dashB)))=false:=h3
  rw[e1,e2]at h3';cases h3'
 have hlt:=pk_lt (toks:=toks) (k:=k) (fun q=>by rw[q]at h3;exact h3 ⟨by decide,.inl (by decide)⟩)
 repeat first|refine byW ?_|refine byV ?_;intro w hw
 refine W_cond rfl (fun h4=>?_) (fun h4=>?_)
 ·have hE:argP toks e beyond k=.error (posOf toks k e,15):=by unfold argP;rw[if_neg h1,if_neg h2,if_neg h3,if_pos h4]
  rw[hE];repeat first|refine byW ?_|refine byV ?_;intro w hw
  refine lCall ?_;refine(ffail_any 15 hw).mono ?_
  rintro r w ⟨rfl,hw⟩
  refine⟨_,rfl,?_⟩;refine lStore ?_;intro w hw;repeat first|refine byW ?_|refine byV ?_;intro w hw
  exact fin 15 w _ hw rfl rfl
 have hE:argP toks e beyond k=argI (intP toks e (decide ((pk toks k).Kind=4)) (if (pk toks k).Kind=4 then k+1 else k)):=by unfold argP;rw[if_neg h1,if_neg h2,if_neg h3,if_neg (by rw[h4];decide)]
 rw[hE];repeat first|refine byW ?_|refine byV ?_;intro w hw
 refine W_cond rfl (fun h5=>?_) (fun h5=>?_)
 ·exfalso
  rw[Bool.or_eq_true]at h5;exact h2 (h5.imp of_decide_eq_true of_decide_eq_true)
 repeat first|refine byW ?_|refine byV ?_;intro w hw
 refine W_cutT (fun ρ w=>Has ρ [(0,.pointer (some ⟨bp,0,none⟩)),(4,.pointer (some ⟨b4,0,none⟩)),(7,.bool (decide ((pk toks k).Kind=4)))]∧Wd Γ (fpB bp a n c (if (pk toks k).Kind=4 then k+1 else k) e p 0::.blk b6 (.cells (enc (pk toks k)).toArray 161)::.blk b4 (.cells (enc (default:Val)).toArray 48)::S) w) ?_ ?_
 ·refine W_cond rfl (fun h6=>?_) (fun h6=>?_)
  ·have h6:(pk toks k).Kind=4:=of_decide_eq_true h6
   rw[if_pos h6];repeat first|refine byW ?_|refine byV ?_;intro w hw
   refine lStore ?_;intro w hw;have hw:Wd Γ (fpB bp a n c (k+1) e p 0::.blk b6 (.cells (enc (pk toks k)).toArray 161)::.blk b4 (.cells (enc (default:Val)).toArray 48)::S) w:=hw
   repeat first|refine byW ?_|refine byV ?_;intro w hw
   exact⟨⟨rfl,rfl,rfl,trivial⟩,hw⟩
  ·have h6:¬(pk toks k).Kind=4:=of_decide_eq_false h6
   rw[if_neg h6];repeat first|refine byW ?_|refine byV ?_;intro w hw
   exact⟨⟨rfl,rfl,rfl,trivial⟩,hw⟩
 ·clear hw;rintro ρ w ⟨hρ,hw⟩
  rw[hρ.eq];generalize (if (pk toks k).Kind=4 then k+1 else k)=k2 at *
  repeat first|refine byW ?_|refine byV ?_;intro w hw
  refine lCall ?_;refine(fint_any (decide ((pk toks k).Kind=4)) hw).mono ?_
  intro r w hr;cases hI:intP toks e (decide ((pk toks k).Kind=4)) k2 with
  | ok q=>
   obtain⟨v,k1⟩:=q;rw[hI]at hr;obtain⟨rfl,hw⟩:=hr;refine⟨_,rfl,?_⟩;repeat first|refine byW ?_|refine byV ?_;intro w hw
   refine lStore ?_;intro w hw;have hw:Wd Γ (fpB bp a n c k1 e p 0::.blk b6 (.cells (enc (pk toks k)).toArray 161)::.blk b4 (.cells (enc (⟨1,v,⟨#[]⟩⟩:Val)).toArray 48)::S) w:=hw
   repeat first|refine byW ?_|refine byV ?_;intro w hw
   exact⟨[.agg (enc (⟨1,v,⟨#[]⟩⟩:Val)).toArray,.bool true],⟨resC (i:=2) hw rfl rfl rfl,rfl,trivial⟩,rfl,hw.ds [1,1]⟩
  | error q=>
   obtain⟨p',er⟩:=q;rw[hI]at hr;obtain⟨u,k',rfl,rfl,hw⟩:=hr;refine⟨_,rfl,?_⟩;repeat first|refine byW ?_|refine byV ?_;intro w hw
   refine lStore ?_;intro w hw;have hw:Wd Γ (fpB bp a n c k' e p' er::.blk b6 (.cells (enc (pk toks k)).toArray 161)::.blk b4 (.cells (enc (⟨1,0,⟨#[]⟩⟩:Val)).toArray 48)::S) w:=hw
   repeat first|refine byW ?_|refine byV ?_;intro w hw
   exact⟨[.agg (enc (⟨1,0,⟨#[]⟩⟩:Val)).toArray,.bool false],⟨resC (i:=2) hw rfl rfl rfl,rfl,trivial⟩,_,k',rfl,⟨_,rfl⟩,hw.ds [1,1]⟩
end
end Go.Proofs.YtfoggcgogafocaaGreatDoor
end
section
open Go
namespace Mk
attribute [local irreducible] Calls
section
variable {P:Program}{n:Nat}{ops:List Oper}{Γ:Gho}{K:List Res}{wr tc stab:List (List Nat)}{Q:Fr→World→Prop}{i:Nat}{rest:List Oper}{ρ:Fr}{M:Nat→Fr→List Res}
variable {d:Option Tmp}{ty:TypeId}{pos:String}{es:Array Edge}{f:Nat}{args:List Operand}{tys:Array TypeId}{vs:List Value}{v:Value}
theorem mCallS{c:Nat}{X:List Res}(X':List Res)[FnOk P f](hs:∀R w,Wd Γ (X++R) w→Calls P f vs.toArray w fun e w'=>e=.returned v∧Wd Γ (X'++R) w')
  (h:MSw (mV P n ops Γ K wr tc stab) Q (i+1) rest ⟨putO ρ d v,setC M c fun _=>X'⟩) (hM:M c=fun _=>X:=by first|exact setC_self|exact ml1|exact ml2|exact rfl) (hw0:wr.getD i []=[c]:=by exact rfl) (ht:tc.getD i []=[c]:=by exact rfl) (ha:∀g,EvL (ovr stab.flatten g ρ) args vs:=by intro g;exact byEV) :
  MSw (mV P n ops Γ K wr tc stab) Q i (⟨d,.call { callee:=.value (.func f),args:=args.toArray,argTypes:=tys },ty,pos,es,none⟩::rest) ⟨ρ,M⟩:=
 mS (F:=fun _=>X) (fun _=>X') (fun g w Y hw=>s_call (ha g).eqA ((hs _ w hw).mono fun e w' ⟨h1,h2⟩=>⟨v,h1,fun _=>rfl,h2⟩)) h hM hw0 ht rfl
theorem mCallK[FnOk P f](hs:∀Y w,Wd Γ (K++Y) w→Calls P f vs.toArray w fun e w'=>e=.returned v∧Wd Γ (K++Y) w')(h:MSw (mV P n ops Γ K wr tc stab) Q (i+1) rest ⟨putO ρ d v,M⟩)(hw0:wr.getD i []=[]:=by exact rfl)(ho:outOf tc stab i d=true:=by exact rfl)(ha:∀g,EvL (ovr stab.flatten g ρ) args vs:=by intro g;exact byEV) :
  MSw (mV P n ops Γ K wr tc stab) Q i (⟨d,.call { callee:=.value (.func f),args:=args.toArray,argTypes:=tys },ty,pos,es,none⟩::rest) ⟨ρ,M⟩:=
 mC (fun Y w g hw=>s_call (ha g).eqA ((hs _ w hw).mono fun e w' ⟨h1,h2⟩=>⟨v,h1,rfl,h2⟩)) hw0 rfl ho h
theorem qPsv{S:List Res}{t:Tmp}{cap:List Value}[FnOk P f](hc:∀Y w,Wd Γ (S++Y) w→Calls P f (vs++cap).toArray w fun e w'=>e=.returned v∧Wd Γ (S++Y) w')(h:Qw P n ops Γ S Q rest (putO ρ d v))(ht:ρ t=.func (.func f) #[] cap.toArray:=by exact rfl)(ha:EvL ρ args vs:=by exact byEV) :
  Qw P n ops Γ S Q (⟨d,.call { callee:=.value (.tmp t),args:=args.toArray,argTypes:=tys },ty,pos,es,none⟩::rest) ρ:=
 Q_c rfl rfl (fun Y w hw=>s_callv ht ha.eqA (by simpa using (hc Y w hw).mono fun e w' ⟨h1,h2⟩=>⟨v,h1,rfl,h2⟩)) h
theorem wd_nil{S:List Res}{w:World}(hw:Wd Γ S w):Wd Γ [] w:=⟨hw.os,hw.tape,hw.out,hw.dr,hw.imm,[],trivial,by simp,by simp⟩
theorem wd_below{S:List Res}{w w':World}(h0:Γ.dr=0)(hw:Wd Γ S w)(h:Go.RowKit.Below w.heap.size w w'):Wd Γ S w':=by
 have hk:∀k,k<w.heap.size→w'.heap[k]? = w.heap[k]?:=h.block
 obtain⟨h1,h2,h3,h4,h5,bss,h6,h7,h8⟩:=hw;refine⟨h.os.trans h1,h.tape.trans h2,h.output.trans h3,by rw[h0];exact Nat.zero_le _,fun b o hb=>?_,bss,Holds.loc (fun b o h=>h) S bss (fun b hb=>hk b (h8 b hb).1) h6,h7,fun b hb=>⟨Nat.lt_of_lt_of_le (h8 b hb).1 h.size,(h8 b hb).2⟩⟩
 have h9:=h5 b o hb
 rw[hk b (Array.getElem?_eq_some_iff.1 h9).1];exact h9
end
end Mk
end
section
open Go Mk
namespace Go.Proofs.YtfoggcgogafocaaGreatDoor
set_option maxHeartbeats 16000000
def lparB:ByteArray:=⟨#[40]⟩
def rparB:ByteArray:=⟨#[41]⟩
def dotB:ByteArray:=⟨#[46]⟩
def argsN(toks:List Tok)(e:PosT):Nat→Nat→List Val→PR (List Val)
 | 0,k,acc=>.ok (acc,k)
 | f+1,k,acc=>match argP toks e (decide (acc.length=8)) k with
  | .error q=>.error q
  | .ok (v,k1)=>if isS toks k1 4 commaB=true then argsN toks e f (k1+1) (acc++[v]) else .ok (acc++[v],k1)
def endP2(toks:List Tok)(e:PosT)(x:Fact)(k:Nat):PR Fact:=
 if isS toks k 4 rparB=true then (if isS toks (k+1) 4 dotB=true then .ok (x,k+2) else .error (posOf toks (k+1) e,50)) else .error (posOf toks k e,50)
def factE(toks:List Tok)(e:PosT)(t:ByteArray):PR (List Val)→PR Fact
 | .error q=>.error q
 | .ok (vs,k2)=>endP2 toks e (t,vs) k2
theorem factE_ok{toks:List Tok}{e:PosT}{t:ByteArray}{vs:List Val}{k2:Nat}:factE toks e t (.ok (vs,k2))=endP2 toks e (t,vs) k2:=rfl
theorem factE_err{toks:List Tok}{e:PosT}{t:ByteArray}{q:PosT×Int}:factE toks e t (.error q)=.error q:=rfl
def factP(toks:List Tok)(e:PosT)(beyond:Bool)(k:Nat):PR Fact:=
 if (pk toks k).Kind≠1 then .error (posOf toks k e,50)
 else if 24<(pk toks k).Text.size then .error (posOf toks k e,63)
 else if beyond=true then .error (posOf toks k e,15)
 else if isS toks (k+1) 4 lparB=true then factE toks e (pk toks k).Text (argsN toks e (toks.length+1) (k+2) [])
 else .error (posOf toks (k+1) e,50)
theorem intP_ok{toks:List Tok}{e:PosT}{neg:Bool}{k k1:Nat}{v:Int}(h:intP toks e neg k=.ok (v,k1)):k1=k+1∧k<toks.length:=by
 unfold intP at h;split at h
 ·cases h
 ·rename_i h1
  split at h
  ·cases h
  ·cases h
   exact⟨rfl,pk_lt (by rw[Classical.not_not.1 h1];decide)⟩
theorem argP_ok{toks:List Tok}{e:PosT}{b:Bool}{k k1:Nat}{v:Val}(h:argP toks e b k=.ok (v,k1)):k<k1∧k1≤toks.length∧b=false:=by
 unfold argP at h;split at h
 ·cases h
 split at h
 ·rename_i h2
  split at h
  ·cases h
  split at h
  ·cases h
  ·rename_i h4
   cases h
   exact⟨Nat.lt_succ_self _,pk_lt (by rcases h2 with q|q <;> rw[q] <;> decide),by simpa using h4⟩
 split at h
 ·cases h
 split at h
 ·cases h
 rename_i h4
 cases hI:intP toks e (decide ((pk toks k).Kind=4)) (if (pk toks k).Kind=4 then k+1 else k) with
 | error q=>rw[hI]at h;cases h
 | ok q=>
  obtain⟨x,k2⟩:=q;rw[hI]at h;cases h
  obtain⟨rfl,h6⟩:=intP_ok hI
  refine⟨?_,h6,by simpa using h4⟩
  split <;> omega
attribute [local irreducible] Calls argP isS
section
variable {Γ:Gho}{S:List Res}{w:World}{bp:Nat}{a:Option Addr}{n c k:Nat}{e p:PosT}{er:Int}{toks:List Tok}
def FactPost(Γ:Gho)(S:List Res)(bp:Nat)(a:Option Addr)(n c:Nat)(e p:PosT):PR Fact→Ending→World→Prop
 | .ok (x,k),r,w=>∃(Γ':Gho) (f:FactH),Γ.le Γ'∧FOk Γ' f∧f.fact=x∧r=.returned (.tuple #[.agg (cF f).toArray,.bool true])∧Wd Γ' (fpB bp a n c k e p 0::S) w
 | .error (p',er),r,w=>∃(f:FactH) (k':Nat),r=.returned (.tuple #[.agg (cF f).toArray,.bool false])∧Wd Γ (fpB bp a n c k' e p' er::S) w
def noF:FactH:=⟨⟨#[]⟩,none,0,0,[]⟩
theorem ffact_any[ht:RTok Γ a n c toks](beyond:Bool)(hw:Wd Γ (fpB bp a n c k e p 0::S) w) :
  Calls Tryz.prog 60 #[.pointer (some ⟨bp,0,none⟩),.bool beyond] w (FactPost Γ S bp a n c e p (factP toks e beyond k)):=by
 obtain⟨hn,hnc,hc⟩:=ht.len;have hbig:=ht.big
 refine calls_of_WC Tryz.func60 rfl rfl ?_
 repeat first|refine byW ?_|refine byV ?_;intro w hw
 refine lAlloc ?_;intro b4 w hw;have hw:Wd Γ (fpB bp a n c k e p 0::.blk b4 (.cells (cF noF).toArray 45)::S) w:=hw.ps [1]
 repeat(first|refine byW ?_|(refine byV ?_;intro w hw)|(apply L_plain;apply L_go;refine lPs ?_;intro w hw)|(apply L_guarded;apply L_go;refine lPsG ?_;intro w hw))
 refine lAlloc ?_;intro b6 w hw;refine lStore ?_;intro w hw;have hw:Wd Γ (fpB bp a n c k e p 0::.blk b6 (.cells (enc (pk toks k)).toArray 161)::.blk b4 (.cells (cF noF).toArray 45)::S) w:=hw.ps [1]
 have fin:∀(p':PosT) (er:Int) (k':Nat) (w:World) (ρ:Fr) (R:List Res),Wd Γ (fpB bp a n c k' e p' er::.blk b4 (.cells (cF noF).toArray 45)::(S++R)) w→ρ 4=.pointer (some ⟨b4,0,none⟩)→ρ 5=.bool false→∃vs,ResL Tryz.prog ρ w [ResultVar.cell 4 45,ResultVar.tmp 5] vs∧FactPost Γ S bp a n c e p (.error (p',er)) (.returned (tupV vs)) w:=fun p' er k' w ρ R hw h4 h5=>
  ⟨[.agg (cF noF).toArray,.bool false],⟨resC (i:=1) hw rfl h4 rfl,h5,trivial⟩,noF,k',rfl,Wd.left (S:=fpB bp a n c k' e p' er::S) (hw.dropAt 1)⟩
 have fin2:∀(er:Int) (w:World) (ρ:Fr),Wd Γ (fpB bp a n c k e (posOf toks k e) er::.blk b6 (.cells (enc (pk toks k)).toArray 161)::.blk b4 (.cells (cF noF).toArray 45)::S) w→ρ 4=.pointer (some ⟨b4,0,none⟩)→ρ 5=.bool false→∃vs,ResL Tryz.prog ρ w [ResultVar.cell 4 45,ResultVar.tmp 5] vs∧FactPost Γ S bp a n c e p (.error (posOf toks k e,er)) (.returned (tupV vs)) w:=fun er w ρ hw h4 h5=>
  fin _ er k w ρ [] (by rw[List.append_nil];exact hw.dropAt 1) h4 h5
 repeat first|refine byW ?_|refine byV ?_;intro w hw
 refine W_cond rfl (fun h1=>?_) (fun h1=>?_)
 ·have h1:(pk toks k).Kind≠1:=of_decide_eq_true h1
  have hE:factP toks e beyond k=.error (posOf toks k e,50):=by unfold factP;rw[if_pos h1]
  rw[hE];repeat first|refine byW ?_|refine byV ?_;intro w hw
  refine lCall ?_;refine(ffail_any 50 hw).mono ?_
  rintro r w ⟨rfl,hw⟩
  refine⟨_,rfl,?_⟩;refine lStore ?_;intro w hw;repeat first|refine byW ?_|refine byV ?_;intro w hw
  exact fin2 50 w _ hw rfl rfl
 have h1:¬(pk toks k).Kind≠1:=of_decide_eq_false h1
 have hlt:=pk_lt (toks:=toks) (k:=k) (by rw[Classical.not_not.1 h1];decide)
 repeat first|refine byW ?_|refine byV ?_;intro w hw
 refine W_cond rfl (fun h2=>?_) (fun h2=>?_)
 ·have h2:24<(pk toks k).Text.size:=by have:=of_decide_eq_true h2;omega
  have hE:factP toks e beyond k=.error (posOf toks k e,63):=by unfold factP;rw[if_neg h1,if_pos h2]
  rw[hE];repeat first|refine byW ?_|refine byV ?_;intro w hw
  refine lCall ?_;refine(ffail_any 63 hw).mono ?_
  rintro r w ⟨rfl,hw⟩
  refine⟨_,rfl,?_⟩;refine lStore ?_;intro w hw;repeat first|refine byW ?_|refine byV ?_;intro w hw
  exact fin2 63 w _ hw rfl rfl
 have h2:¬24<(pk toks k).Text.size:=by have:=of_decide_eq_false h2;omega
 repeat first|refine byW ?_|refine byV ?_;intro w hw
 refine W_cond rfl (fun h3=>?_) (fun h3=>?_)
 ·have hE:factP toks e beyond k=.error (posOf toks k e,15):=by unfold factP;rw[if_neg h1,if_neg h2,if_pos h3]
  rw[hE];repeat first|refine byW ?_|refine byV ?_;intro w hw
  refine lCall ?_;refine(ffail_any 15 hw).mono ?_
  rintro r w ⟨rfl,hw⟩
  refine⟨_,rfl,?_⟩;refine lStore ?_;intro w hw;repeat first|refine byW ?_|refine byV ?_;intro w hw
  exact fin2 15 w _ hw rfl rfl
 have hE:factP toks e beyond k=if isS toks (k+1) 4 lparB=true then factE toks e (pk toks k).Text (argsN toks e (toks.length+1) (k+2) []) else .error (posOf toks (k+1) e,50):=by unfold factP;rw[if_neg h1,if_neg h2,if_neg (by rw[h3];decide)]
 rw[hE];clear hE;repeat first|refine byW ?_|refine byV ?_;intro w hw
 refine lStore ?_;intro w hw;have hw:Wd Γ (fpB bp a n c (k+1) e p 0::.blk b6 (.cells (enc (pk toks k)).toArray 161)::.blk b4 (.cells (cF noF).toArray 45)::S) w:=hw
 repeat first|refine byW ?_|refine byV ?_;intro w hw
 refine lAlloc ?_;intro b7 w hw;refine lStore ?_;intro w hw;have hw:Wd Γ (.blk b7 (.cells #[.string (pk toks k).Text,.slice none 0 0] 45)::fpB bp a n c (k+1) e p 0::.blk b6 (.cells (enc (pk toks k)).toArray 161)::.blk b4 (.cells (cF noF).toArray 45)::S) w:=hw
 have hw:Wd Γ (fpB bp a n c (k+1) e p 0::.blk b7 (.cells #[.string (pk toks k).Text,.slice none 0 0] 45)::.blk b4 (.cells (cF noF).toArray 45)::S) w:=(hw.dropAt 2).ps [1]
 repeat first|refine byW ?_|refine byV ?_;intro w hw
 refine lCall ?_;refine(fpunct_ex lparB hw).mono ?_
 rintro r w ⟨hp1,hp2⟩
 cases hl:isS toks (k+1) 4 lparB with
 | false=>
  obtain⟨rfl,hw⟩:=hp2 hl
  refine⟨_,rfl,?_⟩;repeat first|refine byW ?_|refine byV ?_;intro w hw
  refine W_cond rfl (fun _=>?_) (fun h=>by cases h)
  repeat first|refine byW ?_|refine byV ?_;intro w hw
  refine lStore ?_;intro w hw;repeat first|refine byW ?_|refine byV ?_;intro w hw
  exact fin _ 50 (k+1) w _ [] (by rw[List.append_nil];exact hw.dropAt 1) rfl rfl
 | true=>
  obtain⟨rfl,hw⟩:=hp1 hl
  have hlt2:=isS_lt hl
  clear hp1 hp2;refine⟨_,rfl,?_⟩;rw[if_pos rfl];repeat first|refine byW ?_|refine byV ?_;intro w hw
  refine W_cond rfl (fun h=>by cases h) (fun _=>?_)
  repeat first|refine byW ?_|refine byV ?_;intro w hw
  refine W_loop (fun μ ρ w=>∃(j f:Nat) (acc:List Val) (va:Value),μ+j=n∧n<f+j∧acc.length≤8∧Has ρ [(0,.pointer (some ⟨bp,0,none⟩)),(4,.pointer (some ⟨b4,0,none⟩)),(7,.pointer (some ⟨b7,0,none⟩))]∧argsN toks e (toks.length+1) (k+2) []=argsN toks e f j acc∧Wd Γ (fpB bp a n c j e p 0::.own va 48 3 (acc.map enc)::.blk b7 (.cells #[.string (pk toks k).Text,va] 45)::.blk b4 (.cells (cF noF).toArray 45)::S) w) (n-(k+2)) ⟨k+2,toks.length+1,[],.slice none 0 0,by omega,by omega,by simp,⟨rfl,rfl,rfl,trivial⟩,rfl,(Wd.addNil hw).ps [1]⟩ ?_
  clear hw;rintro μ ρ w ⟨j,f,acc,va,hj,hf,hacc,hρ,ho,hw⟩
  obtain⟨f,rfl⟩:∃f',f=f'+1:=⟨f-1,by omega⟩
  rw[hρ.eq];obtain⟨aa,na,ca,rfl,hna,hnac,hca⟩:=hw.own_shape (i:=1) rfl
  simp only[List.length_map]at hna
  repeat first|refine byW ?_|refine byV ?_;intro w hw
  rw[show decide ((na:Int)=8)=decide (acc.length=8) from decide_eq_decide.2 (by omega)]
  refine lCall ?_;refine(farg_any (decide (acc.length=8)) hw).mono ?_
  intro r w hr;clear hw;cases hA:argP toks e (decide (acc.length=8)) j with
  | error q=>
   obtain⟨p',er⟩:=q;rw[hA]at hr;obtain⟨u,k',rfl,⟨v,rfl⟩,hw⟩:=hr;have hR:argsN toks e (toks.length+1) (k+2) []=.error (p',er):=by
    rw[ho];unfold argsN;rw[hA]
   rw[hR,factE_err];refine⟨_,rfl,?_⟩;repeat first|refine byW ?_|refine byV ?_;intro w hw
   refine lAlloc ?_;intro b8 w hw;refine lStore ?_;intro w hw;repeat first|refine byW ?_|refine byV ?_;intro w hw
   refine W_cond rfl (fun _=>?_) (fun h=>by cases h)
   repeat first|refine byW ?_|refine byV ?_;intro w hw
   refine lStore ?_;intro w hw;repeat first|refine byW ?_|refine byV ?_;intro w hw
   exact fin _ er k' w _ [] (by rw[List.append_nil];exact hw.ds [0,1,1]) rfl rfl
  | ok q=>
   obtain⟨v,k1⟩:=q;rw[hA]at hr;obtain⟨rfl,hw⟩:=hr;obtain⟨hk1,hk2,hb⟩:=argP_ok hA
   have hb:¬acc.length=8:=of_decide_eq_false hb
   refine⟨_,rfl,?_⟩;repeat first|refine byW ?_|refine byV ?_;intro w hw
   refine lAlloc ?_;intro b8 w hw;refine lStore ?_;intro w hw;have hw:Wd Γ (.blk b8 (.cells (enc v).toArray 48)::fpB bp a n c k1 e p 0::.own (.slice aa na ca) 48 3 (acc.map enc)::.blk b7 (.cells #[.string (pk toks k).Text,.slice aa na ca] 45)::.blk b4 (.cells (cF noF).toArray 45)::S) w:=hw
   repeat first|refine byW ?_|refine byV ?_;intro w hw
   refine W_cond rfl (fun h=>by cases h) (fun _=>?_)
   repeat first|refine byW ?_|refine byV ?_;intro w hw
   refine lBuildSlice [enc v] ?_
   intro a62 w hw;refine lApp (i:=3) (rows2:=[enc v]) ?_ (Wd.own_rd (i:=0) hw rfl)
   intro v' w hw;obtain⟨a',n',c',rfl,-,-,-⟩:=hw.own_shape (i:=3) rfl
   repeat first|refine byW ?_|refine byV ?_;intro w hw
   refine lStore ?_;intro w hw;have hw:Wd Γ (.own (.slice (some a62) 1 1) 48 3 [enc v]::.blk b8 (.cells (enc v).toArray 48)::fpB bp a n c k1 e p 0::.own (.slice a' n' c') 48 3 (acc.map enc++[enc v])::.blk b7 (.cells #[.string (pk toks k).Text,.slice a' n' c'] 45)::.blk b4 (.cells (cF noF).toArray 45)::S) w:=hw
   rw[show acc.map enc++[enc v]=(acc++[v]).map enc from by simp]at hw
   have hw:Wd Γ (fpB bp a n c k1 e p 0::.own (.slice a' n' c') 48 3 ((acc++[v]).map enc)::.blk b7 (.cells #[.string (pk toks k).Text,.slice a' n' c'] 45)::.blk b4 (.cells (cF noF).toArray 45)::S) w:=hw.ds [0,0]
   repeat(first|refine byW ?_|(refine byV ?_;intro w hw)|(apply L_plain;apply L_go;refine lPs ?_;intro w hw)|(apply L_guarded;apply L_go;refine lPsG ?_;intro w hw))
   refine lAlloc ?_;intro b10 w hw;refine lStore ?_;intro w hw;have hw:Wd Γ (.blk b10 (.cells (enc (pk toks k1)).toArray 161)::fpB bp a n c k1 e p 0::.own (.slice a' n' c') 48 3 ((acc++[v]).map enc)::.blk b7 (.cells #[.string (pk toks k).Text,.slice a' n' c'] 45)::.blk b4 (.cells (cF noF).toArray 45)::S) w:=hw
   have hi:=isS_pk (toks:=toks) (k:=k1) (text:=commaB) (kind:=4) (by decide)
   repeat first|refine byW ?_|refine byV ?_;intro w hw
   refine W_cond rfl (fun h=>?_) (fun h=>?_)
   ·have hf:isS toks k1 4 commaB=false:=by
     rw[hi,Bool.and_eq_false_iff];have h':(decide ((pk toks k1).Kind≠4)||decide ((pk toks k1).Text≠commaB))=true:=h
     simpa using h'
    have hR:argsN toks e (toks.length+1) (k+2) []=.ok (acc++[v],k1):=by
     rw[ho];unfold argsN;rw[hA];exact if_neg (by rw[hf];decide)
    rw[hR,factE_ok];have hw:=(hw.dropAt 0).ps [3,3,3]
    have hw:Wd Γ ([.own (.slice a' n' c') 48 3 ((acc++[v]).map enc),.blk b7 (.cells (cF (⟨(pk toks k).Text,a',n',c',acc++[v]⟩:FactH)).toArray 45)]++([.blk b4 (.cells (cF noF).toArray 45)]++((fpB bp a n c k1 e p 0::S)++[]))) w:=by rw[List.append_nil];exact hw
    cases h41:isS toks k1 4 rparB with
    | false=>
     have hE:endP2 toks e ((pk toks k).Text,acc++[v]) k1=.error (posOf toks k1 e,50):=by unfold endP2;rw[h41];rfl
     rw[hE];repeat first|refine byW ?_|refine byV ?_;intro w hw
     refine W_mixed [.own (.slice a' n' c') _ _ _,.blk b7 _] [fun _=>[.blk b4 (.cells (cF noF).toArray 45)],fun _=>fpB bp a n c k1 e p 0::S] [[],[],[1],[],[],[],[],[0],[]] [[],[],[1],[],[],[],[],[0],[]] [[],[]] hw ?_
     refine byM ?_;refine mCallS (c:=1) (fpB bp a n c k1 e (posOf toks k1 e) 50::S) (fun R w hw=>(fpunct_ex rparB hw).mono fun r w h=>h.2 h41) ?_
     refine byM ?_;refine mGuardF ?_
     refine mGuardF ?_
     refine byM ?_;refine mStoreC (c:=0) ?_
     refine byM ?_;refine mEnd0 ?_
     intro w hw;have hw:Wd Γ ([.own (.slice a' n' c') 48 3 ((acc++[v]).map enc),.blk b7 (.cells (cF (⟨(pk toks k).Text,a',n',c',acc++[v]⟩:FactH)).toArray 45)]++([.blk b4 (.cells (cF (⟨(pk toks k).Text,a',n',c',acc++[v]⟩:FactH)).toArray 45)]++((fpB bp a n c k1 e (posOf toks k1 e) 50::S)++[]))) w:=hw
     rw[List.append_nil]at hw;repeat first|refine byW ?_|refine byV ?_;intro w hw
     exact⟨[.agg (cF (⟨(pk toks k).Text,a',n',c',acc++[v]⟩:FactH)).toArray,.bool false],⟨resC (i:=2) hw rfl rfl rfl,rfl,trivial⟩,_,k1,rfl,hw.ds [0,0,0]⟩
    | true=>
     have hlt4:=isS_lt h41
     cases h42:isS toks (k1+1) 4 dotB with
     | false=>
      have hE:endP2 toks e ((pk toks k).Text,acc++[v]) k1=.error (posOf toks (k1+1) e,50):=by unfold endP2;rw[h41,h42];rfl
      rw[hE];repeat first|refine byW ?_|refine byV ?_;intro w hw
      refine W_mixed [.own (.slice a' n' c') _ _ _,.blk b7 _] [fun _=>[.blk b4 (.cells (cF noF).toArray 45)],fun _=>fpB bp a n c k1 e p 0::S] [[],[],[1],[],[],[1],[],[0],[]] [[],[],[1],[],[],[1],[],[0],[]] [[],[]] hw ?_
      refine byM ?_;refine mCallS (c:=1) (fpB bp a n c (k1+1) e p 0::S) (fun R w hw=>(fpunct_ex rparB hw).mono fun r w h=>h.1 h41) ?_
      refine byM ?_;refine mGuard ?_
      refine byM ?_;refine mGuard ?_
      refine mCallS (c:=1) (fpB bp a n c (k1+1) e (posOf toks (k1+1) e) 50::S) (fun R w hw=>(fpunct_ex dotB hw).mono fun r w h=>h.2 h42) ?_
      refine byM ?_;refine mStoreC (c:=0) ?_
      refine byM ?_;refine mEnd0 ?_
      intro w hw;have hw:Wd Γ ([.own (.slice a' n' c') 48 3 ((acc++[v]).map enc),.blk b7 (.cells (cF (⟨(pk toks k).Text,a',n',c',acc++[v]⟩:FactH)).toArray 45)]++([.blk b4 (.cells (cF (⟨(pk toks k).Text,a',n',c',acc++[v]⟩:FactH)).toArray 45)]++((fpB bp a n c (k1+1) e (posOf toks (k1+1) e) 50::S)++[]))) w:=hw
      rw[List.append_nil]at hw;repeat first|refine byW ?_|refine byV ?_;intro w hw
      exact⟨[.agg (cF (⟨(pk toks k).Text,a',n',c',acc++[v]⟩:FactH)).toArray,.bool false],⟨resC (i:=2) hw rfl rfl rfl,rfl,trivial⟩,_,k1+1,rfl,hw.ds [0,0,0]⟩
     | true=>
      have hlt5:=isS_lt h42
      have hE:endP2 toks e ((pk toks k).Text,acc++[v]) k1=.ok (((pk toks k).Text,acc++[v]),k1+2):=by unfold endP2;rw[h41,h42];rfl
      rw[hE];repeat first|refine byW ?_|refine byV ?_;intro w hw
      refine W_mixed [.own (.slice a' n' c') _ _ _,.blk b7 _] [fun _=>[.blk b4 (.cells (cF noF).toArray 45)],fun _=>fpB bp a n c k1 e p 0::S] [[],[],[1],[],[],[1],[],[0],[]] [[],[],[1],[],[],[1],[],[0],[]] [[],[]] hw ?_
      refine byM ?_;refine mCallS (c:=1) (fpB bp a n c (k1+1) e p 0::S) (fun R w hw=>(fpunct_ex rparB hw).mono fun r w h=>h.1 h41) ?_
      refine byM ?_;refine mGuard ?_
      refine byM ?_;refine mGuard ?_
      refine mCallS (c:=1) (fpB bp a n c (k1+2) e p 0::S) (fun R w hw=>(fpunct_ex dotB hw).mono fun r w h=>h.1 h42) ?_
      refine byM ?_;refine mStoreC (c:=0) ?_
      refine byM ?_;refine mEnd0 ?_
      intro w hw;have hw:Wd Γ ([.own (.slice a' n' c') 48 3 ((acc++[v]).map enc),.blk b7 (.cells (cF (⟨(pk toks k).Text,a',n',c',acc++[v]⟩:FactH)).toArray 45)]++([.blk b4 (.cells (cF (⟨(pk toks k).Text,a',n',c',acc++[v]⟩:FactH)).toArray 45)]++((fpB bp a n c (k1+2) e p 0::S)++[]))) w:=hw
      rw[List.append_nil]at hw;repeat first|refine byW ?_|refine byV ?_;intro w hw
      have hw1:Wd Γ (.own (.slice a' n' c') 48 3 ((acc++[v]).map enc)::fpB bp a n c (k1+2) e p 0::S) w:=hw.ds [1,1]
      obtain⟨Γ',hle,hr,hw2⟩:=hw1.freeze;exact⟨[.agg (cF (⟨(pk toks k).Text,a',n',c',acc++[v]⟩:FactH)).toArray,.bool true],⟨resC (i:=2) hw rfl rfl rfl,rfl,trivial⟩,Γ',⟨(pk toks k).Text,a',n',c',acc++[v]⟩,hle,hr,rfl,rfl,hw2⟩
   ·have hf':isS toks k1 4 commaB=true:=by
     rw[hi,Bool.and_eq_true];have h':(decide ((pk toks k1).Kind≠4)||decide ((pk toks k1).Text≠commaB))=false:=h
     simpa using h'
    have hlt3:=isS_lt hf'
    repeat first|refine byW ?_|refine byV ?_;intro w hw
    refine lStore ?_;intro w hw;have hw:Wd Γ (.blk b10 (.cells (enc (pk toks k1)).toArray 161)::fpB bp a n c (k1+1) e p 0::.own (.slice a' n' c') 48 3 ((acc++[v]).map enc)::.blk b7 (.cells #[.string (pk toks k).Text,.slice a' n' c'] 45)::.blk b4 (.cells (cF noF).toArray 45)::S) w:=hw
    repeat first|refine byW ?_|refine byV ?_;intro w hw
    refine⟨n-(k1+1),by omega,k1+1,f,acc++[v],.slice a' n' c',by omega,by omega,by simp;omega,⟨rfl,rfl,rfl,trivial⟩,?_,hw.dropAt 0⟩
    rw[ho];conv=>lhs;unfold argsN
    rw[hA];exact if_pos hf'
end
end Go.Proofs.YtfoggcgogafocaaGreatDoor
end
section
open Go Mk
namespace Go.Proofs.YtfoggcgogafocaaGreatDoor
set_option maxHeartbeats 4000000
section
variable {α:Type}{c:α→α→Int}
structure SetOf(c:α→α→Int)(db l:List α):Prop where
 asc:l.Pairwise fun a b=>c a b = -1
 mem:∀x,x∈l↔x∈db
theorem asc_nodup(h:Ord3 c){l:List α}(ha:l.Pairwise fun a b=>c a b = -1):l.Nodup:=by
 refine List.Pairwise.imp (fun {a b} q e=>?_) ha
 subst e;rw[h.refl]at q;exact absurd q (by decide)
theorem asc_uniq(h:Ord3 c):∀ {l k:List α},(l.Pairwise fun a b=>c a b = -1)→(k.Pairwise fun a b=>c a b = -1)→(∀x,x∈l↔x∈k)→l=k
 | [],[],_,_,_=>rfl
 | [],b::k,_,_,hm=>absurd ((hm b).2 (List.mem_cons_self)) (by simp)
 | a::l,[],_,_,hm=>absurd ((hm a).1 (List.mem_cons_self)) (by simp)
 | a::l,b::k,ha,hb,hm=>by
  have ha':=List.pairwise_cons.1 ha
  have hb':=List.pairwise_cons.1 hb
  have hab:a=b:=by
   rcases List.mem_cons.1 ((hm a).1 List.mem_cons_self) with e|e
   ·exact e
   rcases List.mem_cons.1 ((hm b).2 List.mem_cons_self) with e2|e2
   ·exact e2.symm
   have h1:=hb'.1 a e
   have h2:=ha'.1 b e2
   have:=h.trans h1 h2
   rw[h.refl]at this;exact absurd this (by decide)
  subst hab;congr 1
  refine asc_uniq h ha'.2 hb'.2 fun x=>?_
  have hne:∀ {m:List α},(∀y∈m,c a y = -1)→x∈m→x≠a:=fun hh hx e=>by
   subst e;have:=hh _ hx
   rw[h.refl]at this;exact absurd this (by decide)
  constructor
  ·intro hx;rcases List.mem_cons.1 ((hm x).1 (List.mem_cons_of_mem _ hx)) with e|e
   ·exact absurd e (hne ha'.1 hx)
   ·exact e
  ·intro hx;rcases List.mem_cons.1 ((hm x).2 (List.mem_cons_of_mem _ hx)) with e|e
   ·exact absurd e (hne hb'.1 hx)
   ·exact e
theorem SetOf.uniq(h:Ord3 c){db l k:List α}(h1:SetOf c db l)(h2:SetOf c db k):l=k:=asc_uniq h h1.asc h2.asc fun x=>(h1.mem x).trans (h2.mem x).symm
def insA(c:α→α→Int)(f:α):List α→List α
 | []=>[f]
 | x::l=>if c f x = -1 then f::x::l else if c f x=0 then x::l else x::insA c f l
def setA(c:α→α→Int):List α→List α
 | []=>[]
 | f::db=>insA c f (setA c db)
theorem insA_mem(h:Ord3 c){f x:α}:∀ {l:List α},x∈insA c f l↔x=f∨x∈l
 | []=>by simp[insA]
 | y::l=>by
  unfold insA;split
  ·simp
  ·split
   ·rename_i e
    have e:=h.eq0 e
    subst e;simp
   ·rw[List.mem_cons,insA_mem h,List.mem_cons];constructor
    ·rintro (h|h|h)
     ·exact .inr (.inl h)
     ·exact .inl h
     ·exact .inr (.inr h)
    ·rintro (h|h|h)
     ·exact .inr (.inl h)
     ·exact .inl h
     ·exact .inr (.inr h)
theorem insA_asc(h:Ord3 c){f:α}:∀ {l:List α},(l.Pairwise fun a b=>c a b = -1)→(insA c f l).Pairwise fun a b=>c a b = -1
 | [],_=>by simp[insA]
 | y::l,ha=>by
  have ha':=List.pairwise_cons.1 ha
  unfold insA;split
  ·rename_i e
   refine List.pairwise_cons.2 ⟨fun z hz=>?_,ha⟩
   rcases List.mem_cons.1 hz with q|q
   ·rw[q];exact e
   ·exact h.trans e (ha'.1 z q)
  ·split
   ·exact ha
   ·rename_i e1 e2
    refine List.pairwise_cons.2 ⟨fun z hz=>?_,insA_asc h ha'.2⟩
    rcases (insA_mem h).1 hz with q|q
    ·rw[q,h.anti];rcases h.rng f y with r|r|r
     ·exact absurd r e1
     ·exact absurd r e2
     ·rw[r]
    ·exact ha'.1 z q
theorem setA_of(h:Ord3 c):∀db:List α,SetOf c db (setA c db)
 | []=>⟨List.Pairwise.nil,fun x=>Iff.rfl⟩
 | f::db=>⟨insA_asc h (setA_of h db).asc,fun x=>by
  show x∈insA c f (setA c db)↔_
  rw[insA_mem h,(setA_of h db).mem,List.mem_cons]⟩
theorem SetOf.eq(h:Ord3 c){db l:List α}(h1:SetOf c db l):l=setA c db:=h1.uniq h (setA_of h db)
theorem setA_congr(h:Ord3 c){db db':List α}(hm:∀x,x∈db↔x∈db'):setA c db=setA c db':=
 (SetOf.mk (setA_of h db).asc fun x=>((setA_of h db).mem x).trans (hm x)).eq h
theorem setA_mem(h:Ord3 c){db:List α}{x:α}:x∈setA c db↔x∈db:=(setA_of h db).mem x
theorem insA_len{f:α}:∀ {l:List α},(insA c f l).length≤l.length+1
 | []=>by simp[insA]
 | y::l=>by
  have:=insA_len (f:=f) (l:=l)
  unfold insA;split
  ·simp
  ·split
   ·simp
   ·simp;omega
theorem setA_len:∀ {db:List α},(setA c db).length≤db.length
 | []=>by simp[setA]
 | f::db=>by
  have:=setA_len (db:=db)
  have:=insA_len (c:=c) (f:=f) (l:=setA c db)
  simp only[setA,List.length_cons];omega
theorem setA_idem(h:Ord3 c)(db:List α):setA c (setA c db)=setA c db:=setA_congr h fun x=>setA_mem h
theorem setA_filter(h:Ord3 c)(p:α→Bool)(db:List α):setA c (db.filter p)=(setA c db).filter p:=by
 refine(SetOf.eq h (SetOf.mk ((setA_of h db).asc.filter _) fun x=>?_)).symm
 rw[List.mem_filter,List.mem_filter,setA_mem h]
end
def kp{α:Type}(p:α→α→Bool):α→List α→List α
 | _,[]=>[]
 | a,b::l=>if p b a=true then kp p b l else b::kp p b l
def cmpct{α:Type}(p:α→α→Bool):List α→List α
 | []=>[]
 | a::l=>a::kp p a l
theorem kp_mem_of{α:Type}{p:α→α→Bool}{x:α}:∀ {l:List α} {a:α},x∈kp p a l→x∈l
 | [],_,h=>h
 | b::l,a,h=>by
  unfold kp at h;split at h
  ·exact List.mem_cons_of_mem _ (kp_mem_of h)
  ·rcases List.mem_cons.1 h with e|e
   ·rw[e];exact List.mem_cons_self
   ·exact List.mem_cons_of_mem _ (kp_mem_of e)
theorem cmpct_mem_of{α:Type}{p:α→α→Bool}{x:α}{l:List α}(h:x∈cmpct p l):x∈l:=by
 cases l with
 | nil=>exact h
 | cons a l=>
  rcases List.mem_cons.1 h with e|e
  ·rw[e];exact List.mem_cons_self
  ·exact List.mem_cons_of_mem _ (kp_mem_of e)
theorem kp_len{α:Type}{p:α→α→Bool}:∀ {l:List α} {a:α},(kp p a l).length≤l.length
 | [],_=>Nat.le_refl _
 | b::l,a=>by
  unfold kp;have:=kp_len (p:=p) (l:=l) (a:=b)
  split
  ·simp;omega
  ·simp;omega
theorem kp_snoc{α:Type}{p:α→α→Bool}{y:α}:∀(l:List α) (a:α),kp p a (l++[y])=kp p a l++(if p y (l.getLast?.getD a)=true then [] else [y])
 | [],a=>by
  show (if p y a=true then kp p y [] else y::kp p y [])=_
  rfl
 | b::l,a=>by
  have ih:=kp_snoc (p:=p) (y:=y) l b
  have hl:((b::l).getLast?).getD a=l.getLast?.getD b:=by
   cases l with
   | nil=>rfl
   | cons x l=>simp[List.getLast?_cons_cons];rw[List.getLast?_eq_some_getLast (by simp)];rfl
  rw[hl,List.cons_append];show (if p b a=true then kp p b (l++[y]) else b::kp p b (l++[y]))=(if p b a=true then kp p b l else b::kp p b l)++_
  rw[ih];split <;> simp
theorem cmpct_succ{α:Type}{p:α→α→Bool}{fs:List α}{j:Nat}{x y:α}(h0:0<j)(hy:fs[j]? = some y)(hx:fs[j-1]? = some x):cmpct p (fs.take (j+1))=if p y x=true then cmpct p (fs.take j) else cmpct p (fs.take j)++[y]:=by
 have ht:fs.take (j+1)=fs.take j++[y]:=by rw[List.take_add_one,hy];rfl
 have hjl:=(List.getElem?_eq_some_iff.1 hy).1
 rw[ht];have hlast:(fs.take j).getLast? = some x:=by
  rw[List.getLast?_eq_getElem?,List.length_take,Nat.min_eq_left (by omega),List.getElem?_take,if_pos (by omega)]
  exact hx
 cases hl:fs.take j with
 | nil=>rw[hl]at hlast;cases hlast
 | cons a l=>
  rw[hl]at hlast;have hla:l.getLast?.getD a=x:=by
   cases l with
   | nil=>simpa using hlast
   | cons b l=>rw[List.getLast?_cons_cons]at hlast;rw[hlast];rfl
  show a::kp p a (l++[y])=_
  rw[kp_snoc,hla];split <;> simp[cmpct]
section
variable {α β:Type}{c:α→α→Int}
theorem kp_spec(h:Ord3 c)(F:β→α):∀ {l:List β} {a:β},((a::l).Pairwise fun x y=>c (F y) (F x)≠-1) →
  ((kp (fun x y=>decide (c (F x) (F y)=0)) a l).map F).Pairwise (fun x y=>c x y = -1)∧(∀x∈(kp (fun x y=>decide (c (F x) (F y)=0)) a l).map F,c (F a) x = -1)∧∀x,x∈F a::(kp (fun x y=>decide (c (F x) (F y)=0)) a l).map F↔x∈F a::l.map F
 | [],a,_=>⟨List.Pairwise.nil,fun x hx=>absurd hx (by simp[kp]),fun x=>Iff.rfl⟩
 | b::l,a,hs=>by
  have hs':=List.pairwise_cons.1 hs
  obtain⟨k1,k2,k3⟩:=kp_spec h F hs'.2
  unfold kp;by_cases e:c (F b) (F a)=0
  ·have e2:=h.eq0 e
   rw[if_pos (decide_eq_true e)];rw[e2]at k2 k3
   refine⟨k1,k2,fun x=>?_⟩
   rw[k3 x,List.map_cons,e2];simp
  ·rw[if_neg (by simp[e])]
   have e3:c (F a) (F b) = -1:=by
    have h1:=hs'.1 b List.mem_cons_self
    rw[h.anti];rcases h.rng (F b) (F a) with r|r|r
    ·exact absurd r h1
    ·exact absurd r e
    ·rw[r]
   refine⟨?_,fun x hx=>?_,fun x=>?_⟩
   ·rw[List.map_cons];exact List.pairwise_cons.2 ⟨k2,k1⟩
   ·rw[List.map_cons]at hx;rcases List.mem_cons.1 hx with q|q
    ·rw[q];exact e3
    ·exact h.trans e3 (k2 x q)
   ·rw[List.map_cons,List.mem_cons,k3 x,List.map_cons,List.mem_cons (b:=F a)]
theorem cmpct_set(h:Ord3 c)(F:β→α){fs gs:List β}(hp:gs.Perm fs)(hs:gs.Pairwise fun x y=>c (F y) (F x)≠-1):(cmpct (fun x y=>decide (c (F x) (F y)=0)) gs).map F=setA c (fs.map F):=by
 refine SetOf.eq h ?_
 have hm:∀x,x∈gs.map F↔x∈fs.map F:=fun x=>(hp.map F).mem_iff
 cases gs with
 | nil=>exact⟨List.Pairwise.nil,hm⟩
 | cons a l=>
  obtain⟨k1,k2,k3⟩:=kp_spec h F hs
  refine⟨?_,fun x=>(k3 x).trans (hm x)⟩
  show ((F a::(kp _ a l).map F)).Pairwise _
  exact List.pairwise_cons.2 ⟨k2,k1⟩
end
end Go.Proofs.YtfoggcgogafocaaGreatDoor
end
section
open Go Mk
namespace Go.Proofs.YtfoggcgogafocaaGreatDoor
set_option maxHeartbeats 4000000
attribute [local irreducible] Calls cI cB cFact
end Go.Proofs.YtfoggcgogafocaaGreatDoor
end
section
open Go Mk
namespace Go.Proofs.YtfoggcgogafocaaGreatDoor
set_option maxHeartbeats 4000000
attribute [local irreducible] Calls cI cB cFact
instance pg_Word(Γ:Gho)(s:ByteArray):PG Tryz.prog Γ 11 [.string s] (.agg (enc (⟨2,0,s⟩:Val)).toArray):=⟨fun S w hw=>by
 refine calls_of_WC Tryz.func11 rfl rfl ?_
 repeat first|refine byW ?_|refine byV ?_;intro w hw
 refine lAlloc ?_;intro b w hw;repeat first|refine byW ?_|refine byV ?_;intro w hw
 refine lStore ?_;intro w hw;have hw:Wd Γ (.blk b (.cells (enc (⟨2,0,s⟩:Val)).toArray 48)::S) w:=hw
 repeat first|refine byW ?_|refine byV ?_;intro w hw
 exact⟨[.agg (enc (⟨2,0,s⟩:Val)).toArray],⟨resC (i:=0) hw rfl rfl rfl,trivial⟩,rfl,hw.drop⟩⟩
instance pg_Int(Γ:Gho)(v:Int):PG Tryz.prog Γ 12 [.int .i64 v] (.agg (enc (⟨1,v,⟨#[]⟩⟩:Val)).toArray):=⟨fun S w hw=>by
 refine calls_of_WC Tryz.func12 rfl rfl ?_
 repeat first|refine byW ?_|refine byV ?_;intro w hw
 refine lAlloc ?_;intro b w hw;repeat first|refine byW ?_|refine byV ?_;intro w hw
 refine lStore ?_;intro w hw;have hw:Wd Γ (.blk b (.cells (enc (⟨1,v,⟨#[]⟩⟩:Val)).toArray 48)::S) w:=hw
 repeat first|refine byW ?_|refine byV ?_;intro w hw
 exact⟨[.agg (enc (⟨1,v,⟨#[]⟩⟩:Val)).toArray],⟨resC (i:=0) hw rfl rfl rfl,trivial⟩,rfl,hw.drop⟩⟩
theorem Fact_any(Γ:Gho)(S:List Res)(w:World)(va:Value)(rel:ByteArray)(vs:List Val)(hr:RdS Γ S va 3 (vs.map enc))(hl:vs.length≤100000)(hw:Wd Γ S w) :
  Calls Tryz.prog 10 #[.string rel,va] w fun e w'=>∃f:FactH,e=.returned (.agg (cF f).toArray)∧f.fact=(rel,vs)∧Wd Γ (.own f.hdr 48 3 (f.Args.map enc)::S) w':=by
 obtain⟨a,n,c,rfl,hn,hnc,hc⟩:=hr.shape;simp only[List.length_map]at hn
 refine calls_of_WC Tryz.func10 rfl rfl ?_
 repeat first|refine byW ?_|refine byV ?_;intro w hw
 refine lAlloc ?_;intro b w hw;repeat first|refine byW ?_|refine byV ?_;intro w hw
 have hw:=Wd.addNil (a:=none) (E:=48) (sz:=3) hw
 refine lApp (i:=0) (rows2:=vs.map enc) ?_ (hr.cons.cons.rd hw) rfl rfl hw rfl (List.all_eq_true.2 (fun u hu=>(List.all_eq_true.1 (encs_one vs)) u hu)) (by simpa using hn)
 intro v' w hw;obtain⟨a',n',c',rfl,hn',hnc',hc'⟩:=hw.own_shape (i:=0) rfl
 repeat first|refine byW ?_|refine byV ?_;intro w hw
 refine lStore ?_;intro w hw;have hw:Wd Γ (.own (.slice a' n' c') 48 3 (vs.map enc)::.blk b (.cells (cF ⟨rel,a',n',c',vs⟩).toArray 45)::S) w:=hw
 repeat first|refine byW ?_|refine byV ?_;intro w hw
 exact⟨[.agg (cF ⟨rel,a',n',c',vs⟩).toArray],⟨resC (i:=1) hw rfl rfl rfl,trivial⟩,⟨rel,a',n',c',vs⟩,rfl,rfl,hw.dropAt 1⟩
end Go.Proofs.YtfoggcgogafocaaGreatDoor
end
section
open Go Mk
namespace Go.Proofs.YtfoggcgogafocaaGreatDoor
def lay_fct_ren:Go.Shelf.Ren:=⟨fun|6=>134|15=>151|14=>171|28=>182|29=>183|20=>206|21=>207|22=>208|23=>209|24=>210|25=>211|26=>212|27=>213|46=>233|47=>217|48=>218|49=>234|50=>235|57=>244|n=>n,fun|22=>32|24=>45|25=>67|3=>3|39=>77|0=>0|53=>208|55=>36|4=>4|46=>202|45=>201|50=>90|5=>5|9=>9|66=>232|70=>236|76=>245|77=>246|n=>n,fun|n=>n⟩
theorem lay_fct:Go.Proofs.SlLaysF0.n6 Tryz.prog lay_fct_ren:={
 mixed:=by kernel_rfl
 f6:=⟨Tryz.f134.name,by decide,Tryz.func134.trans (congrArg some (by kernel_rfl))⟩
 f14:=⟨Tryz.f171.name,by decide,Tryz.func171.trans (congrArg some (by kernel_rfl))⟩
 f15:=Tryz.func151.trans (congrArg some (by kernel_rfl))
 f20:=⟨Tryz.f206.name,by decide,Tryz.func206.trans (congrArg some (by kernel_rfl))⟩
 f21:=⟨Tryz.f207.name,by decide,Tryz.func207.trans (congrArg some (by kernel_rfl))⟩
 f22:=⟨Tryz.f208.name,by decide,Tryz.func208.trans (congrArg some (by kernel_rfl))⟩
 f23:=⟨Tryz.f209.name,by decide,Tryz.func209.trans (congrArg some (by kernel_rfl))⟩
 f24:=⟨Tryz.f210.name,by decide,Tryz.func210.trans (congrArg some (by kernel_rfl))⟩
 f25:=⟨Tryz.f211.name,by decide,Tryz.func211.trans (congrArg some (by kernel_rfl))⟩
 f26:=⟨Tryz.f212.name,by decide,Tryz.func212.trans (congrArg some (by kernel_rfl))⟩
 f27:=⟨Tryz.f213.name,by decide,Tryz.func213.trans (congrArg some (by kernel_rfl))⟩
 f28:=Tryz.func182.trans (congrArg some (by kernel_rfl))
 f29:=Tryz.func183.trans (congrArg some (by kernel_rfl))
 f46:=⟨Tryz.f233.name,by decide,Tryz.func233.trans (congrArg some (by kernel_rfl))⟩
 f47:=Tryz.func217.trans (congrArg some (by kernel_rfl))
 f48:=Tryz.func218.trans (congrArg some (by kernel_rfl))
 f49:=⟨Tryz.f234.name,by decide,Tryz.func234.trans (congrArg some (by kernel_rfl))⟩
 f50:=⟨Tryz.f235.name,by decide,Tryz.func235.trans (congrArg some (by kernel_rfl))⟩
 f57:=⟨Tryz.f244.name,by decide,Tryz.func244.trans (congrArg some (by kernel_rfl))⟩
 t0:=Tryz.underlying0
 a0:=Tryz.isAgg0
 z0:=Tryz.sizeOf0
 v0:=Tryz.zeroValue0
 t3:=Tryz.underlying3
 a3:=Tryz.isAgg3
 z3:=Tryz.sizeOf3
 v3:=Tryz.zeroValue3
 t4:=Tryz.underlying4
 a4:=Tryz.isAgg4
 z4:=Tryz.sizeOf4
 v4:=Tryz.zeroValue4
 t5:=Tryz.underlying5
 a5:=Tryz.isAgg5
 z5:=Tryz.sizeOf5
 v5:=Tryz.zeroValue5
 t9:=Tryz.underlying9
 a9:=Tryz.isAgg9
 z9:=Tryz.sizeOf9
 v9:=Tryz.zeroValue9
 t22:=Tryz.underlying32
 a22:=Tryz.isAgg32
 z22:=Tryz.sizeOf32
 v22:=Tryz.zeroValue32
 t25:=Tryz.underlying67
 a25:=Tryz.isAgg67
 z25:=Tryz.sizeOf67
 v25:=Tryz.zeroValue67
 t39:=Tryz.underlying77
 a39:=Tryz.isAgg77
 z39:=Tryz.sizeOf77
 v39:=Tryz.zeroValue77
 t45:=Tryz.underlying201
 a45:=Tryz.isAgg201
 z45:=Tryz.sizeOf201
 v45:=Tryz.zeroValue201
 t46:=Tryz.underlying202
 a46:=Tryz.isAgg202
 z46:=Tryz.sizeOf202
 v46:=Tryz.zeroValue202
 t50:=Tryz.underlying90
 a50:=Tryz.isAgg90
 z50:=Tryz.sizeOf90
 v50:=Tryz.zeroValue90
 t53:=Tryz.underlying208
 a53:=Tryz.isAgg208
 z53:=Tryz.sizeOf208
 v53:=Tryz.zeroValue208
 t55:=Tryz.underlying36
 a55:=Tryz.isAgg36
 z55:=Tryz.sizeOf36
 v55:=Tryz.zeroValue36
 t66:=Tryz.underlying232
 a66:=Tryz.isAgg232
 z66:=Tryz.sizeOf232
 v66:=Tryz.zeroValue232
 t70:=Tryz.underlying236
 a70:=Tryz.isAgg236
 z70:=Tryz.sizeOf236
 v70:=Tryz.zeroValue236
 t76:=Tryz.underlying245
 a76:=Tryz.isAgg245
 z76:=Tryz.sizeOf245
 v76:=Tryz.zeroValue245
 t77:=Tryz.underlying246
 a77:=Tryz.isAgg246
 z77:=Tryz.sizeOf246
 v77:=Tryz.zeroValue246 }
end Go.Proofs.YtfoggcgogafocaaGreatDoor
end
section
open Go Mk
namespace Go.Proofs.YtfoggcgogafocaaGreatDoor
set_option maxHeartbeats 4000000
attribute [local irreducible] Calls cI cB cFact
theorem FOk.mono{Γ Γ':Gho}{f:FactH}(h:FOk Γ f)(hl:Γ.le Γ'):FOk Γ' f:=RepS.mono h hl
theorem sort_facts{Γ:Gho}{S:List Res}{w:World}(fs:List FactH)(v:Value)(hok:∀f∈fs,FOk Γ f)(hl:fs.length≤1000000)(hw:Wd Γ (.own v 45 2 (fs.map cF)::S) w) :
  Calls Tryz.prog 134 #[v,.func (.func 25) #[] #[]] w fun e w'=>e=.returned (.tuple #[])∧∃gs:List FactH,gs.Perm fs∧(gs.Pairwise fun a b=>Go.Proofs.ltOf (fun a b:FactH=>cFact a.fact b.fact) b a=false)∧Wd Γ (.own v 45 2 (gs.map cF)::S) w':=by
 have hxs:(fs.attachWith (FOk Γ) hok).map Subtype.val=fs:=List.attachWith_map_subtype_val _
 have hrows:((fs.attachWith (FOk Γ) hok).map fun a=>cF a.1)=fs.map cF:=by
  conv=>rhs;rw[←hxs]
  rw[List.map_map];rfl
 rw[←hrows]at hw;haveI:Inhabited {f:FactH // FOk Γ f}:=⟨⟨⟨⟨#[]⟩,none,0,0,[]⟩,RepS.nil⟩⟩
 have:=SortFunc_K (α:={f:FactH // FOk Γ f}) (enc:=fun a=>cF a.1) lay_fct (fun a b=>cFact a.1.fact b.1.fact) 25 [] (fs.attachWith (FOk Γ) hok) v hw (i:=0) rfl (fun _=>rfl) (fun x u hu=>(List.all_eq_true.1 (cF_one x.1)) u hu) (by show TA Tryz.prog 45 2;infer_instance)
  (swo_on cFact_ord fun a:{f:FactH // FOk Γ f}=>a.1.fact) (by simp;omega) (fun dk w' hw' x y=>by
   have h1:∀b o,Γ.imm b=some o→(allG w').imm b=some o:=fun b o hb=>hw'.imm b o hb
   have h2:=pg_cmpF (Γ:=allG w') (f:=x.1) (g:=y.1) (RepS.imm x.2 h1) (RepS.imm y.2 h1)
   refine(h2.h [] w' (allG_wd w')).mono ?_
   rintro e w'' ⟨he,hw''⟩
   exact⟨he,[],hw''⟩)
 refine this.mono ?_
 rintro e w' ⟨he,ys,hp,hs,hw'⟩
 refine⟨he,ys.map Subtype.val,?_,?_,?_⟩
 ·have:=hp.map Subtype.val
  rwa [hxs]at this
 ·rw[List.pairwise_map];exact hs
 ·rw[List.map_map];exact hw'
end Go.Proofs.YtfoggcgogafocaaGreatDoor
end
section
open Go Mk
namespace Go.Proofs.YtfoggcgogafocaaGreatDoor
set_option maxHeartbeats 16000000
attribute [local irreducible] Calls cFact
theorem Clone_facts{Γ:Gho}{S:List Res}{w:World}{v:Value}{xs:List FactH}(hr:RdS Γ S v 2 (xs.map cF))(hN:xs.length≤1000000)(hw:Wd Γ S w) :
  Calls Tryz.prog 133 #[v] w fun e w'=>∃v',e=.returned v'∧Wd Γ (.own v' 45 2 (xs.map cF)::S) w':=by
 obtain⟨a,n,c,rfl,hn,hnc,hc⟩:=hr.shape;simp only[List.length_map]at hn
 refine calls_of_W Tryz.func133 rfl rfl ?_
 repeat first|refine byW ?_|refine byV ?_;intro w hw
 refine W_cond rfl (fun h=>?_) (fun h=>?_)
 ·repeat first|refine byW ?_|refine byV ?_;intro w hw
  have hx:xs=[]:=by
   cases a with
   | none=>
    cases xs with
    | nil=>rfl
    | cons x xs=>have:=(hr.rd hw).at_ (by simp);cases this
   | some a=>cases h
  subst hx;exact⟨_,rfl,_,rfl,Wd.addNil hw⟩
 ·repeat first|refine byW ?_|refine byV ?_;intro w hw
  refine lBuildSlice [] ?_
  intro a2 w hw;repeat first|refine byW ?_|refine byV ?_;intro w hw
  refine lApp (i:=0) (rows2:=xs.map cF) ?_ ((RdS.cons hr).rd hw) rfl rfl hw rfl (List.all_eq_true.2 (cFs_one xs)) (by simpa using hn)
  intro v' w hw;repeat first|refine byW ?_|refine byV ?_;intro w hw
  exact⟨_,rfl,v',rfl,by simpa using hw⟩
theorem Clone_vals{Γ:Gho}{S:List Res}{w:World}{v:Value}{xs:List Val}(hr:RepS Γ v 3 (xs.map enc))(hN:xs.length≤1000000)(hw:Wd Γ S w) :
  Calls Tryz.prog 73 #[v] w fun e w'=>∃v',e=.returned v'∧Wd Γ (.own v' 48 3 (xs.map enc)::S) w':=by
 obtain⟨a,n,c,rfl,hn,hnc,hc⟩:=hr.shape;simp only[List.length_map]at hn
 refine calls_of_W Tryz.func73 rfl rfl ?_
 repeat first|refine byW ?_|refine byV ?_;intro w hw
 refine W_cond rfl (fun h=>?_) (fun h=>?_)
 ·repeat first|refine byW ?_|refine byV ?_;intro w hw
  have hx:xs=[]:=by
   cases a with
   | none=>
    cases xs with
    | nil=>rfl
    | cons x xs=>have:=(hr.rd hw).at_ (by simp);cases this
   | some a=>cases h
  subst hx;exact⟨_,rfl,_,rfl,Wd.addNil hw⟩
 ·repeat first|refine byW ?_|refine byV ?_;intro w hw
  refine lBuildSlice [] ?_
  intro a2 w hw;repeat first|refine byW ?_|refine byV ?_;intro w hw
  refine lApp (i:=0) (rows2:=xs.map enc) ?_ (hr.rd hw) rfl rfl hw rfl (encs_one xs) (by simpa using hn)
  intro v' w hw;repeat first|refine byW ?_|refine byV ?_;intro w hw
  exact⟨_,rfl,v',rfl,by simpa using hw⟩
def cmpV:Value:=.func (.func 25) #[] #[]
def eqF(x y:FactH):Bool:=decide (cFact x.fact y.fact=0)
theorem eqcl_any{Γ:Gho}{S:List Res}{w:World}{b3:Nat}{f g:FactH}(hf:FOk Γ f)(hg:FOk Γ g)(hw:Wd Γ (.blk b3 (.cells #[cmpV] 67)::S) w) :
  Calls Tryz.prog 136 #[.agg (cF f).toArray,.agg (cF g).toArray,.pointer (some ⟨b3,0,none⟩)] w fun e w'=>e=.returned (.bool (eqF f g))∧Wd Γ (.blk b3 (.cells #[cmpV] 67)::S) w':=by
 have hC:=pg_cmpF hf hg
 obtain⟨fr,fa,fn,fc,fs⟩:=f;obtain⟨gr,ga,gn,gc,gs⟩:=g;refine calls_of_W Tryz.func136 rfl rfl ?_
 repeat first|refine byW ?_|refine byV ?_;intro w hw
 refine lBox ?_;intro b1 w hw;refine lBox ?_;intro b2 w hw;have hw:Wd Γ (.blk b2 (.cells #[.string gr,.slice ga gn gc] 45)::.blk b1 (.cells #[.string fr,.slice fa fn fc] 45)::.blk b3 (.cells #[cmpV] 67)::S) w:=hw
 repeat first|refine byW ?_|refine byV ?_;intro w hw
 refine lCallv (fst:=[]) (cap:=[]) ?_
 refine(hC.h _ _ hw).mono ?_
 rintro e w ⟨rfl,hw⟩
 refine⟨_,rfl,?_⟩;repeat first|refine byW ?_|refine byV ?_;intro w hw
 exact⟨_,rfl,rfl,hw.drop.drop⟩
theorem Compact_any{Γ:Gho}{S:List Res}{w:World}{b3:Nat}{v:Value}(fs:List FactH)(hok:∀f∈fs,FOk Γ f)(hl:fs.length≤1000000)(hw:Wd Γ (.own v 45 2 (fs.map cF)::.blk b3 (.cells #[cmpV] 67)::S) w) :
  Calls Tryz.prog 135 #[v,.func (.func 136) #[] #[.pointer (some ⟨b3,0,none⟩)]] w fun e w'=>∃v',e=.returned v'∧Wd Γ (.own v' 45 2 ((cmpct eqF fs).map cF)::.blk b3 (.cells #[cmpV] 67)::S) w':=by
 obtain⟨a,n,c,rfl,hn,hnc,hc⟩:=hw.own_shape (i:=0) rfl
 simp only[List.length_map]at hn
 refine calls_of_W Tryz.func135 rfl rfl ?_
 repeat first|refine byW ?_|refine byV ?_;intro w hw
 refine W_cond rfl (fun h=>?_) (fun h=>?_)
 ·have h:n<2:=by have:=of_decide_eq_true h;omega
  repeat first|refine byW ?_|refine byV ?_;intro w hw
  have hE:cmpct eqF fs=fs:=by
   cases fs with
   | nil=>rfl
   | cons x fs=>
    cases fs with
    | nil=>rfl
    | cons y fs=>simp at hn;omega
  rw[hE];exact⟨_,rfl,_,rfl,hw⟩
 have h:2≤n:=by have:=of_decide_eq_false h;omega
 repeat first|refine byW ?_|refine byV ?_;intro w hw
 refine W_loop (fun μ ρ w=>∃(k:Nat),μ+k=n∧1≤k∧Has ρ [(0,.slice a n c),(1,.func (.func 136) #[] #[.pointer (some ⟨b3,0,none⟩)]),(5,.int .i64 k)]∧cmpct eqF (fs.take k)=fs.take k∧Wd Γ (.own (.slice a n c) 45 2 (fs.map cF)::.blk b3 (.cells #[cmpV] 67)::S) w) (n-1) ⟨1,by omega,by omega,⟨rfl,rfl,rfl,trivial⟩,?_,hw⟩ ?_
 ·cases fs with
  | nil=>rfl
  | cons x fs=>rfl
 clear hw;rintro μ ρ w ⟨k,hk,hk1,hρ,ho,hw⟩
 rw[hρ.eq];repeat first|refine byW ?_|refine byV ?_;intro w hw
 refine W_cond rfl (fun h=>?_) (fun h=>?_)
 ·have hkn:k<n:=by have:=of_decide_eq_true h;omega
  obtain⟨y,hy⟩:=get_lt (l:=fs) (k:=k) (by omega)
  obtain⟨x,hx0⟩:=get_lt (l:=fs) (k:=k-1) (by omega)
  have hx:fs[((k:Int)-1).toNat]? = some x:=by rw[show ((k:Int)-1).toNat=k-1 from by omega];exact hx0
  have hfy:=hok y (List.mem_of_getElem? hy)
  have hfx:=hok x (List.mem_of_getElem? hx0)
  have hsucc:=cmpct_succ (p:=eqF) (by omega) hy hx0
  repeat first|refine byW ?_|refine byV ?_;intro w hw
  refine W_quiet (by kernel_rfl) (by kernel_rfl) hw ?_
  iterate 10 (first|refine Q_nil ?_|(apply Q_plain;first|(apply Q_go;first|refine qP ?_|refine qPg ?_)|refine qY ?_)|(apply Q_guarded;first|(apply Q_go;first|refine qPG ?_|refine qPgG ?_)|refine qG ?_))
  refine qPsv (v:=.bool (eqF y x)) (cap:=[.pointer (some ⟨b3,0,none⟩)]) (vs:=[.agg (cF y).toArray,.agg (cF x).toArray]) (fun Y w hw=>?_) ?_
  ·have hw:Wd Γ (.blk b3 (.cells #[cmpV] 67)::(.own (.slice a n c) 45 2 (fs.map cF)::S++Y)) w:=hw.ps [1]
   refine(eqcl_any hfy hfx hw).mono ?_
   rintro e w ⟨rfl,hw⟩
   exact⟨rfl,hw.ps [1]⟩
  refine byQ ?_;intro w hw;refine W_cond rfl (fun h2=>?_) (fun h2=>?_)
  ·rw[if_pos h2]at hsucc;repeat first|refine byW ?_|refine byV ?_;intro w hw
   refine W_loop (fun μ ρ w=>∃(m q:Nat) (cur:List FactH),μ+(k+m)=n∧1≤m∧1≤q∧q<k+m∧Has ρ [(0,.slice a n c),(1,.func (.func 136) #[] #[.pointer (some ⟨b3,0,none⟩)]),(5,.int .i64 q),(6,.slice (cutA a k c 2) (n-k) (c-k)),(7,.int .i64 m)]∧cur.length=n∧cur.take q=cmpct eqF (fs.take (k+m))∧(∀i,k+m-1≤i→cur[i]? = fs[i]?)∧Wd Γ (.own (.slice a n c) 45 2 (cur.map cF)::.blk b3 (.cells #[cmpV] 67)::S) w) (n-(k+1)) ⟨1,k,fs,by omega,by omega,by omega,by omega,⟨rfl,rfl,rfl,rfl,rfl,trivial⟩,hn.symm,by rw[hsucc,ho],fun i _=>rfl,hw⟩ ?_
   clear hw hρ hsucc;rintro μ2 ρ w ⟨m,q,cur,hm,hm1,hq1,hq2,hρ,hcl,hcur,hsame,hw⟩
   rw[hρ.eq];repeat first|refine byW ?_|refine byV ?_;intro w hw
   refine W_cond rfl (fun h3=>?_) (fun h3=>?_)
   ·have hmn:k+m<n:=by have:=of_decide_eq_true h3;omega
    obtain⟨y2,hy2⟩:=get_lt (l:=fs) (k:=k+m) (by omega)
    obtain⟨x2,hx2⟩:=get_lt (l:=fs) (k:=k+m-1) (by omega)
    have hcy:(cur.drop k)[m]? = some y2:=by rw[List.getElem?_drop,hsame _ (by omega)];exact hy2
    have hcx:(cur.drop k)[((m:Int)-1).toNat]? = some x2:=by
     rw[List.getElem?_drop,hsame _ (by omega),show k+((m:Int)-1).toNat=k+m-1 from by omega];exact hx2
    have hfy2:=hok y2 (List.mem_of_getElem? hy2)
    have hfx2:=hok x2 (List.mem_of_getElem? hx2)
    have hsucc:=cmpct_succ (p:=eqF) (by omega) hy2 hx2
    have hlen:n-k=((cur.drop k).map cF).length:=by simp[hcl]
    have hR2:RdS Γ (.own (.slice a n c) 45 2 (cur.map cF)::.blk b3 (.cells #[cmpV] 67)::S) (.slice (cutA a k c 2) (n-k) (c-k)) 2 ((cur.drop k).map cF):=⟨_,_,_,rfl,hlen,by omega,by omega,fun w hw=>by
     have:=(Wd.own_rd (i:=0) hw rfl).cut (c:=c) (by simp;omega) k (by simp;omega)
     rwa [←List.map_drop]at this⟩
    repeat first|refine byW ?_|refine byV ?_;intro w hw
    refine W_quiet (by kernel_rfl) (by kernel_rfl) hw ?_
    iterate 10 (first|refine Q_nil ?_|(apply Q_plain;first|(apply Q_go;first|refine qP ?_|refine qPg ?_)|refine qY ?_)|(apply Q_guarded;first|(apply Q_go;first|refine qPG ?_|refine qPgG ?_)|refine qG ?_))
    refine qPsv (v:=.bool (eqF y2 x2)) (cap:=[.pointer (some ⟨b3,0,none⟩)]) (vs:=[.agg (cF y2).toArray,.agg (cF x2).toArray]) (fun Y w hw=>?_) ?_
    ·have hw:Wd Γ (.blk b3 (.cells #[cmpV] 67)::(.own (.slice a n c) 45 2 (cur.map cF)::S++Y)) w:=hw.ps [1]
     refine(eqcl_any hfy2 hfx2 hw).mono ?_
     rintro e w ⟨rfl,hw⟩
     exact⟨rfl,hw.ps [1]⟩
    refine byQ ?_;intro w hw;refine W_cond rfl (fun h4=>?_) (fun h4=>?_)
    ·have h4:eqF y2 x2=false:=by simpa using h4
     rw[if_neg (by rw[h4];decide)]at hsucc
     repeat first|refine byW ?_|refine byV ?_;intro w hw
     refine lStoreE ?_;intro w hw;have hw:Wd Γ (.own (.slice a n c) 45 2 ((cur.map cF).set q (cF y2))::.blk b3 (.cells #[cmpV] 67)::S) w:=hw
     rw[←List.map_set]at hw;repeat first|refine byW ?_|refine byV ?_;intro w hw
     refine⟨n-(k+(m+1)),by omega,m+1,q+1,cur.set q y2,by omega,by omega,by omega,by omega,⟨rfl,rfl,rfl,rfl,rfl,trivial⟩,by rw[List.length_set];exact hcl,?_,fun i hi=>?_,hw⟩
     ·rw[show k+(m+1)=k+m+1 from rfl,hsucc,←hcur,List.take_add_one,List.take_set_of_le (by omega),List.getElem?_set_self (by omega)];rfl
     ·rw[List.getElem?_set_ne (by omega)];exact hsame i (by omega)
    ·have h4:eqF y2 x2=true:=by simpa using h4
     rw[if_pos h4]at hsucc;repeat first|refine byW ?_|refine byV ?_;intro w hw
     exact⟨n-(k+(m+1)),by omega,m+1,q,cur,by omega,by omega,by omega,by omega,⟨rfl,rfl,rfl,rfl,rfl,trivial⟩,hcl,by rw[show k+(m+1)=k+m+1 from rfl,hsucc];exact hcur,fun i hi=>hsame i (by omega),hw⟩
   ·have hmn:k+m=n:=by have:=of_decide_eq_false h3;omega
    have hfn:fs.take n=fs:=List.take_of_length_le (by omega)
    rw[hmn,hfn]at hcur;have hqn:q≤n:=by omega
    have hw:=Wd.own_take (i:=0) (m:=q) hw rfl hqn
    rw[←List.map_take,hcur]at hw;have hw:Wd Γ (.own (.slice a q c) 45 2 ((cmpct eqF fs).map cF)::.blk b3 (.cells #[cmpV] 67)::S) w:=hw
    repeat first|refine byW ?_|refine byV ?_;intro w hw
    refine lClear ?_;intro w hw;repeat first|refine byW ?_|refine byV ?_;intro w hw
    exact⟨_,rfl,_,rfl,hw⟩
  ·rw[if_neg (by rw[h2];decide)]at hsucc
   repeat first|refine byW ?_|refine byV ?_;intro w hw
   refine⟨μ-1,by omega,k+1,by omega,by omega,⟨rfl,rfl,rfl,trivial⟩,?_,hw⟩
   rw[hsucc,ho,List.take_add_one,hy];rfl
 ·have hkn:¬k<n:=by have:=of_decide_eq_false h;omega
  rw[List.take_of_length_le (by omega)]at ho
  repeat first|refine byW ?_|refine byV ?_;intro w hw
  rw[ho];exact⟨_,rfl,_,rfl,hw⟩
end Go.Proofs.YtfoggcgogafocaaGreatDoor
end
section
open Go Mk
namespace Go.Proofs.YtfoggcgogafocaaGreatDoor
set_option maxHeartbeats 16000000
attribute [local irreducible] Calls cFact
def ValOk(v:Val):Prop:=(-9223372036854775808≤v.Num∧v.Num≤9223372036854775807)∧v.Word.size≤100000
def FactOk(x:Fact):Prop:=x.2.length≤100000∧x.1.size≤100000∧∀v∈x.2,ValOk v
def FsOk(Γ:Gho)(fs:List FactH):Prop:=∀f∈fs,FOk Γ f∧FactOk f.fact
theorem FsOk.mono{Γ Γ':Gho}{fs:List FactH}(h:FsOk Γ fs)(hl:Γ.le Γ'):FsOk Γ' fs:=fun f hf=>⟨(h f hf).1.mono hl,(h f hf).2⟩
def facts(fs:List FactH):List Fact:=fs.map FactH.fact
def setS(l:List Fact):List Fact:=setA cFact l
theorem sorted_any{Γ:Gho}{S:List Res}{w:World}{v:Value}(fs:List FactH)(hok:FsOk Γ fs)(hl:fs.length≤100000)(hr:RdS Γ S v 2 (fs.map cF))(hw:Wd Γ S w) :
  Calls Tryz.prog 72 #[v,cmpV] w fun e w'=>∃v' gs,e=.returned v'∧facts gs=setS (facts fs)∧FsOk Γ gs∧Wd Γ (.own v' 45 2 (gs.map cF)::S) w':=by
 refine calls_of_W Tryz.func72 rfl rfl ?_
 repeat first|refine byW ?_|refine byV ?_;intro w hw
 refine lBox ?_;intro b3 w hw;have hw:Wd Γ (.blk b3 (.cells #[cmpV] 67)::S) w:=hw
 repeat first|refine byW ?_|refine byV ?_;intro w hw
 refine lCall (vs:=[v]) ?_
 refine(Clone_facts hr.cons (by omega) hw).mono ?_
 rintro e w ⟨v1,rfl,hw⟩
 refine⟨_,rfl,?_⟩;repeat first|refine byW ?_|refine byV ?_;intro w hw
 refine lCall (vs:=[v1,cmpV]) ?_
 refine(sort_facts fs v1 (fun f hf=>(hok f hf).1) (by omega) hw).mono ?_
 rintro e w ⟨rfl,gs,hp,hs,hw⟩
 refine⟨_,rfl,?_⟩;have hokg:∀g∈gs,g∈fs:=fun g hg=>hp.mem_iff.1 hg
 have hgl:gs.length=fs.length:=hp.length_eq
 repeat first|refine byW ?_|refine byV ?_;intro w hw
 refine lCall (vs:=[v1,.func (.func 136) #[] #[.pointer (some ⟨b3,0,none⟩)]]) ?_
 refine(Compact_any gs (fun g hg=>(hok g (hokg g hg)).1) (by omega) hw).mono ?_
 rintro e w ⟨v2,rfl,hw⟩
 refine⟨_,rfl,?_⟩;repeat first|refine byW ?_|refine byV ?_;intro w hw
 refine⟨_,rfl,v2,cmpct eqF gs,rfl,?_,fun g hg=>hok g (hokg g (cmpct_mem_of hg)),hw.dropAt 1⟩
 refine cmpct_set cFact_ord FactH.fact hp (hs.imp fun {a b} h q=>?_)
 have:Go.Proofs.ltOf cFact b.fact a.fact=true:=cFact_ord.lt_iff.2 q
 have h:Go.Proofs.ltOf cFact b.fact a.fact=false:=h
 rw[this]at h;cases h
theorem set_any{Γ:Gho}{S:List Res}{w:World}{v:Value}(fs:List FactH)(hok:FsOk Γ fs)(hl:fs.length≤100000)(hr:RdS Γ S v 2 (fs.map cF))(hw:Wd Γ S w) :
  Calls Tryz.prog 30 #[v] w fun e w'=>∃Γ' v' gs,Γ.le Γ'∧e=.returned v'∧facts gs=setS (facts fs)∧FsOk Γ' gs∧Wd Γ' (.own v' 45 2 (gs.map cF)::S) w':=by
 refine calls_of_W Tryz.func30 rfl rfl ?_
 repeat first|refine byW ?_|refine byV ?_;intro w hw
 refine lCall (vs:=[v,cmpV]) ?_
 refine(sorted_any fs hok hl hr hw).mono ?_
 clear hw;rintro e w ⟨v1,gs0,rfl,hgs0,hok0,hw⟩
 refine⟨_,rfl,?_⟩;obtain⟨a,n,c,rfl,hn,hnc,hc⟩:=hw.own_shape (i:=0) rfl
 simp only[List.length_map]at hn
 repeat first|refine byW ?_|refine byV ?_;intro w hw
 refine W_loop (fun μ ρ w=>∃(Γ':Gho) (k:Nat) (gs:List FactH),μ+k=n∧Γ.le Γ'∧gs.length=n∧Has ρ [(3,.slice a n c),(8,.int .i64 n),(9,.int .i64 k)]∧facts gs=setS (facts fs)∧FsOk Γ' gs∧Wd Γ' (.own (.slice a n c) 45 2 (gs.map cF)::S) w) n ⟨Γ,0,gs0,by omega,Gho.le.refl _,hn.symm,⟨rfl,rfl,rfl,trivial⟩,hgs0,hok0,hw⟩ ?_
 clear hw hgs0 hok0 hn hok hr;rintro μ ρ w ⟨Γ',k,gs,hk,hle,hn,hρ,hgs,hok,hw⟩
 rw[hρ.eq];repeat first|refine byW ?_|refine byV ?_;intro w hw
 refine W_cond rfl (fun h=>?_) (fun h=>?_)
 ·have hkn:k<n:=by have:=of_decide_eq_true h;omega
  obtain⟨g,hg⟩:=get_lt (l:=gs) (k:=k) (by omega)
  obtain⟨hf,hal⟩:=hok g (List.mem_of_getElem? hg)
  have hal1:g.Args.length≤100000:=hal.1
  repeat first|refine byW ?_|refine byV ?_;intro w hw
  refine lCall (vs:=[g.hdr]) ?_
  refine(Clone_vals (S:=.own (.slice a n c) 45 2 (gs.map cF)::S) hf (by omega) hw).mono ?_
  clear hw;rintro e w ⟨v2,rfl,hw⟩
  refine⟨_,rfl,?_⟩;obtain⟨a2,n2,c2,rfl,-,-,-⟩:=hw.own_shape (i:=0) rfl
  obtain⟨Γ2,hle2,hr2,hw⟩:=hw.freeze;repeat first|refine byW ?_|refine byV ?_;intro w hw
  refine lStoreEf (i:=0) (r:=[.slice a2 n2 c2]) ?_ (rows_map hg)
  intro w hw;have hw:Wd Γ2 (.own (.slice a n c) 45 2 ((gs.map cF).set k (cF ⟨g.Rel,a2,n2,c2,g.Args⟩))::S) w:=hw
  rw[←List.map_set]at hw;repeat first|refine byW ?_|refine byV ?_;intro w hw
  refine⟨μ-1,by omega,Γ2,k+1,gs.set k ⟨g.Rel,a2,n2,c2,g.Args⟩,by omega,hle.trans hle2,by rw[List.length_set];exact hn,⟨rfl,rfl,rfl,trivial⟩,?_,fun f hf2=>?_,hw⟩
  ·rw[←hgs];unfold facts;rw[List.map_set];refine List.ext_getElem? fun i=>?_
   rw[List.getElem?_set];split
   ·rename_i e;subst e
    rw[List.getElem?_map,hg];simp[hn,hkn,FactH.fact]
   ·rfl
  ·rcases List.mem_or_eq_of_mem_set hf2 with q|q
   ·exact⟨(hok f q).1.mono hle2,(hok f q).2⟩
   ·subst q;exact⟨hr2,hal⟩
 ·repeat first|refine byW ?_|refine byV ?_;intro w hw
  exact⟨_,rfl,Γ',_,gs,hle,rfl,hgs,hok,hw⟩
end Go.Proofs.YtfoggcgogafocaaGreatDoor
end
section
open Go Mk
namespace Go.Proofs.YtfoggcgogafocaaGreatDoor
set_option maxHeartbeats 16000000
attribute [local irreducible] Calls cFact
theorem wrap_rng(a:Int):-9223372036854775808≤IntKind.i64.wrap a∧IntKind.i64.wrap a≤9223372036854775807:=by
 rw[IntKind.wrap_i64];omega
theorem intP_val{toks:List Tok}{e:PosT}{neg:Bool}{k k1:Nat}{v:Int}(h:intP toks e neg k=.ok (v,k1)):-9223372036854775808≤v∧v≤9223372036854775807:=by
 unfold intP at h;split at h
 ·cases h
 ·split at h
  ·cases h
  ·cases h
   split
   ·exact wrap_rng _
   ·exact wrap_rng _
theorem argP_val{toks:List Tok}{e:PosT}{b:Bool}{k k1:Nat}{v:Val}(h:argP toks e b k=.ok (v,k1)):ValOk v:=by
 unfold argP at h;split at h
 ·cases h
 split at h
 ·split at h
  ·cases h
  rename_i h3
  split at h
  ·cases h
  ·cases h
   refine⟨⟨by dsimp;omega,by dsimp;omega⟩,?_⟩
   show (pk toks k).Text.size≤_
   have:¬24<(pk toks k).Text.size:=fun q=>h3 (.inr q)
   omega
 split at h
 ·cases h
 split at h
 ·cases h
 cases hI:intP toks e (decide ((pk toks k).Kind=4)) (if (pk toks k).Kind=4 then k+1 else k) with
 | error q=>rw[hI]at h;cases h
 | ok q=>
  obtain⟨x,k2⟩:=q;rw[hI]at h;cases h
  exact⟨intP_val hI,Nat.zero_le _⟩
theorem argsN_ok{toks:List Tok}{e:PosT}:∀ {f k:Nat} {acc vs:List Val} {k2:Nat},acc.length≤8→(∀v∈acc,ValOk v)→k≤toks.length→argsN toks e f k acc=.ok (vs,k2)→vs.length≤8∧(∀v∈vs,ValOk v)∧k≤k2∧k2≤toks.length
 | 0,k,acc,vs,k2,ha,hv,hk,h=>by cases h;exact⟨ha,hv,Nat.le_refl _,hk⟩
 | f+1,k,acc,vs,k2,ha,hv,hk,h=>by
  unfold argsN at h;cases hA:argP toks e (decide (acc.length=8)) k with
  | error q=>rw[hA]at h;cases h
  | ok q=>
   obtain⟨v,k1⟩:=q;rw[hA]at h;obtain⟨h1,h2,h3⟩:=argP_ok hA
   have h3:=of_decide_eq_false h3
   have hv2:∀u∈acc++[v],ValOk u:=fun u hu=>by
    rcases List.mem_append.1 hu with q|q
    ·exact hv u q
    ·rw[List.mem_singleton.1 q];exact argP_val hA
   dsimp only at h
   split at h
   ·rename_i hi
    have:=isS_lt hi
    obtain⟨a,a2,b,c⟩:=argsN_ok (by simp;omega) hv2 (by omega) h
    exact⟨a,a2,by omega,c⟩
   ·cases h
    exact⟨by simp;omega,hv2,by omega,h2⟩
theorem factP_ok{toks:List Tok}{e:PosT}{b:Bool}{k k1:Nat}{x:Fact}(h:factP toks e b k=.ok (x,k1)):k<k1∧k1≤toks.length∧b=false∧x.2.length≤8∧FactOk x:=by
 unfold factP at h;split at h
 ·cases h
 split at h
 ·cases h
 split at h
 ·cases h
 rename_i hsz _ hb
 split at h
 ·rename_i hl
  have hlt:=isS_lt hl
  cases hA:argsN toks e (toks.length+1) (k+2) [] with
  | error q=>rw[hA]at h;cases h
  | ok q=>
   obtain⟨vs,k2⟩:=q;rw[hA]at h;obtain⟨h1,h1v,h2,h3⟩:=argsN_ok (by simp) (by simp) (by omega) hA
   have h:endP2 toks e ((pk toks k).Text,vs) k2=.ok (x,k1):=h
   unfold endP2 at h;split at h
   ·split at h
    ·rename_i hd
     have:=isS_lt hd
     cases h
     exact⟨by omega,by omega,by simpa using hb,h1,by show vs.length≤_;omega,by show (pk toks k).Text.size≤_;omega,h1v⟩
    ·cases h
   ·cases h
 ·cases h
def factsN(toks:List Tok)(e:PosT):Nat→Nat→List Fact→PR (List Fact)
 | 0,k,acc=>.ok (acc,k)
 | f+1,k,acc=>if toks.length≤k then .ok (acc,k) else match factP toks e (decide (acc.length=8192)) k with
  | .error q=>.error q
  | .ok (x,k1)=>factsN toks e f k1 (acc++[x])
theorem factsN_stop{toks:List Tok}{e:PosT}{f k:Nat}{acc:List Fact}(h:toks.length≤k):factsN toks e (f+1) k acc=.ok (acc,k):=if_pos h
theorem factsN_err{toks:List Tok}{e:PosT}{f k:Nat}{acc:List Fact}{q:PosT×Int}(h:¬toks.length≤k)(h2:factP toks e (decide (acc.length=8192)) k=.error q):factsN toks e (f+1) k acc=.error q:=by
 unfold factsN;rw[if_neg h,h2]
theorem factsN_go{toks:List Tok}{e:PosT}{f k k1:Nat}{acc:List Fact}{x:Fact}(h:¬toks.length≤k)(h2:factP toks e (decide (acc.length=8192)) k=.ok (x,k1)):factsN toks e (f+1) k acc=factsN toks e f k1 (acc++[x]):=by
 conv=>lhs;unfold factsN
 rw[if_neg h,h2]
def factsE:PR (List Fact)→List Fact×PosT×Int
 | .ok (l,_)=>(setS l,⟨0,0⟩,0)
 | .error (p,er)=>([],p,er)
def parseG(q:List Tok×PosT×Int)(e:PosT):List Fact×PosT×Int:=if q.2.2=0 then factsE (factsN q.1 e (q.1.length+1) 0 []) else ([],q.2.1,q.2.2)
def parseF(s:ByteArray):List Fact×PosT×Int:=parseG (scanS s) (endP s)
def ParseOut(Γ:Gho)(S:List Res)(x:List Fact×PosT×Int)(r:Ending)(w:World):Prop:=
 ∃Γ' v gs,Γ.le Γ'∧r=.returned (.tuple #[v,.agg (enc x.2.1).toArray,.int .i64 x.2.2])∧facts gs=x.1∧FsOk Γ' gs∧Wd Γ' (.own v 45 2 (gs.map cF)::S) w
section
variable {Γ:Gho}{S:List Res}{w:World}
theorem posEnd{s:ByteArray}:(endP s).Line=(s.data.toList.count 10:Nat)+1∧s.data.toList.count 10≤s.size∧1≤(endP s).Col∧(endP s).Col≤s.size+1:=by
 have hL:=posLine (s:=s) (k:=s.size) (Nat.le_refl _)
 rw[List.take_of_length_le (by simp)]at hL
 have hcnt:s.data.toList.count 10≤s.size:=by
  have:=List.count_le_length (a:=(10:UInt8)) (l:=s.data.toList)
  simpa using this
 have hcol:1≤(endP s).Col∧(endP s).Col≤s.size+1:=by
  have:∀k,1≤(posAt s k).Col∧(posAt s k).Col≤k+1:=fun k=>by
   induction k with
   | zero=>simp[posAt]
   | succ k ih=>
    unfold posAt;split
    ·simp;omega
    ·simp;omega
  exact this _
 exact⟨by unfold endP;rw[hL];omega,hcnt,hcol⟩
attribute [local irreducible] scanS endP factP isS
theorem FParse_any(s:ByteArray)(hs:s.size≤maxS0)(hw:Wd Γ S w) :
  Calls Tryz.prog 23 #[.string s] w (ParseOut Γ S (parseF s)):=by
 unfold maxS0 at hs;have hC:=pc_CountNl s
 have hL2:=pc_LastNl s hs
 obtain⟨hp1,hp2,hp3,hp4⟩:=posEnd (s:=s)
 refine calls_of_WC Tryz.func23 rfl rfl ?_
 repeat first|refine byW ?_|refine byV ?_;intro w hw
 refine lAlloc ?_;intro b3 w hw;have hw:Wd Γ (.blk b3 (.cells (enc (⟨0,0⟩:PosT)).toArray 63)::S) w:=hw
 repeat first|refine byW ?_|refine byV ?_;intro w hw
 refine lCall ?_;refine(Scan_any Γ _ w s hs hw).mono ?_
 clear hw;rintro r w ⟨v,rfl,hw⟩
 refine⟨_,rfl,?_⟩;have hlen:=scanS_len (s:=s)
 unfold parseF;generalize scanS s=q at *
 obtain⟨toks,p1,e1⟩:=q;dsimp only at hlen hw ⊢
 obtain⟨a,n,c,rfl,hn,-,-⟩:=hw.own_shape (i:=0) rfl
 simp only[List.length_map]at hn
 obtain⟨Γ1,hle,ht,hw⟩:=hw.freeze;haveI hT:RTok Γ1 a n c toks:=⟨ht,by omega⟩
 repeat first|refine byW ?_|refine byV ?_;intro w hw
 refine lAlloc ?_;intro b6 w hw;repeat first|refine byW ?_|refine byV ?_;intro w hw
 refine lStore ?_;intro w hw;have hw:Wd Γ1 (.blk b6 (.cells (enc p1).toArray 63)::.blk b3 (.cells (enc (⟨0,0⟩:PosT)).toArray 63)::S) w:=hw
 repeat first|refine byW ?_|refine byV ?_;intro w hw
 refine W_cond rfl (fun h=>?_) (fun h=>?_)
 ·have h:¬e1=0:=by simpa using h
  have hP:parseG (toks,p1,e1) (endP s)=([],p1,e1):=if_neg h
  rw[hP];repeat first|refine byW ?_|refine byV ?_;intro w hw
  refine W_mix1 [.blk b6 _] (.blk b3 _::S) [[],[],[],[0],[]] [[],[],[],[0],[]] hw ?_
  refine byM ?_;refine mStoreC ?_
  refine byM ?_;refine mEnd fun w g hw=>?_
  have hw:Wd Γ1 ([.blk b6 (.cells (enc p1).toArray 63)]++((.blk b3 (.cells (enc p1).toArray 63)::S)++[])) w:=hw
  rw[List.append_nil]at hw;repeat first|refine byW ?_|refine byV ?_;intro w hw
  exact⟨[.slice none 0 0,.agg (enc p1).toArray,.int .i64 e1],⟨rfl,resC (i:=1) hw rfl rfl rfl,rfl,trivial⟩,Γ1,_,[],hle,rfl,rfl,(fun f hf=>by cases hf),Wd.addNil (hw.ds [0,0])⟩
 have h:e1=0:=by simpa using h
 have hP:parseG (toks,p1,e1) (endP s)=factsE (factsN toks (endP s) (toks.length+1) 0 []):=if_pos h
 rw[hP];clear hP;repeat first|refine byW ?_|refine byV ?_;intro w hw
 refine lBox ?_;intro bp w hw;have hw:Wd Γ1 (fpB bp a n c 0 ⟨(s.data.toList.count 10:Nat)+1,(s.size:Int)-((s.size:Int)-(endP s).Col)⟩ ⟨0,0⟩ 0::.blk b6 (.cells (enc p1).toArray 63)::.blk b3 (.cells (enc (⟨0,0⟩:PosT)).toArray 63)::S) w:=hw
 rw[←hp1,show (s.size:Int)-((s.size:Int)-(endP s).Col)=(endP s).Col from by omega]at hw
 have hw:Wd Γ1 (fpB bp a n c 0 (endP s) ⟨0,0⟩ 0::.blk b3 (.cells (enc (⟨0,0⟩:PosT)).toArray 63)::S) w:=hw.dropAt 1
 generalize endP s=e at *
 repeat first|refine byW ?_|refine byV ?_;intro w hw
 refine W_loop (fun μ ρ w=>∃(Γ2:Gho) (k f:Nat) (gs:List FactH) (va:Value),Γ1.le Γ2∧μ+k=n∧n<f+k∧gs.length≤8192∧FsOk Γ2 gs∧Has ρ [(3,.pointer (some ⟨b3,0,none⟩)),(5,.slice a n c),(9,.pointer (some ⟨bp,0,none⟩)),(10,va)]∧factsN toks e (toks.length+1) 0 []=factsN toks e f k (facts gs)∧Wd Γ2 (fpB bp a n c k e ⟨0,0⟩ 0::.own va 45 2 (gs.map cF)::.blk b3 (.cells (enc (⟨0,0⟩:PosT)).toArray 63)::S) w) n ⟨Γ1,0,toks.length+1,[],.slice none 0 0,Gho.le.refl _,by omega,by omega,by simp,(fun f hf=>by cases hf),⟨rfl,rfl,rfl,rfl,trivial⟩,rfl,(Wd.addNil hw).ps [1]⟩ ?_
 clear hw;rintro μ ρ w ⟨Γ2,k,f,gs,va,hle2,hk,hf,hgl,hok,hρ,ho,hw⟩
 obtain⟨f,rfl⟩:∃f',f=f'+1:=⟨f-1,by omega⟩
 rw[hρ.eq];haveI hT2:RTok Γ2 a n c toks:=hT.mono hle2
 obtain⟨aa,na,ca,rfl,hna,hnac,hca⟩:=hw.own_shape (i:=1) rfl
 simp only[List.length_map]at hna
 have hfl:(facts gs).length=gs.length:=List.length_map ..
 repeat first|refine byW ?_|refine byV ?_;intro w hw
 refine W_cond rfl (fun h1=>?_) (fun h1=>?_)
 ·have h1:¬toks.length≤k:=by have:=of_decide_eq_true h1;omega
  repeat first|refine byW ?_|refine byV ?_;intro w hw
  rw[show decide ((na:Int)=8192)=decide ((facts gs).length=8192) from decide_eq_decide.2 (by omega)]
  refine lCall ?_;refine(ffact_any (decide ((facts gs).length=8192)) hw).mono ?_
  clear hw;intro r w hr;cases hF:factP toks e (decide ((facts gs).length=8192)) k with
  | error q=>
   obtain⟨p',er⟩:=q;rw[hF]at hr;obtain⟨fx,k',rfl,hw⟩:=hr;rw[ho,factsN_err h1 hF];refine⟨_,rfl,?_⟩;repeat first|refine byW ?_|refine byV ?_;intro w hw
   refine lAlloc ?_;intro b11 w hw;refine lStore ?_;intro w hw;repeat first|refine byW ?_|refine byV ?_;intro w hw
   refine W_cond rfl (fun _=>?_) (fun h=>by cases h)
   have hw:Wd Γ2 (fpB bp a n c k' e p' er::.blk b3 (.cells (enc (⟨0,0⟩:PosT)).toArray 63)::S) w:=hw.ds [0,1]
   repeat first|refine byW ?_|refine byV ?_;intro w hw
   refine W_mix1 [fpB bp a n c k' e p' er] (.blk b3 _::S) [[],[],[],[],[],[],[],[],[],[0],[]] [[],[],[],[],[],[],[],[],[],[0],[]] hw ?_
   refine byM ?_;refine mStoreC ?_
   refine byM ?_;refine mEnd fun w g hw=>?_
   have hw:Wd Γ2 ([fpB bp a n c k' e p' er]++((.blk b3 (.cells (enc p').toArray 63)::S)++[])) w:=hw
   rw[List.append_nil]at hw;repeat first|refine byW ?_|refine byV ?_;intro w hw
   exact⟨[.slice none 0 0,.agg (enc p').toArray,.int .i64 er],⟨rfl,resC (i:=1) hw rfl rfl rfl,rfl,trivial⟩,Γ2,_,[],hle.trans hle2,rfl,rfl,(fun f hf=>by cases hf),Wd.addNil (hw.ds [0,0])⟩
  | ok q=>
   obtain⟨x,k1⟩:=q;rw[hF]at hr;obtain⟨Γ3,fx,hle3,hfx,hx,rfl,hw⟩:=hr;obtain⟨hk1,hk2,hb,hxl,hxo⟩:=factP_ok hF
   have hb:¬(facts gs).length=8192:=of_decide_eq_false hb
   have ho2:=ho.trans (factsN_go h1 hF)
   clear ho hF;refine⟨_,rfl,?_⟩;obtain⟨xr,xa,xn,xc,xs⟩:=fx;repeat first|refine byW ?_|refine byV ?_;intro w hw
   refine lAlloc ?_;intro b11 w hw;refine lStore ?_;intro w hw;have hw:Wd Γ3 (.blk b11 (.cells #[.string xr,.slice xa xn xc] 45)::fpB bp a n c k1 e ⟨0,0⟩ 0::.own (.slice aa na ca) 45 2 (gs.map cF)::.blk b3 (.cells (enc (⟨0,0⟩:PosT)).toArray 63)::S) w:=hw
   repeat first|refine byW ?_|refine byV ?_;intro w hw
   refine W_cond rfl (fun h=>by cases h) (fun _=>?_)
   repeat first|refine byW ?_|refine byV ?_;intro w hw
   refine lBuildSlice [cF ⟨xr,xa,xn,xc,xs⟩] ?_
   intro a62 w hw;refine lApp (i:=3) (rows2:=[cF ⟨xr,xa,xn,xc,xs⟩]) ?_ (Wd.own_rd (i:=0) hw rfl)
   intro v' w hw;repeat first|refine byW ?_|refine byV ?_;intro w hw
   have hw:Wd Γ3 (fpB bp a n c k1 e ⟨0,0⟩ 0::.own v' 45 2 (gs.map cF++[cF ⟨xr,xa,xn,xc,xs⟩])::.blk b3 (.cells (enc (⟨0,0⟩:PosT)).toArray 63)::S) w:=hw.ds [0,0]
   rw[show gs.map cF++[cF ⟨xr,xa,xn,xc,xs⟩]=(gs++[(⟨xr,xa,xn,xc,xs⟩:FactH)]).map cF from by simp]at hw
   refine⟨n-k1,by omega,Γ3,k1,f,gs++[⟨xr,xa,xn,xc,xs⟩],v',hle2.trans hle3,by omega,by omega,by simp;omega,(fun y hy=>?_),⟨rfl,rfl,rfl,rfl,trivial⟩,?_,hw⟩
   ·rcases List.mem_append.1 hy with q|q
    ·exact(hok.mono hle3) y q
    ·have q:=List.mem_singleton.1 q
     subst q;exact⟨hfx,by rw[hx];exact hxo⟩
   ·rw[ho2];congr 1
    unfold facts;rw[List.map_append,←hx];rfl
 ·have h1:toks.length≤k:=by have:=of_decide_eq_false h1;omega
  rw[ho,factsN_stop h1];repeat first|refine byW ?_|refine byV ?_;intro w hw
  refine lCall (vs:=[.slice aa na ca]) ?_
  refine(set_any (S:=fpB bp a n c k e ⟨0,0⟩ 0::.own (.slice aa na ca) 45 2 (gs.map cF)::.blk b3 (.cells (enc (⟨0,0⟩:PosT)).toArray 63)::S) gs hok (by omega) (RdS.own (i:=1) hw rfl) hw).mono ?_
  clear hw;rintro r w ⟨Γ3,v3,hs,hle3,rfl,hhs,hok3,hw⟩
  refine⟨_,rfl,?_⟩;repeat first|refine byW ?_|refine byV ?_;intro w hw
  refine lStore (i:=3) ?_
  intro w hw;have hw:Wd Γ3 (.own v3 45 2 (hs.map cF)::fpB bp a n c k e ⟨0,0⟩ 0::.own (.slice aa na ca) 45 2 (gs.map cF)::.blk b3 (.cells (enc (⟨0,0⟩:PosT)).toArray 63)::S) w:=hw
  repeat first|refine byW ?_|refine byV ?_;intro w hw
  exact⟨[v3,.agg (enc (⟨0,0⟩:PosT)).toArray,.int .i64 0],⟨rfl,resC (i:=3) hw rfl rfl rfl,rfl,trivial⟩,Γ3,v3,hs,(hle.trans hle2).trans hle3,rfl,hhs,hok3,hw.ds [1,1,1]⟩
end
end Go.Proofs.YtfoggcgogafocaaGreatDoor
end
section
open Go Mk
namespace Go.Proofs.YtfoggcgogafocaaGreatDoor
def lay_join_ren:Go.Shelf.Ren:=⟨fun|156=>64|165=>129|166=>63|169=>65|240=>128|241=>169|276=>168|277=>205|n=>n,fun|31=>109|9=>9|3=>3|4=>4|0=>0|20=>20|72=>108|76=>113|70=>105|37=>106|75=>112|127=>171|164=>196|5=>5|80=>116|n=>n,fun|n=>n⟩
theorem lay_join:Go.Proofs.Lays.n156 Tryz.prog lay_join_ren:={
 mixed:=by kernel_rfl
 f156:=Tryz.func64.trans (congrArg some (by kernel_rfl))
 f165:=Tryz.func129.trans (congrArg some (by kernel_rfl))
 f166:=Tryz.func63.trans (congrArg some (by kernel_rfl))
 f169:=Tryz.func65.trans (congrArg some (by kernel_rfl))
 f240:=Tryz.func128.trans (congrArg some (by kernel_rfl))
 f241:=Tryz.func169.trans (congrArg some (by kernel_rfl))
 f276:=Tryz.func168.trans (congrArg some (by kernel_rfl))
 f277:=Tryz.func205.trans (congrArg some (by kernel_rfl))
 t0:=Tryz.underlying0
 a0:=Tryz.isAgg0
 z0:=Tryz.sizeOf0
 v0:=Tryz.zeroValue0
 t3:=Tryz.underlying3
 a3:=Tryz.isAgg3
 z3:=Tryz.sizeOf3
 v3:=Tryz.zeroValue3
 t4:=Tryz.underlying4
 a4:=Tryz.isAgg4
 z4:=Tryz.sizeOf4
 v4:=Tryz.zeroValue4
 t9:=Tryz.underlying9
 a9:=Tryz.isAgg9
 z9:=Tryz.sizeOf9
 v9:=Tryz.zeroValue9
 t20:=Tryz.underlying20
 a20:=Tryz.isAgg20
 z20:=Tryz.sizeOf20
 v20:=Tryz.zeroValue20
 t31:=Tryz.underlying109
 a31:=Tryz.isAgg109
 z31:=Tryz.sizeOf109
 v31:=Tryz.zeroValue109
 t37:=Tryz.underlying106
 a37:=Tryz.isAgg106
 z37:=Tryz.sizeOf106
 v37:=Tryz.zeroValue106
 t70:=Tryz.underlying105
 a70:=Tryz.isAgg105
 z70:=Tryz.sizeOf105
 v70:=Tryz.zeroValue105
 t72:=Tryz.underlying108
 a72:=Tryz.isAgg108
 z72:=Tryz.sizeOf108
 v72:=Tryz.zeroValue108
 t75:=Tryz.underlying112
 a75:=Tryz.isAgg112
 z75:=Tryz.sizeOf112
 v75:=Tryz.zeroValue112
 t76:=Tryz.underlying113
 a76:=Tryz.isAgg113
 z76:=Tryz.sizeOf113
 v76:=Tryz.zeroValue113
 t127:=Tryz.underlying171
 a127:=Tryz.isAgg171
 z127:=Tryz.sizeOf171
 v127:=Tryz.zeroValue171
 t164:=Tryz.underlying196
 a164:=Tryz.isAgg196
 z164:=Tryz.sizeOf196
 v164:=Tryz.zeroValue196 }
def lay_fmti_ren:Go.Shelf.Ren:=⟨fun|173=>127|246=>167|283=>201|284=>202|285=>203|286=>204|129=>183|317=>229|318=>230|319=>231|320=>232|337=>242|338=>243|n=>n,fun|2=>2|3=>3|9=>9|4=>4|171=>222|0=>0|53=>36|37=>106|5=>5|173=>224|212=>241|51=>208|20=>20|213=>242|46=>77|232=>249|233=>250|n=>n,fun|17=>1|18=>2|19=>3|n=>n⟩
theorem lay_fmti:Go.Proofs.LaysM.n173 Tryz.prog lay_fmti_ren:={
 mixed:=by kernel_rfl
 f129:=Tryz.func183.trans (congrArg some (by kernel_rfl))
 f173:=Tryz.func127.trans (congrArg some (by kernel_rfl))
 f246:=Tryz.func167.trans (congrArg some (by kernel_rfl))
 f283:=Tryz.func201.trans (congrArg some (by kernel_rfl))
 f284:=Tryz.func202.trans (congrArg some (by kernel_rfl))
 f285:=Tryz.func203.trans (congrArg some (by kernel_rfl))
 f286:=Tryz.func204.trans (congrArg some (by kernel_rfl))
 f317:=Tryz.func229.trans (congrArg some (by kernel_rfl))
 f318:=Tryz.func230.trans (congrArg some (by kernel_rfl))
 f319:=Tryz.func231.trans (congrArg some (by kernel_rfl))
 f320:=Tryz.func232.trans (congrArg some (by kernel_rfl))
 f337:=Tryz.func242.trans (congrArg some (by kernel_rfl))
 f338:=Tryz.func243.trans (congrArg some (by kernel_rfl))
 t0:=Tryz.underlying0
 a0:=Tryz.isAgg0
 z0:=Tryz.sizeOf0
 v0:=Tryz.zeroValue0
 t2:=Tryz.underlying2
 a2:=Tryz.isAgg2
 z2:=Tryz.sizeOf2
 v2:=Tryz.zeroValue2
 t3:=Tryz.underlying3
 a3:=Tryz.isAgg3
 z3:=Tryz.sizeOf3
 v3:=Tryz.zeroValue3
 t4:=Tryz.underlying4
 a4:=Tryz.isAgg4
 z4:=Tryz.sizeOf4
 v4:=Tryz.zeroValue4
 t5:=Tryz.underlying5
 a5:=Tryz.isAgg5
 z5:=Tryz.sizeOf5
 v5:=Tryz.zeroValue5
 t9:=Tryz.underlying9
 a9:=Tryz.isAgg9
 z9:=Tryz.sizeOf9
 v9:=Tryz.zeroValue9
 t20:=Tryz.underlying20
 a20:=Tryz.isAgg20
 z20:=Tryz.sizeOf20
 v20:=Tryz.zeroValue20
 t37:=Tryz.underlying106
 a37:=Tryz.isAgg106
 z37:=Tryz.sizeOf106
 v37:=Tryz.zeroValue106
 t46:=Tryz.underlying77
 a46:=Tryz.isAgg77
 z46:=Tryz.sizeOf77
 v46:=Tryz.zeroValue77
 t51:=Tryz.underlying208
 a51:=Tryz.isAgg208
 z51:=Tryz.sizeOf208
 v51:=Tryz.zeroValue208
 t53:=Tryz.underlying36
 a53:=Tryz.isAgg36
 z53:=Tryz.sizeOf36
 v53:=Tryz.zeroValue36
 t171:=Tryz.underlying222
 a171:=Tryz.isAgg222
 z171:=Tryz.sizeOf222
 v171:=Tryz.zeroValue222
 t173:=Tryz.underlying224
 a173:=Tryz.isAgg224
 z173:=Tryz.sizeOf224
 v173:=Tryz.zeroValue224
 t212:=Tryz.underlying241
 a212:=Tryz.isAgg241
 z212:=Tryz.sizeOf241
 v212:=Tryz.zeroValue241
 t213:=Tryz.underlying242
 a213:=Tryz.isAgg242
 z213:=Tryz.sizeOf242
 t232:=Tryz.underlying249
 a232:=Tryz.isAgg249
 z232:=Tryz.sizeOf249
 v232:=Tryz.zeroValue249
 t233:=Tryz.underlying250
 a233:=Tryz.isAgg250
 z233:=Tryz.sizeOf250
 v233:=Tryz.zeroValue250
 g17:=by kernel_rfl
 g18:=by kernel_rfl
 g19:=by kernel_rfl
 i0:=by kernel_rfl
 i2:=by kernel_rfl
 i3:=by kernel_rfl
 i4:=by kernel_rfl
 i5:=by kernel_rfl
 i9:=by kernel_rfl
 i20:=by kernel_rfl
 i37:=by kernel_rfl
 i46:=by kernel_rfl
 i51:=by kernel_rfl
 i53:=by kernel_rfl
 i171:=by kernel_rfl
 i173:=by kernel_rfl
 i212:=by kernel_rfl
 i232:=by kernel_rfl
 i233:=by kernel_rfl
 m17:=by kernel_rfl
 m18:=by kernel_rfl
 m19:=by kernel_rfl }
end Go.Proofs.YtfoggcgogafocaaGreatDoor
end
section
open Go Mk
namespace Go.Proofs.YtfoggcgogafocaaGreatDoor
set_option maxHeartbeats 16000000
attribute [local irreducible] Calls cFact
def allStr(s:ByteArray):Bool:=(bts s).all inStrC
def textS(s:ByteArray):Bool:=allStr s&&decide (0<s.size)&&decide (s.size≤24)
def rightV(v:Val):Bool:=(decide (v.Kind=1)&&decide (v.Word=⟨#[]⟩))||(decide (v.Kind=2)&&decide (v.Num=0)&&textS v.Word)
def rightS(x:Fact):Bool:=nameS x.1&&decide (1≤x.2.length)&&decide (x.2.length≤8)&&x.2.all rightV
theorem inStr_at{s:ByteArray}{i:Nat}{b:UInt8}(h:(bts s)[i]? = some b):inStr (byteAt s i)=inStrC b:=by
 have:byteAt s i=(b.toNat:Int):=by
  show ((s.data.toList.getD i 0).toNat:Int)=_
  rw[List.getD_eq_getElem?_getD,show s.data.toList[i]? = some b from h];rfl
 rw[this];rfl
theorem allStr_t{s:ByteArray}(h:∀i,i<s.size→inStr (byteAt s i)=true):allStr s=true:=by
 refine List.all_eq_true.2 fun b hb=>?_
 obtain⟨i,hi⟩:=List.mem_iff_getElem?.1 hb
 have hlt:=(List.getElem?_eq_some_iff.1 hi).1
 rw[bts_len]at hlt;rw[←inStr_at hi];exact h i hlt
theorem allStr_f{s:ByteArray}{i:Nat}(hi:i<s.size)(h:inStr (byteAt s i)=false):allStr s=false:=by
 obtain⟨b,hb⟩:=get_lt (l:=bts s) (k:=i) (by rw[bts_len];exact hi)
 refine List.all_eq_false.2 ⟨b,List.mem_of_getElem? hb,?_⟩
 rw[←inStr_at hb,h];decide
theorem pc_isTextF(s:ByteArray)(hs:s.size≤100000):PC Tryz.prog 126 [.string s] (.bool (textS s)):=⟨fun w=>by
 refine calls_of_W Tryz.func126 rfl rfl ?_
 repeat first|refine byW ?_|refine byV ?_;intro w hw
 refine W_loop (fun μ ρ w'=>∃(k:Nat),μ+k=s.size∧Has ρ [(0,.string s),(3,.int .i64 k)]∧(∀i,i<k→inStr (byteAt s i)=true)∧w'=w) s.size ⟨0,by omega,⟨rfl,rfl,trivial⟩,fun i hi=>by omega,rfl⟩ ?_
 rintro μ ρ w' ⟨k,hk,hρ,hall,rfl⟩
 rw[hρ.eq];repeat first|refine byW ?_|refine byV ?_;intro w hw
 refine W_cond rfl (fun h=>?_) (fun h=>?_)
 ·have hkn:k<s.size:=by have:=of_decide_eq_true h;omega
  repeat first|refine byW ?_|refine byV ?_;intro w hw
  refine W_cond rfl (fun h2=>?_) (fun h2=>?_)
  ·repeat first|refine byW ?_|refine byV ?_;intro w hw
   refine⟨_,rfl,ret_b rfl ?_,rfl⟩
   have h3:inStr (byteAt s k)=false:=by
    have h2':(((decide (byteAt s k<32)||decide (126<byteAt s k))||decide (byteAt s k=34))||decide (byteAt s k=92))=true:=h2
    unfold inStr;simp only[Bool.or_eq_true,decide_eq_true_eq]at h2'
    simp only[Bool.and_eq_false_iff,decide_eq_false_iff_not]
    omega
   unfold textS;rw[allStr_f hkn h3];rfl
  ·repeat first|refine byW ?_|refine byV ?_;intro w hw
   refine⟨μ-1,by omega,k+1,by omega,⟨rfl,rfl,trivial⟩,fun i hi=>?_,rfl⟩
   by_cases e:i=k
   ·subst e;have h2':(((decide (byteAt s i<32)||decide (126<byteAt s i))||decide (byteAt s i=34))||decide (byteAt s i=92))=false:=h2
    unfold inStr;simp only[Bool.or_eq_false_iff,decide_eq_false_iff_not]at h2'
    simp only[Bool.and_eq_true,decide_eq_true_eq]
    omega
   ·exact hall i (by omega)
 ·have hkn:¬k<s.size:=by have:=of_decide_eq_false h;omega
  repeat first|refine byW ?_|refine byV ?_;intro w hw
  refine⟨_,rfl,ret_b rfl ?_,rfl⟩
  unfold textS;rw[allStr_t fun i hi=>hall i (by omega)]
  have e1:decide (s≠⟨#[]⟩)=decide (0<s.size):=by simp only[ne_nilB]
  rw[e1,Bool.true_and];congr 1
  rw[decide_eq_decide];omega⟩
theorem pg_right{Γ:Gho}{f:FactH}(hf:FOk Γ f)(ho:FactOk f.fact):PG Tryz.prog Γ 61 [.agg (cF f).toArray] (.bool (rightS f.fact)):=⟨fun S w hw=>by
 obtain⟨l1,l2,l3⟩:=hf.len;obtain⟨o1,o2,o3⟩:=ho;have hr:=hf
 unfold FOk FactH.hdr at hr;obtain⟨fr,fa,fn,fc,fs⟩:=f;simp only[FactH.fact]at l1 l2 l3 o1 o2 o3 hr ⊢
 haveI:SB fr:=⟨by omega⟩
 refine calls_of_W Tryz.func61 rfl rfl ?_
 repeat first|refine byW ?_|refine byV ?_;intro w hw
 refine lBox ?_;intro b1 w hw;have hw:Wd Γ (.blk b1 (.cells #[.string fr,.slice fa fn fc] 45)::S) w:=hw
 repeat first|refine byW ?_|refine byV ?_;intro w hw
 refine W_cond rfl (fun h=>?_) (fun h=>?_)
 ·repeat first|refine byW ?_|refine byV ?_;intro w hw
  refine⟨_,rfl,ret_b rfl ?_,hw.drop⟩
  unfold rightS;have h':((!nameS fr||decide ((fn:Int)<1))||decide (8<(fn:Int)))=true:=h
  simp only[Bool.or_eq_true,Bool.not_eq_true',decide_eq_true_eq]at h'
  symm
  rcases h' with (q|q)|q
  ·rw[q];rfl
  ·rw[show decide (1≤fs.length)=false from decide_eq_false (by omega)];simp
  ·rw[show decide (fs.length≤8)=false from decide_eq_false (by omega)];simp
 have h':((!nameS fr||decide ((fn:Int)<1))||decide (8<(fn:Int)))=false:=h
 simp only[Bool.or_eq_false_iff,Bool.not_eq_false',decide_eq_false_iff_not]at h'
 obtain⟨⟨q1,q2⟩,q3⟩:=h';have hR:rightS (fr,fs)=fs.all rightV:=by
  unfold rightS;rw[q1,show decide (1≤fs.length)=true from decide_eq_true (by omega),show decide (fs.length≤8)=true from decide_eq_true (by omega)];simp
 rw[hR];repeat first|refine byW ?_|refine byV ?_;intro w hw
 refine W_loop (fun μ ρ w=>∃(k:Nat),μ+k=fn∧Has ρ [(24,.slice fa fn fc),(25,.int .i64 fn),(26,.int .i64 k)]∧fs.all rightV=(fs.drop k).all rightV∧Wd Γ S w) fn ⟨0,by omega,⟨rfl,rfl,rfl,trivial⟩,rfl,hw.drop⟩ ?_
 clear hw;rintro μ ρ w ⟨k,hk,hρ,ho,hw⟩
 rw[hρ.eq];repeat first|refine byW ?_|refine byV ?_;intro w hw
 refine W_cond rfl (fun h2=>?_) (fun h2=>?_)
 ·have hkn:k<fn:=by have:=of_decide_eq_true h2;omega
  obtain⟨v,hv⟩:=get_lt (l:=fs) (k:=k) (by omega)
  rw[drop_get hv]at ho;have hvo:=o3 v (List.mem_of_getElem? hv)
  have hT:=pc_isTextF v.Word hvo.2
  repeat first|refine byW ?_|refine byV ?_;intro w hw
  refine lAlloc ?_;intro b4 w hw;refine lStore ?_;intro w hw;have hw:Wd Γ (.blk b4 (.cells (enc v).toArray 48)::S) w:=hw
  repeat first|refine byW ?_|refine byV ?_;intro w hw
  refine W_cond rfl (fun h3=>?_) (fun h3=>?_)
  ·repeat first|refine byW ?_|refine byV ?_;intro w hw
   refine⟨_,rfl,ret_b rfl ?_,hw.drop⟩
   have h3':(!(decide (v.Kind=1)&&decide (v.Word=⟨#[]⟩)) && !(decide (v.Kind=2)&&decide (v.Num=0)&&textS v.Word))=true:=h3
   have:rightV v=false:=by
    unfold rightV;simp only[Bool.and_eq_true,Bool.not_eq_true']at h3'
    rw[h3'.1,h3'.2];rfl
   rw[ho,List.all_cons,this];rfl
  ·repeat first|refine byW ?_|refine byV ?_;intro w hw
   refine⟨μ-1,by omega,k+1,by omega,⟨rfl,rfl,rfl,trivial⟩,?_,hw.drop⟩
   have h3':(!(decide (v.Kind=1)&&decide (v.Word=⟨#[]⟩)) && !(decide (v.Kind=2)&&decide (v.Num=0)&&textS v.Word))=false:=h3
   have:rightV v=true:=by
    unfold rightV;rw[Bool.and_eq_false_iff,Bool.not_eq_false',Bool.not_eq_false']at h3';rw[Bool.or_eq_true];exact h3'
   rw[ho,List.all_cons,this];rfl
 ·repeat first|refine byW ?_|refine byV ?_;intro w hw
  refine⟨_,rfl,ret_b rfl ?_,hw⟩
  rw[ho,drop_none fs (by have:=of_decide_eq_false h2;omega)];rfl⟩
end Go.Proofs.YtfoggcgogafocaaGreatDoor
end
section
open Go Mk
namespace Go.Proofs.YtfoggcgogafocaaGreatDoor
set_option maxHeartbeats 16000000
attribute [local irreducible] Calls cFact
class TabG(Γ:Gho):Prop where
 h:∀S w,Wd Γ S w→Lib.TabIs Tryz.prog w "internal/strconv.uint64pow10" .u64 Lib.pow10Tab
 dr:Γ.dr=0
theorem TabG.mono{Γ Γ':Gho}(h:TabG Γ)(hl:Γ.le Γ'):TabG Γ':=⟨fun S w hw=>h.h [] w (wd_less hl (wd_nil hw)),hl.dr.trans h.dr⟩
def itoaB(n:Int):ByteArray:=⟨(Lib.itoa n).toArray⟩
theorem pg_fmtInt{Γ:Gho}[hT:TabG Γ](n:Int)(h0:-9223372036854775808≤n)(h1:n≤9223372036854775807):PG Tryz.prog Γ 127 [.int .i64 n,.int .i64 10] (.string (itoaB n)):=⟨fun S w hw=>
 Calls.mono (Any.strconv_FormatInt_10 lay_fmti n h0 h1 w (hT.h S w hw)) fun e w' ⟨h,k,os,hw'⟩=>⟨h,by
  subst hw';refine wd_below hT.dr hw ⟨rfl,rfl,rfl,?_,fun k hk=>?_⟩
  ·simp[Go.Sort.grow,World.drewN]
  ·simp[Go.Sort.grow,World.drewN,Array.getElem?_append_left hk]⟩⟩
def quoteB:ByteArray:=⟨#[34]⟩
def valS(v:Val):ByteArray:=if v.Kind=1 then itoaB v.Num else if nameS v.Word=true then v.Word else (quoteB++v.Word)++quoteB
theorem pg_writeV{Γ:Gho}[hT:TabG Γ](v:Val)(hv:ValOk v):PG Tryz.prog Γ 62 [.agg (enc v).toArray] (.string (valS v)):=⟨fun S w hw=>by
 have hF:=pg_fmtInt (Γ:=Γ) v.Num hv.1.1 hv.1.2
 have hv2:=hv.2
 haveI:SB v.Word:=⟨by omega⟩
 refine calls_of_W Tryz.func62 rfl rfl ?_
 repeat first|refine byW ?_|refine byV ?_;intro w hw
 refine lBox ?_;intro b1 w hw;have hw:Wd Γ (.blk b1 (.cells (enc v).toArray 48)::S) w:=hw
 repeat first|refine byW ?_|refine byV ?_;intro w hw
 refine W_cond rfl (fun h=>?_) (fun h=>?_)
 ·have h:v.Kind=1:=of_decide_eq_true h
  have hE:valS v=itoaB v.Num:=if_pos h
  rw[hE];repeat first|refine byW ?_|refine byV ?_;intro w hw
  exact⟨_,rfl,rfl,hw.drop⟩
 have h:¬v.Kind=1:=of_decide_eq_false h
 repeat first|refine byW ?_|refine byV ?_;intro w hw
 refine W_cond rfl (fun h2=>?_) (fun h2=>?_)
 ·have hE:valS v=v.Word:=by unfold valS;rw[if_neg h,if_pos h2]
  rw[hE];repeat first|refine byW ?_|refine byV ?_;intro w hw
  exact⟨_,rfl,rfl,hw.drop⟩
 ·have hE:valS v=(quoteB++v.Word)++quoteB:=by unfold valS;rw[if_neg h,if_neg (by rw[h2];decide)]
  rw[hE];repeat first|refine byW ?_|refine byV ?_;intro w hw
  refine lY (v:=.string (quoteB++v.Word)) ?_ (hy:=y_addS rfl rfl (by have:quoteB.size=1:=rfl;have:(⟨#[34]⟩:ByteArray).size=1:=rfl;omega))
  repeat first|refine byW ?_|refine byV ?_;intro w hw
  refine lY (v:=.string ((quoteB++v.Word)++quoteB)) ?_ (hy:=y_addS rfl rfl (by have:(⟨#[34]⟩:ByteArray).size=1:=rfl;have:quoteB.size=1:=rfl;rw[ByteArray.size_append];omega))
  repeat first|refine byW ?_|refine byV ?_;intro w hw
  exact⟨_,rfl,rfl,hw.drop⟩⟩
theorem lay_bx:Builder.Extra Tryz.prog lay_join_ren:={
 sizeBuilder:=by kernel_rfl
 liesBuilder:=by kernel_rfl
 t5:=Tryz.underlying5
 a5:=Tryz.isAgg5
 z5:=Tryz.sizeOf5
 v5:=Tryz.zeroValue5
 infoByte:=by kernel_rfl
 cellsByte:=by kernel_rfl
 sizeByte:=by kernel_rfl
 neB5:=by decide }
def sepB:ByteArray:=⟨#[44,32]⟩
def joinB(xs:List ByteArray):ByteArray:=⟨(Lib.join (xs.map (·.data.toList)) sepB.data.toList).toArray⟩
theorem lens_le(xs:List ByteArray)(h:∀x∈xs,x.size≤1000):Lib.lens (xs.map (·.data.toList))≤xs.length*1000:=by
 induction xs with
 | nil=>simp[Lib.lens]
 | cons x xs ih=>
  have h1:=ih fun y hy=>h y (List.mem_cons_of_mem _ hy)
  have h2:=h x List.mem_cons_self
  have h3:x.data.toList.length=x.size:=by simp
  simp only[Lib.lens,List.map_cons,List.sum_cons,List.length_cons]at h1 ⊢
  rw[h3,Nat.add_mul];omega
theorem join_len(xs:List ByteArray)(h:∀x∈xs,x.size≤1000):(joinB xs).size≤xs.length*1002:=by
 have hs:(joinB xs).size=(Lib.join (xs.map (·.data.toList)) sepB.data.toList).length:=by show (List.toArray _).size=_;simp
 rw[hs];cases xs with
 | nil=>simp[Lib.join]
 | cons x r=>
  have h1:=Lib.join_length x.data.toList (r.map (·.data.toList)) sepB.data.toList
  have h2:=lens_le (x::r) h
  rw[List.map_cons]at h2 ⊢
  rw[h1,List.length_map,show sepB.data.toList.length=2 from rfl];simp only[List.length_cons,Nat.add_mul]at h2 ⊢
  omega
theorem Join_any{Γ:Gho}[hT:TabG Γ]{S:List Res}{w:World}{v:Value}(xs:List ByteArray)(hr:RdS Γ S v 1 (xs.map fun s=>[.string s]))(hl:xs.length≤1000)(hsz:∀x∈xs,x.size≤1000)(hw:Wd Γ S w) :
  Calls Tryz.prog 64 #[v,.string sepB] w fun e w'=>e=.returned (.string (joinB xs))∧Wd Γ S w':=by
 obtain⟨a,n,c,rfl,hn,hnc,hc⟩:=hr.shape;simp only[List.length_map]at hn
 have hrd:=hr.rd hw
 by_cases h0:xs=[]
 ·subst h0;simp only[List.length_nil]at hn
  subst hn;exact Calls.mono (Any.strings_Join_none lay_join lay_bx a c sepB w) fun e w' ⟨h1,h2⟩=>⟨h1,by subst h2;exact hw⟩
 ·have hpos:0<xs.length:=List.length_pos_iff.2 h0
  have ha:=hrd.at_ (by simpa using hpos)
  have hcell:∀(j:Nat) x,xs[j]? = some x→w.cell? ⟨aB a,aO a+j,none⟩=some (.string x):=fun j x hx=>by
   have h1:=hrd.range (j*1) (.string x) (flatten_get hrd.len (by rw[List.getElem?_map,hx];rfl) 0 _ rfl)
   rwa [Nat.mul_one]at h1
  have hb:aB a<w.heap.size:=by
   obtain⟨x,hx⟩:=get_lt (l:=xs) (k:=0) hpos
   have h1:=hcell 0 x hx
   unfold World.cell? at h1
   by_cases hlt:aB a<w.heap.size
   ·exact hlt
   ·rw[Array.getElem?_eq_none (show w.heap.size≤aB a by omega)]at h1;cases h1
  have hjl:=join_len xs hsz
  have hs:(joinB xs).size=(Lib.join (xs.map (·.data.toList)) sepB.data.toList).length:=by show (List.toArray _).size=_;simp
  have:=Any.strings_Join_48 lay_join lay_bx (aB a) (aO a) c xs sepB w hcell hb (by omega) (by omega) (by rw[←hs];omega)
  rw[ha,hn];exact Calls.mono this fun e w' ⟨h1,h2⟩=>⟨h1,wd_below hT.dr hw h2⟩
end Go.Proofs.YtfoggcgogafocaaGreatDoor
end
section
open Go Mk
namespace Go.Proofs.YtfoggcgogafocaaGreatDoor
set_option maxHeartbeats 16000000
attribute [local irreducible] Calls cFact
def bldR(b:Nat)(l:List UInt8):Res:=Res.ex (α:={q:Value×Value // (q.1=.pointer none∨q.1=.pointer (some ⟨b,0,none⟩))∧(l=[]→q.2=.slice none 0 0)}) fun q=>[.blk b (.cells #[q.1.1,q.1.2] 108),.own q.1.2 5 1 (bRows l)]
section
variable {Γ:Gho}{S:List Res}{w:World}{b:Nat}
theorem bld_new(hw:Wd Γ (.blk b (.cells #[.pointer none,.slice none 0 0] 108)::S) w):Wd Γ (bldR b []::S) w:=
 Wd.closeEx ⟨(.pointer none,.slice none 0 0),.inl rfl,fun _=>rfl⟩ ((Wd.addNil hw).ps [1])
theorem ext_noEscape(v:Value)(w:World):(callFunc 168 #[v]).run Tryz.prog w=.ok (.value v) w:=by
 rw[run_callFunc_extern Tryz.func168 (by kernel_rfl) (by kernel_rfl) (e:=Extern.AbiNoEscape.same) (by kernel_rfl) (by kernel_rfl),Lib.run_noEscape]
 rfl
theorem copyCheck_any{p v:Value}(hp:p=.pointer none∨p=.pointer (some ⟨b,0,none⟩))(hw:Wd Γ (.blk b (.cells #[p,v] 108)::S) w) :
  Calls Tryz.prog 128 #[.pointer (some ⟨b,0,none⟩)] w fun e w'=>e=.returned (.tuple #[])∧Wd Γ (.blk b (.cells #[.pointer (some ⟨b,0,none⟩),v] 108)::S) w':=by
 obtain⟨j,hj,hjs⟩:∃j,Tryz.prog.info? 108=some j∧j.size=2:=Option.map_eq_some_iff.1 (inferInstance:TSz Tryz.prog 108 2).h
 refine calls_of_W Tryz.func128 rfl rfl ?_
 rcases hp with rfl|rfl
 ·repeat first|refine byW ?_|refine byV ?_;intro w hw
  refine W_cond rfl (fun _=>?_) (fun h=>by cases h)
  repeat first|refine byW ?_|refine byV ?_;intro w hw
  refine lY (v:=.pointer (some ⟨b,0,none⟩)) ?_ (hy:=y_toUnsafe (i:=0) Tryz.underlying105 Tryz.underlying196 hj (by rw[hjs];decide) hw rfl rfl Nat.zero_lt_two)
  repeat first|refine byW ?_|refine byV ?_;intro w hw
  refine lExt (vs:=[.pointer (some ⟨b,0,none⟩)]) (ext_noEscape _) ?_
  repeat first|refine byW ?_|refine byV ?_;intro w hw
  refine lY (v:=.pointer (some ⟨b,0,none⟩)) ?_ (hy:=y_fromUnsafe (i:=0) Tryz.underlying196 Tryz.underlying105 hj hw rfl rfl (by kernel_rfl))
  repeat first|refine byW ?_|refine byV ?_;intro w hw
  refine lStore ?_;intro w hw;repeat first|refine byW ?_|refine byV ?_;intro w hw
  exact⟨_,rfl,rfl,hw⟩
 ·repeat first|refine byW ?_|refine byV ?_;intro w hw
  refine W_cond rfl (fun h=>by cases h) (fun _=>?_)
  repeat first|refine byW ?_|refine byV ?_;intro w hw
  refine lY (v:=.bool false) ?_ (hy:=y_neqPP Tryz.underlying105 hj rfl rfl)
  repeat first|refine byW ?_|refine byV ?_;intro w hw
  refine W_cond rfl (fun h=>by cases h) (fun _=>?_)
  repeat first|refine byW ?_|refine byV ?_;intro w hw
  exact⟨_,rfl,rfl,hw⟩
theorem WriteString_any{l:List UInt8}(s:ByteArray)(hl:l.length+s.size≤100000000)(hw:Wd Γ (bldR b l::S) w) :
  Calls Tryz.prog 63 #[.pointer (some ⟨b,0,none⟩),.string s] w fun e w'=>e=.returned (.tuple #[.int .i64 s.size,.nilIface])∧Wd Γ (bldR b (l++s.data.toList)::S) w':=by
 obtain⟨⟨⟨p,v⟩,hp,hv⟩,hw⟩:=hw.openEx;dsimp only at hp hv
 have hw:Wd Γ (.blk b (.cells #[p,v] 108)::.own v 5 1 (bRows l)::S) w:=hw
 obtain⟨a,n,c,rfl,hn,hnc,hc⟩:=hw.own_shape (i:=1) rfl
 rw[bRows_len]at hn;refine calls_of_W Tryz.func63 rfl rfl ?_
 repeat first|refine byW ?_|refine byV ?_;intro w hw
 refine lCall ?_;refine(copyCheck_any hp hw).mono ?_
 clear hw;rintro e w ⟨rfl,hw⟩
 refine⟨_,rfl,?_⟩;repeat first|refine byW ?_|refine byV ?_;intro w hw
 refine lAppStr (i:=1) (l:=l) (s:=s) (a:=a) (m:=n) (c:=c) ?_ (by omega)
 intro v' w hv' hw;obtain⟨a',n',c',rfl,-,-,-⟩:=hw.own_shape (i:=1) rfl
 repeat first|refine byW ?_|refine byV ?_;intro w hw
 refine lStore (i:=0) ?_
 intro w hw;have hw:Wd Γ (.blk b (.cells #[.pointer (some ⟨b,0,none⟩),.slice a' n' c'] 108)::.own (.slice a' n' c') 5 1 (bRows (l++s.data.toList))::S) w:=hw
 repeat first|refine byW ?_|refine byV ?_;intro w hw
 refine⟨_,rfl,rfl,Wd.closeEx ⟨(.pointer (some ⟨b,0,none⟩),.slice a' n' c'),.inr rfl,fun h=>?_⟩ hw⟩
 obtain⟨h1,h2⟩:=List.append_eq_nil_iff.1 h
 have h3:s.size=0:=by
  have:s.data.toList.length=s.size:=by simp
  rw[h2]at this;exact this.symm
 have h4:=hv' h3
 dsimp only
 rw[h4];exact hv h1
theorem String_any{l:List UInt8}(hl:l.length≤100000000)(hw:Wd Γ (bldR b l::S) w) :
  Calls Tryz.prog 65 #[.pointer (some ⟨b,0,none⟩)] w fun e w'=>e=.returned (.string ⟨l.toArray⟩)∧Wd Γ S w':=by
 obtain⟨⟨⟨p,v⟩,hp,hv⟩,hw⟩:=hw.openEx;dsimp only at hp hv
 have hw:Wd Γ (.blk b (.cells #[p,v] 108)::.own v 5 1 (bRows l)::S) w:=hw
 obtain⟨a,n,c,rfl,hn,hnc,hc⟩:=hw.own_shape (i:=1) rfl
 rw[bRows_len]at hn;subst hn;refine calls_of_W Tryz.func65 rfl rfl ?_
 by_cases h0:l=[]
 ·subst h0;cases hv rfl
  repeat first|refine byW ?_|refine byV ?_;intro w hw
  refine W_quiet (by kernel_rfl) (by kernel_rfl) hw ?_
  refine byQ ?_;refine qY (v:=.pointer none) ?_ (hy:=fun w hw=>y_sliceDataN rfl)
  refine byQ ?_;refine qY (v:=.string ⟨#[]⟩) ?_ (hy:=fun w hw=>y_unsafeStrN rfl rfl)
  refine byQ ?_;intro w hw;repeat first|refine byW ?_|refine byV ?_;intro w hw
  exact⟨_,rfl,rfl,hw.ds [0,0]⟩
 ·have hpos:0<l.length:=List.length_pos_iff.2 h0
  obtain⟨A,rfl⟩:∃A,a=some A:=by
   have:=(Wd.own_rd (i:=1) hw rfl).at_ (by rw[bRows_len];exact hpos)
   exact⟨_,this⟩
  repeat first|refine byW ?_|refine byV ?_;intro w hw
  refine W_mixC [.blk b _] (.own _ _ _ _::S) [] [[],[],[],[],[],[],[],[],[],[],[0],[]] hw ?_
  refine byM ?_;refine mY (v:=.pointer (some A)) ?_ (hy:=fun Y w g hw=>y_sliceData rfl (by omega))
  refine byM ?_;refine mStepX (φ:=fun (_:Unit) _=>True) (R:=fun _=>.own (.slice (some A) l.length c) 5 1 (bRows l)::S) (v:=.string ⟨l.toArray⟩) (T':=Unit) (fun _ _=>True) (fun _=>S) (fun t' g w Y _ hw=>s_unsafeStr (R:=S++([.blk b (.cells #[p,.slice (some A) l.length c] 108)]++Y)) Tryz.underlying171 (by kernel_rfl) hw rfl rfl h0 fun w' hw'=>⟨(),trivial,(fun _=>rfl),hw'⟩) ?_
  refine byM ?_;refine mEndX fun t' w g _ hw=>?_
  repeat first|refine byW ?_|refine byV ?_;intro w hw
  exact⟨_,rfl,rfl,Wd.left hw⟩
end
end Go.Proofs.YtfoggcgogafocaaGreatDoor
end
section
open Go Mk
namespace Go.Proofs.YtfoggcgogafocaaGreatDoor
set_option maxHeartbeats 16000000
attribute [local irreducible] Calls cFact
def endLB:ByteArray:=⟨#[41,46,10]⟩
def lineFB(x:Fact):ByteArray:=((x.1++lparB)++joinB (x.2.map valS))++endLB
def lineL(x:Fact):List UInt8:=(lineFB x).data.toList
def formatL(l:List Fact):ByteArray:=if l.all rightS=true then ⟨(l.flatMap lineL).toArray⟩ else ⟨#[]⟩
def formatF(l:List Fact):ByteArray:=formatL (setS l)
theorem nDigits_le:∀(k u:Nat),u<10 ^ (k+1)→Lib.nDigits u≤k+1
 | 0,u,h=>by rw[Lib.nDigits_small (by simpa using h)];exact Nat.le_refl _
 | k+1,u,h=>by
  by_cases hu:u<10
  ·rw[Lib.nDigits_small hu];omega
  ·rw[Lib.nDigits_big hu];have:=nDigits_le k (u / 10) (by rw[Nat.div_lt_iff_lt_mul (by decide)];rw[Nat.pow_succ]at h;exact h)
   omega
theorem itoa_len{n:Int}(h0:-9223372036854775808≤n)(h1:n≤9223372036854775807):(itoaB n).size≤25:=by
 have hs:(itoaB n).size=(Lib.itoa n).length:=by show (List.toArray _).size=_;simp
 have hd:∀u:Nat,u≤9223372036854775808→(Lib.decDigits u).length≤20:=fun u hu=>by
  rw[Lib.decDigits_length];exact nDigits_le 19 u (by omega)
 rw[hs];unfold Lib.itoa;split
 ·have:=hd n.natAbs (by omega)
  simp only[List.length_cons];omega
 ·have:=hd n.toNat (by omega)
  omega
theorem valS_len{v:Val}(hv:ValOk v)(hr:rightV v=true):(valS v).size≤30:=by
 unfold valS;split
 ·have:=itoa_len hv.1.1 hv.1.2;omega
 ·rename_i h1
  have h2:v.Word.size≤24:=by
   unfold rightV textS at hr;simp only[Bool.or_eq_true,Bool.and_eq_true,decide_eq_true_eq]at hr
   rcases hr with q|q
   ·exact absurd q.1 h1
   ·exact q.2.2
  split
  ·omega
  ·have h3:quoteB.size=1:=rfl
   rw[ByteArray.size_append,ByteArray.size_append];omega
theorem line_len{x:Fact}(hx:FactOk x)(hr:rightS x=true):(lineFB x).size≤9000∧x.1.size≤24∧x.2.length≤8∧(∀s∈x.2.map valS,s.size≤1000)∧(joinB (x.2.map valS)).size≤8016:=by
 unfold rightS at hr;simp only[Bool.and_eq_true,decide_eq_true_eq]at hr
 obtain⟨⟨⟨q1,q2⟩,q3⟩,q4⟩:=hr;have h1:x.1.size≤24:=by unfold nameS at q1;rw[Bool.and_eq_true,decide_eq_true_eq]at q1;exact q1.2
 have h2:∀s∈x.2.map valS,s.size≤1000:=fun s hs=>by
  obtain⟨v,hv,rfl⟩:=List.mem_map.1 hs
  have:=valS_len (hx.2.2 v hv) (List.all_eq_true.1 q4 v hv)
  omega
 have h3:=join_len _ h2
 rw[List.length_map]at h3;have h4:lparB.size=1:=rfl
 have h5:endLB.size=3:=rfl
 refine⟨?_,h1,q3,h2,by omega⟩
 unfold lineFB;simp only[ByteArray.size_append]
 omega
theorem lines_len:∀ {l:List Fact},(∀x∈l,FactOk x)→l.all rightS=true→(l.flatMap lineL).length≤l.length*9000
 | [],_,_=>by simp
 | x::l,ho,hr=>by
  rw[List.all_cons,Bool.and_eq_true]at hr;have h1:=lines_len (l:=l) (fun y hy=>ho y (List.mem_cons_of_mem _ hy)) hr.2
  have h2:=(line_len (ho x List.mem_cons_self) hr.1).1
  have h3:(lineL x).length=(lineFB x).size:=by unfold lineL;simp
  rw[List.flatMap_cons,List.length_append,h3,List.length_cons,Nat.add_mul];omega
abbrev sRows(ss:List ByteArray):List (List Value):=ss.map fun s=>[.string s]
theorem Format_any{Γ:Gho}{S:List Res}{w:World}{v:Value}[hT:TabG Γ](fs:List FactH)(hok:FsOk Γ fs)(hl:fs.length≤10000)(hr:RdS Γ S v 2 (fs.map cF))(hw:Wd Γ S w) :
  Calls Tryz.prog 24 #[v] w fun e w'=>∃Γ',Γ.le Γ'∧e=.returned (.string (formatF (facts fs)))∧Wd Γ' S w':=by
 refine calls_of_W Tryz.func24 rfl rfl ?_
 repeat first|refine byW ?_|refine byV ?_;intro w hw
 refine lAlloc ?_;intro b3 w hw;have hw:=bld_new hw
 repeat first|refine byW ?_|refine byV ?_;intro w hw
 refine lCall (vs:=[v]) ?_
 refine(set_any fs hok (by omega) hr.cons hw).mono ?_
 clear hw;rintro e w ⟨Γ1,v1,gs,hle,rfl,hgs,hok1,hw⟩
 refine⟨_,rfl,?_⟩;haveI hT1:TabG Γ1:=hT.mono hle
 have hgl:gs.length≤10000:=by
  have h1:(facts gs).length≤(facts fs).length:=by rw[hgs];exact setA_len
  unfold facts at h1;simp only[List.length_map]at h1;omega
 obtain⟨a,n,c,rfl,hn,hnc,hc⟩:=hw.own_shape (i:=0) rfl
 simp only[List.length_map]at hn
 have hfo:∀x∈facts gs,FactOk x:=fun x hx=>by
  obtain⟨f,hf,rfl⟩:=List.mem_map.1 hx
  exact(hok1 f hf).2
 have hF:formatF (facts fs)=formatL (facts gs):=by unfold formatF;rw[hgs]
 rw[hF];have hw:Wd Γ1 (bldR b3 []::.own (.slice a n c) 45 2 (gs.map cF)::S) w:=hw.ps [1]
 repeat first|refine byW ?_|refine byV ?_;intro w hw
 refine W_loop (fun μ ρ w=>∃(k:Nat),μ+k=n∧Has ρ [(3,.pointer (some ⟨b3,0,none⟩)),(10,.slice a n c),(11,.int .i64 n),(12,.int .i64 k)]∧((facts gs).take k).all rightS=true∧Wd Γ1 (bldR b3 (((facts gs).take k).flatMap lineL)::.own (.slice a n c) 45 2 (gs.map cF)::S) w) n ⟨0,by omega,⟨rfl,rfl,rfl,rfl,trivial⟩,rfl,hw⟩ ?_
 clear hw;rintro μ ρ w ⟨k,hk,hρ,hall,hw⟩
 rw[hρ.eq];have hsz:(((facts gs).take k).flatMap lineL).length≤90000000:=by
  have h1:=lines_len (l:=(facts gs).take k) (fun x hx=>hfo x (List.mem_of_mem_take hx)) hall
  have h2:((facts gs).take k).length≤10000:=by rw[List.length_take];unfold facts;rw[List.length_map];omega
  have h3:((facts gs).take k).length*9000≤10000*9000:=Nat.mul_le_mul_right _ h2
  omega
 repeat first|refine byW ?_|refine byV ?_;intro w hw
 refine W_cond rfl (fun h=>?_) (fun h=>?_)
 ·have hkn:k<n:=by have:=of_decide_eq_true h;omega
  obtain⟨g,hg⟩:=get_lt (l:=gs) (k:=k) (by omega)
  obtain⟨hfk,hfo1⟩:=hok1 g (List.mem_of_getElem? hg)
  have hgf:(facts gs)[k]? = some g.fact:=by unfold facts;rw[List.getElem?_map,hg];rfl
  have htk:(facts gs).take (k+1)=(facts gs).take k++[g.fact]:=by rw[List.take_add_one,hgf];rfl
  have hR:=pg_right hfk hfo1
  obtain⟨l1,l2,l3⟩:=hfk.len;have hr2:=hfk
  unfold FOk FactH.hdr at hr2;obtain⟨gr,ga,gn,gc,xs⟩:=g;simp only[FactH.fact]at hgf htk hfo1 hR l1 l2 l3 hr2
  repeat first|refine byW ?_|refine byV ?_;intro w hw
  refine lAlloc ?_;intro b5 w hw;refine lStore ?_;intro w hw;have hw:Wd Γ1 (.blk b5 (.cells #[.string gr,.slice ga gn gc] 45)::bldR b3 (((facts gs).take k).flatMap lineL)::.own (.slice a n c) 45 2 (gs.map cF)::S) w:=hw
  repeat first|refine byW ?_|refine byV ?_;intro w hw
  refine lPg (hp:=hR) ?_
  intro w hw;repeat first|refine byW ?_|refine byV ?_;intro w hw
  refine W_cond rfl (fun h2=>?_) (fun h2=>?_)
  ·have h2:rightS (gr,xs)=false:=by simpa using h2
   repeat first|refine byW ?_|refine byV ?_;intro w hw
   have hE:formatL (facts gs)=⟨#[]⟩:=if_neg fun q=>by
    have:=List.all_eq_true.1 q _ (List.mem_of_getElem? hgf)
    rw[h2]at this;cases this
   rw[hE];exact⟨_,rfl,Γ1,hle,rfl,hw.ds [0,0,0]⟩
  have h2:rightS (gr,xs)=true:=by simpa using h2
  obtain⟨m1,m2,m3,m4,m5⟩:=line_len hfo1 h2
  dsimp only at m2 m3 m4 m5
  repeat first|refine byW ?_|refine byV ?_;intro w hw
  refine lMakeSlice (len:=gn) ?_
  intro a6 w hw;have hw:Wd Γ1 (.own (.slice (some a6) gn gn) 9 1 (sRows (List.replicate gn ⟨#[]⟩))::.blk b5 (.cells #[.string gr,.slice ga gn gc] 45)::bldR b3 (((facts gs).take k).flatMap lineL)::.own (.slice a n c) 45 2 (gs.map cF)::S) w:=by
   unfold sRows;rw[List.map_replicate];exact hw
  repeat first|refine byW ?_|refine byV ?_;intro w hw
  refine W_cutB (fun ρ w=>∃ss:List ByteArray,Has ρ [(3,.pointer (some ⟨b3,0,none⟩)),(5,.pointer (some ⟨b5,0,none⟩)),(6,.slice (some a6) gn gn),(10,.slice a n c),(11,.int .i64 n),(12,.int .i64 k)]∧ss=xs.map valS∧Wd Γ1 (.own (.slice (some a6) gn gn) 9 1 (sRows ss)::.blk b5 (.cells #[.string gr,.slice ga gn gc] 45)::bldR b3 (((facts gs).take k).flatMap lineL)::.own (.slice a n c) 45 2 (gs.map cF)::S) w) ?_ ?_
  ·repeat first|refine byW ?_|refine byV ?_;intro w hw
   refine W_loop (fun μ ρ w=>∃(j:Nat) (ss:List ByteArray),μ+j=gn∧Has ρ [(3,.pointer (some ⟨b3,0,none⟩)),(5,.pointer (some ⟨b5,0,none⟩)),(6,.slice (some a6) gn gn),(10,.slice a n c),(11,.int .i64 n),(12,.int .i64 k),(24,.slice ga gn gc),(25,.int .i64 gn),(26,.int .i64 j)]∧ss.length=gn∧ss.take j=(xs.take j).map valS∧Wd Γ1 (.own (.slice (some a6) gn gn) 9 1 (sRows ss)::.blk b5 (.cells #[.string gr,.slice ga gn gc] 45)::bldR b3 (((facts gs).take k).flatMap lineL)::.own (.slice a n c) 45 2 (gs.map cF)::S) w) gn ⟨0,List.replicate gn ⟨#[]⟩,by omega,⟨rfl,rfl,rfl,rfl,rfl,rfl,rfl,rfl,rfl,trivial⟩,by simp,rfl,hw⟩ ?_
   clear hw hρ;rintro μ2 ρ w ⟨j,ss,hj,hρ,hsl,hst,hw⟩
   rw[hρ.eq];repeat first|refine byW ?_|refine byV ?_;intro w hw
   refine W_cond rfl (fun h3=>?_) (fun h3=>?_)
   ·have hjn:j<gn:=by have:=of_decide_eq_true h3;omega
    obtain⟨x,hx⟩:=get_lt (l:=xs) (k:=j) (by omega)
    have hxo:=hfo1.2.2 x (List.mem_of_getElem? hx)
    have hW:=pg_writeV (Γ:=Γ1) x hxo
    repeat first|refine byW ?_|refine byV ?_;intro w hw
    refine lAlloc ?_;intro b8 w hw;repeat first|refine byW ?_|refine byV ?_;intro w hw
    refine lStore ?_;intro w hw;have hw:Wd Γ1 (.blk b8 (.cells (enc x).toArray 48)::.own (.slice (some a6) gn gn) 9 1 (sRows ss)::.blk b5 (.cells #[.string gr,.slice ga gn gc] 45)::bldR b3 (((facts gs).take k).flatMap lineL)::.own (.slice a n c) 45 2 (gs.map cF)::S) w:=hw
    repeat first|refine byW ?_|refine byV ?_;intro w hw
    refine lStoreE (i:=1) ?_
    intro w hw;have hw:Wd Γ1 (.blk b8 (.cells (enc x).toArray 48)::.own (.slice (some a6) gn gn) 9 1 ((sRows ss).set j [.string (valS x)])::.blk b5 (.cells #[.string gr,.slice ga gn gc] 45)::bldR b3 (((facts gs).take k).flatMap lineL)::.own (.slice a n c) 45 2 (gs.map cF)::S) w:=hw
    rw[show (sRows ss).set j [.string (valS x)]=sRows (ss.set j (valS x)) from by unfold sRows;rw[List.map_set]]at hw
    repeat first|refine byW ?_|refine byV ?_;intro w hw
    refine⟨μ2-1,by omega,j+1,ss.set j (valS x),by omega,⟨rfl,rfl,rfl,rfl,rfl,rfl,rfl,rfl,rfl,trivial⟩,by rw[List.length_set];exact hsl,?_,hw.drop⟩
    rw[List.take_add_one,List.take_set_of_le (Nat.le_refl _),hst,List.getElem?_set_self (by omega),List.take_add_one,hx,List.map_append];rfl
   ·have hjn:¬j<gn:=by have:=of_decide_eq_false h3;omega
    rw[List.take_of_length_le (by omega),List.take_of_length_le (by omega)]at hst
    repeat first|refine byW ?_|refine byV ?_;intro w hw
    exact⟨ss,⟨rfl,rfl,rfl,rfl,rfl,rfl,trivial⟩,hst,hw⟩
  ·clear hw hρ;rintro ρ w ⟨ss,hρ,rfl,hw⟩
   rw[hρ.eq];have hll:lparB.size=1:=rfl
   have hel:endLB.size=3:=rfl
   repeat first|refine byW ?_|refine byV ?_;intro w hw
   refine W_mix1 [.own (.slice (some a6) gn gn) _ _ _,.blk b5 _] (bldR b3 (((facts gs).take k).flatMap lineL)::.own (.slice a n c) 45 2 (gs.map cF)::S) [[],[],[],[],[],[],[],[0]] [[],[],[],[],[],[],[],[0]] hw ?_
   refine byM ?_;refine mY (v:=.string (gr++lparB)) ?_ (hy:=fun Y w g hw=>y_addS rfl rfl (by have:(⟨#[40]⟩:ByteArray).size=1:=rfl;omega))
   refine byM ?_;refine mCallK (v:=.string (joinB (xs.map valS))) (vs:=[.slice (some a6) gn gn,.string sepB]) (fun Y w hw=>Join_any (xs.map valS) (RdS.ownI (i:=0) rfl (by simp;omega) (Nat.le_refl _) (by omega)) (by rw[List.length_map];omega) m4 hw) ?_
   refine mY (v:=.string ((gr++lparB)++joinB (xs.map valS))) ?_ (hy:=fun Y w g hw=>y_addS rfl rfl (by rw[ByteArray.size_append];omega))
   refine mY (v:=.string (lineFB (gr,xs))) ?_ (hy:=fun Y w g hw=>y_addS rfl rfl (by have:(⟨#[41,46,10]⟩:ByteArray).size=3:=rfl;rw[ByteArray.size_append,ByteArray.size_append];dsimp only;omega))
   refine mCallS (c:=0) (v:=.tuple #[.int .i64 (lineFB (gr,xs)).size,.nilIface]) (vs:=[.pointer (some ⟨b3,0,none⟩),.string (lineFB (gr,xs))]) (bldR b3 (((facts gs).take k).flatMap lineL++(lineFB (gr,xs)).data.toList)::.own (.slice a n c) 45 2 (gs.map cF)::S) (fun R w hw=>WriteString_any (lineFB (gr,xs)) (by omega) hw) ?_
   refine mEnd fun w g hw=>?_
   have hw:Wd Γ1 ([.own (.slice (some a6) gn gn) 9 1 (sRows (xs.map valS)),.blk b5 (.cells #[.string gr,.slice ga gn gc] 45)]++((bldR b3 (((facts gs).take k).flatMap lineL++(lineFB (gr,xs)).data.toList)::.own (.slice a n c) 45 2 (gs.map cF)::S)++[])) w:=hw
   rw[List.append_nil]at hw;have hw:Wd Γ1 (bldR b3 (((facts gs).take k).flatMap lineL++(lineFB (gr,xs)).data.toList)::.own (.slice a n c) 45 2 (gs.map cF)::S) w:=hw.ds [0,0]
   repeat first|refine byW ?_|refine byV ?_;intro w hw
   refine⟨μ-1,by omega,k+1,by omega,⟨rfl,rfl,rfl,rfl,trivial⟩,?_,?_⟩
   ·rw[htk,List.all_append,hall];show (true&&(rightS (gr,xs)&&true))=true
    rw[h2];rfl
   ·rw[htk,List.flatMap_append];rw[show [(gr,xs)].flatMap lineL=(lineFB (gr,xs)).data.toList from by simp[lineL]]
    exact hw
 ·have hkn:¬k<n:=by have:=of_decide_eq_false h;omega
  have hfl:(facts gs).take k=facts gs:=List.take_of_length_le (by unfold facts;rw[List.length_map];omega)
  rw[hfl]at hall hw hsz
  have hE:formatL (facts gs)=⟨((facts gs).flatMap lineL).toArray⟩:=if_pos hall
  rw[hE];repeat first|refine byW ?_|refine byV ?_;intro w hw
  refine lCall (vs:=[.pointer (some ⟨b3,0,none⟩)]) ?_
  refine(String_any (by omega) hw).mono ?_
  rintro e w ⟨rfl,hw⟩
  refine⟨_,rfl,?_⟩;repeat first|refine byW ?_|refine byV ?_;intro w hw
  exact⟨_,rfl,Γ1,hle,rfl,hw.drop⟩
end Go.Proofs.YtfoggcgogafocaaGreatDoor
end
section
open Go Mk
namespace Go.Proofs.YtfoggcgogafocaaGreatDoor
set_option maxHeartbeats 16000000
attribute [local irreducible] Calls cFact
instance memDec(l:List Fact)(y:Fact):Decidable (y∈l):=decidable_of_iff (l.any (fun x=>decide (x=y))=true) ⟨fun h=>by
 obtain⟨x,hx,hy⟩:=List.any_eq_true.1 h
 have hy:=of_decide_eq_true hy
 rwa [←hy],fun h=>List.any_eq_true.2 ⟨y,h,decide_eq_true rfl⟩⟩
def IsIdx(l:List Fact)(y:Fact)(i:Int):Prop:=(i = -1∧∀x∈l,x≠y)∨∃k:Nat,i=k∧l[k]? = some y∧∀j x,j<k→l[j]? = some x→x≠y
theorem IsIdx.mem{l:List Fact}{y:Fact}{i:Int}(h:IsIdx l y i):decide (0≤i)=decide (y∈l):=by
 rcases h with⟨rfl,h⟩|⟨k,rfl,h,-⟩
 ·rw[decide_eq_false (show ¬y∈l from fun q=>h y q rfl)];rfl
 ·rw[decide_eq_true (List.mem_of_getElem? h),decide_eq_true (show (0:Int)≤k by omega)]
section
variable {Γ:Gho}{S:List Res}{w:World}{b:Nat}
abbrev boxF(b:Nat)(f:FactH):Res:=.blk b (.cells (cF f).toArray 45)
def EqCl(Γ:Gho)(q:Nat)(f:FactH):Prop:=∀(b:Nat) (x:FactH) (Y:List Res) (w:World),FOk Γ x→Wd Γ (boxF b f::Y) w→Calls Tryz.prog q #[.agg (cF x).toArray,.pointer (some ⟨b,0,none⟩)] w fun e w'=>e=.returned (.bool (decide (x.fact=f.fact)))∧Wd Γ (boxF b f::Y) w'
theorem eqcl_contains{f:FactH}(hf:FOk Γ f):EqCl Γ 42 f:=fun b x Y w hx hw=>by
 have hC:=pg_cmpF hx hf
 have hz:decide (cFact x.fact f.fact=0)=decide (x.fact=f.fact):=decide_eq_decide.2 ⟨fun h=>cFact_ord.eq0 h,fun h=>by rw[h];exact cFact_ord.refl _⟩
 obtain⟨fr,fa,fn,fc,fs⟩:=f;obtain⟨gr,ga,gn,gc,gs⟩:=x;refine calls_of_W Tryz.func42 rfl rfl ?_
 repeat first|refine byW ?_|refine byV ?_;intro w hw
 refine lBox ?_;intro b2 w hw;have hw:Wd Γ (.blk b2 (.cells #[.string gr,.slice ga gn gc] 45)::.blk b (.cells #[.string fr,.slice fa fn fc] 45)::Y) w:=hw
 repeat first|refine byW ?_|refine byV ?_;intro w hw
 refine lPg (hp:=hC) ?_
 intro w hw;repeat first|refine byW ?_|refine byV ?_;intro w hw
 exact⟨_,rfl,ret_b rfl hz,hw.drop⟩
theorem IndexFuncF_any{q:Nat}[FnOk Tryz.prog q]{v:Value}{f:FactH}(hcl:EqCl Γ q f)(fs:List FactH)(hok:FsOk Γ fs)(hr:RdS Γ S v 2 (fs.map cF))(hw:Wd Γ (boxF b f::S) w) :
  Calls Tryz.prog 86 #[v,.func (.func q) #[] #[.pointer (some ⟨b,0,none⟩)]] w fun e w'=>∃i:Int,e=.returned (.int .i64 i)∧IsIdx (facts fs) f.fact i∧Wd Γ (boxF b f::S) w':=by
 obtain⟨a,n,c,rfl,hn,hnc,hc⟩:=hr.shape;simp only[List.length_map]at hn
 have hr1:RdS Γ (boxF b f::S) (.slice a n c) 2 (fs.map cF):=hr.cons
 refine calls_of_W Tryz.func86 rfl rfl ?_
 repeat first|refine byW ?_|refine byV ?_;intro w hw
 refine W_loop (fun μ ρ w=>∃(k:Nat),μ+k=n∧Has ρ [(0,.slice a n c),(1,.func (.func q) #[] #[.pointer (some ⟨b,0,none⟩)]),(7,.int .i64 n),(8,.int .i64 k)]∧(∀j x,j<k→(facts fs)[j]? = some x→x≠f.fact)∧Wd Γ (boxF b f::S) w) n ⟨0,by omega,⟨rfl,rfl,rfl,rfl,trivial⟩,fun j x hj=>by omega,hw⟩ ?_
 clear hw;rintro μ ρ w ⟨k,hk,hρ,hno,hw⟩
 rw[hρ.eq];repeat first|refine byW ?_|refine byV ?_;intro w hw
 refine W_cond rfl (fun h=>?_) (fun h=>?_)
 ·have hkn:k<n:=by have:=of_decide_eq_true h;omega
  obtain⟨x,hx⟩:=get_lt (l:=fs) (k:=k) (by omega)
  have hfx:(facts fs)[k]? = some x.fact:=by unfold facts;rw[List.getElem?_map,hx];rfl
  repeat first|refine byW ?_|refine byV ?_;intro w hw
  refine lCallv (fst:=[]) (cap:=[.pointer (some ⟨b,0,none⟩)]) (vs:=[.agg (cF x).toArray]) ?_
  refine(hcl b x S w (hok x (List.mem_of_getElem? hx)).1 hw).mono ?_
  clear hw;rintro e w ⟨rfl,hw⟩
  refine⟨_,rfl,?_⟩;repeat first|refine byW ?_|refine byV ?_;intro w hw
  refine W_cond rfl (fun h2=>?_) (fun h2=>?_)
  ·have h2:x.fact=f.fact:=of_decide_eq_true h2
   repeat first|refine byW ?_|refine byV ?_;intro w hw
   exact⟨_,rfl,_,rfl,.inr ⟨k,rfl,by rw[←h2];exact hfx,hno⟩,hw⟩
  ·have h2:¬x.fact=f.fact:=of_decide_eq_false h2
   repeat first|refine byW ?_|refine byV ?_;intro w hw
   refine⟨μ-1,by omega,k+1,by omega,⟨rfl,rfl,rfl,rfl,trivial⟩,fun j y hj hy=>?_,hw⟩
   by_cases e:j=k
   ·subst e;rw[hfx]at hy;cases hy;exact h2
   ·exact hno j y (by omega) hy
 ·have hkn:¬k<n:=by have:=of_decide_eq_false h;omega
  repeat first|refine byW ?_|refine byV ?_;intro w hw
  refine⟨_,rfl,-1,rfl,.inl ⟨rfl,fun x hx=>?_⟩,hw⟩
  obtain⟨j,hj⟩:=List.mem_iff_getElem?.1 hx
  have hlt:=(List.getElem?_eq_some_iff.1 hj).1
  unfold facts at hlt;rw[List.length_map]at hlt;exact hno j x (by omega) hj
theorem ContainsF_any{v:Value}{f:FactH}(fs:List FactH)(hok:FsOk Γ fs)(hf:FOk Γ f)(hr:RdS Γ S v 2 (fs.map cF))(hw:Wd Γ S w) :
  Calls Tryz.prog 13 #[v,.agg (cF f).toArray] w fun e w'=>e=.returned (.bool (decide (f.fact∈facts fs)))∧Wd Γ S w':=by
 refine calls_of_W Tryz.func13 rfl rfl ?_
 repeat first|refine byW ?_|refine byV ?_;intro w hw
 refine lBox ?_;intro b w hw;have hw:Wd Γ (boxF b f::S) w:=hw
 repeat first|refine byW ?_|refine byV ?_;intro w hw
 refine lCall (vs:=[v,.func (.func 42) #[] #[.pointer (some ⟨b,0,none⟩)]]) ?_
 refine calls_of_W Tryz.func41 rfl rfl ?_
 repeat first|refine byW ?_|refine byV ?_;intro w hw
 refine lCall (vs:=[v,.func (.func 42) #[] #[.pointer (some ⟨b,0,none⟩)]]) ?_
 refine(IndexFuncF_any (eqcl_contains hf) fs hok hr hw).mono ?_
 clear hw;rintro e w ⟨i,rfl,hi,hw⟩
 refine⟨_,rfl,?_⟩;repeat first|refine byW ?_|refine byV ?_;intro w hw
 refine⟨_,rfl,_,rfl,?_⟩
 repeat first|refine byW ?_|refine byV ?_;intro w hw
 exact⟨_,rfl,ret_b rfl hi.mem,hw.drop⟩
end
end Go.Proofs.YtfoggcgogafocaaGreatDoor
end
section
open Go Mk
namespace Go.Proofs.YtfoggcgogafocaaGreatDoor
set_option maxHeartbeats 16000000
def awT:ByteArray:=⟨#[99,111,114,101,40,48,44,32,51,50,44,32,48,44,32,49,48,48,41,46]⟩
def awX:Fact:=(⟨#[99,111,114,101]⟩,[⟨1,0,⟨#[]⟩⟩,⟨1,32,⟨#[]⟩⟩,⟨1,0,⟨#[]⟩⟩,⟨1,100,⟨#[]⟩⟩])
def awY:Fact:=(⟨#[112]⟩,[⟨1,-5,⟨#[]⟩⟩,⟨2,0,⟨#[97,32,98]⟩⟩])
def awZ:ByteArray:=⟨#[112,40,45,53,44,32,34,97,32,98,34,41,46,10]⟩
theorem awParse:parseF awT=([awX],⟨0,0⟩,0):=by decide +kernel
theorem awFormat:formatF [awY]=awZ:=by
 have h1:Lib.decDigits 5=[53]:=Lib.decDigits_one (by decide)
 have h2:valS ⟨1,-5,⟨#[]⟩⟩=⟨#[45,53]⟩:=by
  show (⟨(Lib.itoa (-5)).toArray⟩:ByteArray)=_
  unfold Lib.itoa;rw[if_pos (by decide),show (-5:Int).natAbs=5 from rfl,h1]
 have h3:valS ⟨2,0,⟨#[97,32,98]⟩⟩=⟨#[34,97,32,98,34]⟩:=by decide +kernel
 have h4:formatF [awY]=⟨(lineL awY++[]).toArray⟩:=by
  unfold formatF formatL;rw[show setS [awY]=[awY] from rfl,if_pos (by decide +kernel)];rfl
 have h5:lineFB awY=((⟨#[112]⟩++lparB)++joinB [⟨#[45,53]⟩,⟨#[34,97,32,98,34]⟩])++endLB:=by
  unfold lineFB;rw[show awY.2.map valS=[valS ⟨1,-5,⟨#[]⟩⟩,valS ⟨2,0,⟨#[97,32,98]⟩⟩] from rfl,h2,h3];rfl
 rw[h4];unfold lineL;rw[h5];decide +kernel
theorem awOk:FactOk awY:=by
 refine⟨by decide,by decide,fun v hv=>?_⟩
 have:v=⟨1,-5,⟨#[]⟩⟩∨v=⟨2,0,⟨#[97,32,98]⟩⟩:=by simpa[awY] using hv
 rcases this with rfl|rfl
 ·exact⟨by decide,by decide⟩
 ·exact⟨by decide,by decide⟩
attribute [local irreducible] Calls cFact parseF formatF
theorem awake4_any{Γ:Gho}{S:List Res}{w:World}[hT:TabG Γ](hw:Wd Γ S w):Calls Tryz.prog 5 #[] w fun e w'=>∃Γ',Γ.le Γ'∧e=.returned (.bool true)∧Wd Γ' S w':=by
 refine calls_of_W Tryz.func5 rfl rfl ?_
 repeat first|refine byW ?_|refine byV ?_;intro w hw
 refine lCall (vs:=[.string awT]) ?_
 refine(FParse_any awT (by decide) hw).mono ?_
 clear hw;rintro r w ⟨Γ1,v1,gs,hle1,rfl,hgs,hok,hw⟩
 rw[awParse]at hgs ⊢
 refine⟨_,rfl,?_⟩;haveI hT1:TabG Γ1:=hT.mono hle1
 obtain⟨a,n,c,rfl,hn,hnc,hc⟩:=hw.own_shape (i:=0) rfl
 simp only[List.length_map]at hn
 obtain⟨⟨gr,ga,gn,gc,ys⟩,rfl,hg⟩:∃g:FactH,gs=[g]∧g.fact=awX:=by
  unfold facts at hgs;cases gs with
  | nil=>exact absurd (congrArg List.length hgs) (by simp)
  | cons g gs=>
   cases gs with
   | nil=>exact⟨g,rfl,(List.cons.inj hgs).1⟩
   | cons g2 gs=>exact absurd (congrArg List.length hgs) (by simp)
 simp only[List.length_cons,List.length_nil,Nat.zero_add]at hn
 subst hn;obtain⟨hfg,hog⟩:=hok _ List.mem_cons_self
 obtain⟨l1,l2,l3⟩:=hfg.len;have l4:ys=awX.2:=congrArg Prod.snd hg
 have l1:gn=ys.length:=l1
 rw[l4]at l1;have l1:gn=4:=l1
 subst l1;have l4':ys.length=4:=by rw[l4];rfl
 repeat first|refine byW ?_|refine byV ?_;intro w hw
 refine lAlloc ?_;intro b2 w hw;repeat first|refine byW ?_|refine byV ?_;intro w hw
 refine lStore ?_;intro w hw;have hw:Wd Γ1 (.blk b2 (.cells (enc (⟨0,0⟩:PosT)).toArray 63)::.own (.slice a 1 c) 45 2 ([(⟨gr,ga,4,gc,ys⟩:FactH)].map cF)::S) w:=hw
 have hw:Wd Γ1 (.own (.slice a 1 c) 45 2 ([(⟨gr,ga,4,gc,ys⟩:FactH)].map cF)::S) w:=hw.drop
 repeat first|refine byW ?_|refine byV ?_;intro w hw
 refine lBuildSlice [enc (⟨1,-5,⟨#[]⟩⟩:Val),enc (⟨2,0,⟨#[97,32,98]⟩⟩:Val)] ?_
 intro a12 w hw;repeat first|refine byW ?_|refine byV ?_;intro w hw
 refine lCall (vs:=[.string ⟨#[112]⟩,.slice (some a12) 2 2]) ?_
 refine(Fact_any Γ1 _ w _ ⟨#[112]⟩ awY.2 (RdS.own (i:=0) hw rfl) (by decide) hw).mono ?_
 clear hw;rintro e w ⟨⟨fr,fa,fn,fc,xs⟩,rfl,hff,hw⟩
 refine⟨_,rfl,?_⟩;have hff:(fr,xs)=awY:=hff
 obtain⟨Γ2,hle2,hfo,hw⟩:=hw.freeze;have hfo:FOk Γ2 ⟨fr,fa,fn,fc,xs⟩:=hfo
 haveI hT2:TabG Γ2:=hT1.mono hle2
 have hw:Wd Γ2 (.own (.slice a 1 c) 45 2 ([(⟨gr,ga,4,gc,ys⟩:FactH)].map cF)::S) w:=hw.drop
 repeat first|refine byW ?_|refine byV ?_;intro w hw
 refine lAlloc ?_;intro b4 w hw;repeat first|refine byW ?_|refine byV ?_;intro w hw
 refine lStore ?_;intro w hw;have hw:Wd Γ2 (.blk b4 (.cells (cF ⟨fr,fa,fn,fc,xs⟩).toArray 45)::.own (.slice a 1 c) 45 2 ([(⟨gr,ga,4,gc,ys⟩:FactH)].map cF)::S) w:=hw
 have hg0:[(⟨gr,ga,4,gc,ys⟩:FactH)][0]? = some ⟨gr,ga,4,gc,ys⟩:=rfl
 have hokF:FsOk Γ2 [(⟨fr,fa,fn,fc,xs⟩:FactH)]:=fun x hx=>by
  rw[List.mem_singleton.1 hx];exact⟨hfo,by show FactOk (fr,xs);rw[hff];exact awOk⟩
 repeat(first|(first|refine W_seq ?_|refine W_block ?_|refine W_region ?_|refine W_skip ?_|refine W_ret ?_|refine W_exit ?_)|((first|apply L_bin|apply L_notop);first|(refine lT ?_ ?_;(first|exact rfl|exact decide_eq_true rfl|(simp;done)))|(refine lF ?_ ?_;(first|exact rfl|exact decide_eq_true rfl|(simp;done))))|(first|refine L_nil ?_|(apply L_plain;first|(apply L_go;first|refine lP ?_|(refine lPg ?_;intro w hw))|(apply L_mf;refine lMakeFunc ?_)|refine lY ?_)|(apply L_guarded;first|refine lGT ?_|refine lGF ?_|(apply L_go;first|refine lPG ?_|(refine lPgG ?_;intro w hw))|refine lG ?_))|(refine lAlloc ?_;intro _ w hw)|(refine lBox ?_;intro _ w hw)|(refine lStore ?_;intro w hw))
 refine lBuildSlice [cF ⟨fr,fa,fn,fc,xs⟩] ?_
 intro a31 w hw;repeat(first|(first|refine W_seq ?_|refine W_block ?_|refine W_region ?_|refine W_skip ?_|refine W_ret ?_|refine W_exit ?_)|((first|apply L_bin|apply L_notop);first|(refine lT ?_ ?_;(first|exact rfl|exact decide_eq_true rfl|(simp;done)))|(refine lF ?_ ?_;(first|exact rfl|exact decide_eq_true rfl|(simp;done))))|(first|refine L_nil ?_|(apply L_plain;first|(apply L_go;first|refine lP ?_|(refine lPg ?_;intro w hw))|(apply L_mf;refine lMakeFunc ?_)|refine lY ?_)|(apply L_guarded;first|refine lGT ?_|refine lGF ?_|(apply L_go;first|refine lPG ?_|(refine lPgG ?_;intro w hw))|refine lG ?_))|(refine lAlloc ?_;intro _ w hw)|(refine lBox ?_;intro _ w hw)|(refine lStore ?_;intro w hw))
 refine lCall (vs:=[.slice (some a31) 1 1]) ?_
 refine(Format_any [(⟨fr,fa,fn,fc,xs⟩:FactH)] hokF (by simp) (RdS.own (i:=0) hw rfl) hw).mono ?_
 clear hw;rintro e w ⟨Γ3,hle3,rfl,hw⟩
 refine⟨_,rfl,?_⟩;rw[show formatF (facts [(⟨fr,fa,fn,fc,xs⟩:FactH)])=awZ from by rw[show facts [(⟨fr,fa,fn,fc,xs⟩:FactH)]=[(fr,xs)] from rfl,hff];exact awFormat]
 have hw:Wd Γ3 (.blk b4 (.cells (cF ⟨fr,fa,fn,fc,xs⟩).toArray 45)::.own (.slice a 1 c) 45 2 ([(⟨gr,ga,4,gc,ys⟩:FactH)].map cF)::S) w:=hw.drop
 have hC:PG Tryz.prog Γ3 25 [.agg (cF ⟨fr,fa,fn,fc,xs⟩).toArray,.agg (cF ⟨fr,fa,fn,fc,xs⟩).toArray] (.int .i64 0):=by
  have:=pg_cmpF (hfo.mono hle3) (hfo.mono hle3)
  rwa [cFact_ord.refl]at this
 have hle13:Γ1.le Γ3:=hle2.trans hle3
 repeat(first|(first|refine W_seq ?_|refine W_block ?_|refine W_region ?_|refine W_skip ?_|refine W_ret ?_|refine W_exit ?_)|((first|apply L_bin|apply L_notop);first|(refine lT ?_ ?_;(first|exact rfl|exact decide_eq_true rfl|(simp;done)))|(refine lF ?_ ?_;(first|exact rfl|exact decide_eq_true rfl|(simp;done))))|(first|refine L_nil ?_|(apply L_plain;first|(apply L_go;first|refine lP ?_|(refine lPg ?_;intro w hw))|(apply L_mf;refine lMakeFunc ?_)|refine lY ?_)|(apply L_guarded;first|refine lGT ?_|refine lGF ?_|(apply L_go;first|refine lPG ?_|(refine lPgG ?_;intro w hw))|refine lG ?_))|(refine lAlloc ?_;intro _ w hw)|(refine lBox ?_;intro _ w hw)|(refine lStore ?_;intro w hw))
 refine lCall (vs:=[.slice a 1 c,.agg (cF ⟨gr,ga,4,gc,ys⟩).toArray]) ?_
 refine(ContainsF_any [(⟨gr,ga,4,gc,ys⟩:FactH)] (hok.mono hle13) (hfg.mono hle13) (RdS.own (i:=1) hw rfl) hw).mono ?_
 clear hw;rintro e w ⟨rfl,hw⟩
 rw[decide_eq_true (show FactH.fact ⟨gr,ga,4,gc,ys⟩∈facts [(⟨gr,ga,4,gc,ys⟩:FactH)] from List.mem_cons_self)]
 refine⟨_,rfl,?_⟩;repeat(first|(first|refine W_seq ?_|refine W_block ?_|refine W_region ?_|refine W_skip ?_|refine W_ret ?_|refine W_exit ?_)|((first|apply L_bin|apply L_notop);first|(refine lT ?_ ?_;(first|exact rfl|exact decide_eq_true rfl|(simp;done)))|(refine lF ?_ ?_;(first|exact rfl|exact decide_eq_true rfl|(simp;done))))|(first|refine L_nil ?_|(apply L_plain;first|(apply L_go;first|refine lP ?_|(refine lPg ?_;intro w hw))|(apply L_mf;refine lMakeFunc ?_)|refine lY ?_)|(apply L_guarded;first|refine lGT ?_|refine lGF ?_|(apply L_go;first|refine lPG ?_|(refine lPgG ?_;intro w hw))|refine lG ?_))|(refine lAlloc ?_;intro _ w hw)|(refine lBox ?_;intro _ w hw)|(refine lStore ?_;intro w hw))
 exact⟨_,rfl,Γ3,hle1.trans hle13,rfl,hw.ds [0,0]⟩
end Go.Proofs.YtfoggcgogafocaaGreatDoor
end
section
open Go Mk
namespace Go.Proofs.YtfoggcgogafocaaGreatDoor
set_option maxHeartbeats 16000000
attribute [local irreducible] Calls cFact
def allG0(w:World):Gho:={ allG w with dr:=0 }
theorem allG0_wd(w:World):Wd (allG0 w) [] w:=⟨rfl,rfl,rfl,Nat.zero_le _,fun b o h=>h,[],trivial,by simp,by simp⟩
theorem wd_kept0{Γ:Gho}{S:List Res}{w w':World}(h0:Γ.dr=0)(h:Wd Γ S w)(h':Wd (allG0 w) [] w'):Wd Γ S w':=by
 obtain⟨h1,h2,h3,h4,h5,bss,h6,h7,h8⟩:=h;obtain⟨k1,k2,k3,k4,k5,-⟩:=h';have hk:∀b∈bss.flatten,w'.heap[b]? = w.heap[b]?:=fun b hb=>by
  have hl:=(h8 b hb).1
  have e:w.heap[b]? = some w.heap[b]:=Array.getElem?_eq_getElem hl
  rw[e];exact k5 b _ e
 refine⟨k1.trans h1,k2.trans h2,k3.trans h3,by rw[h0];exact Nat.zero_le _,fun b o hb=>k5 b o (h5 b o hb),bss,Holds.loc (fun b o h=>h) S bss (fun b hb=>hk b hb) h6,h7,fun b hb=>⟨?_,(h8 b hb).2⟩⟩
 have hl:=(h8 b hb).1
 have e:w.heap[b]? = some w.heap[b]:=Array.getElem?_eq_getElem hl
 have:=hk b hb
 rw[e]at this;exact(Array.getElem?_eq_some_iff.1 this).1
theorem tabIs_keep{P:Program}{w w':World}{name:String}{k:IntKind}{zs:List Int}(h:Lib.TabIs P w name k zs)(hk:∀(b:Nat) (o:Obj),w.heap[b]? = some o→w'.heap[b]? = some o):Lib.TabIs P w' name k zs:=by
 unfold Lib.TabIs World.var? at *
 cases hg:P.globalNamed name with
 | none=>rw[hg]at h;cases h
 | some g=>
  rw[hg]at h;simp only[Option.bind_some]at h ⊢
  cases hb:w.heap[g]? with
  | none=>rw[hb]at h;cases h
  | some o=>
   rw[hb]at h;rw[hk g o hb];exact h
theorem tabG_all{w:World}(h:Lib.TabIs Tryz.prog w "internal/strconv.uint64pow10" .u64 Lib.pow10Tab):TabG (allG0 w):=⟨fun S w' hw=>tabIs_keep h fun b o hb=>hw.imm b o hb,rfl⟩
theorem pg_of_all{Γ:Gho}[hT:TabG Γ]{f:Nat}{args:List Value}{v:Value}(h:∀w,TabG (allG0 w)→(∀b o,Γ.imm b=some o→(allG0 w).imm b=some o)→Calls Tryz.prog f args.toArray w fun e w'=>∃Γ',(allG0 w).le Γ'∧e=.returned v∧Wd Γ' [] w'):PG Tryz.prog Γ f args v:=⟨fun S w hw=>
 (h w (tabG_all (hT.h S w hw)) hw.imm).mono fun e w' ⟨Γ',hle,he,hw'⟩=>⟨he,wd_kept0 hT.dr hw (wd_less hle hw')⟩⟩
instance pg_awake{Γ:Gho}[hT:TabG Γ]:PG Tryz.prog Γ 5 [] (.bool true):=pg_of_all fun w hT' _=>awake4_any (hT:=hT') (allG0_wd w)
end Go.Proofs.YtfoggcgogafocaaGreatDoor
end
section
open Go Mk
open Go.ChangeShapes Go.WideShapes Go.ChangeAt Go.RowKit
namespace Go.Proofs.YtfoggcgogafocaaGreatDoor
theorem own_knob:ownKnob Tryz.prog.godebug=none:=by kernel_rfl
theorem keptBut_wd{W W':World}{S:List Res}(h:Wd (allG0 W) S W')(may:MemPlace→Prop):W.keptBut W' may:=by
 refine⟨h.os,h.out,fun i hi=>?_⟩
 have h1:W.heap[i]? = some W.heap[i]:=Array.getElem?_eq_getElem hi
 have h2:=h.imm i W.heap[i] h1
 rw[h1,h2];cases W.heap[i] <;> simp
theorem post_wd{H:Type}{enc:TypeId×Value→H}{f:Func}{s:ChangeSpec}{W W':World}{S:List Res}{args:Array Value}{v:Value}{ds gs:List (DataW H)}{before pa pv:List MemPlace}{apart:Bool}
  (hW:DataW.Whole enc Tryz.prog f.params.toList s.vars apart W args.toList ds gs before)
  (hres:∀(b:Nat) (sp:Nat→Bool) (hd:Bool),DataW.TrodAll enc Tryz.prog W' b sp hd f.resultTypes.toList (v.resultList f.resultTypes.size) (s.fn H (ds++gs)).results [])
  (hargs:∀sp:Nat→Bool,(∀p∈before,sp p.block=true)→DataW.TrodAll enc Tryz.prog W' 0 sp true f.params.toList args.toList (s.fn H (ds++gs)).args pa)
  (hvars:∀sp:Nat→Bool,(∀p∈before,sp p.block=true)→DataW.TrodVars enc Tryz.prog W' sp s.vars (s.fn H (ds++gs)).vars pv)
  (hps:before=pa++pv) (hk:Wd (allG0 W) S W'):s.post enc Tryz.prog f apart true false false W args v W':=by
 have hold:∀p∈before,(fun b=>decide (b<W.heap.size)) p.block=true:=fun p hp=>by simpa using hW.lt p hp
 exact⟨ds,gs,before,[],pa,pv,hW,hres _ _ _,hargs _ hold,hvars _ hold,keptBut_wd hk _,fun h=>by cases h⟩
section
variable {H:Type}{en:TypeId×Value→H}{W W':World}{base:Nat}{sp:Nat→Bool}{held:Bool}{S:List Res}
theorem flat_inv{sz:Nat}:∀ {rows:List (List Value)},(∀r∈rows,r.length=sz)→∀ {j:Nat} {u:Value},rows.flatten[j]? = some u→∃i r row,rows[i]? = some row∧row[r]? = some u∧j=i*sz+r
 | [],_,j,u,h=>by simp at h
 | a::rows,hl,j,u,h=>by
  rw[List.flatten_cons]at h;by_cases hj:j<a.length
  ·rw[List.getElem?_append_left hj]at h;exact⟨0,j,a,rfl,h,by omega⟩
  ·rw[List.getElem?_append_right (by omega)]at h
   obtain⟨i,r,row,h1,h2,h3⟩:=flat_inv (fun r hr=>hl r (List.mem_cons_of_mem _ hr)) h
   have ha:=hl a (List.mem_cons_self ..)
   refine⟨i+1,r,row,by simpa using h1,h2,?_⟩
   rw[Nat.add_mul,Nat.one_mul];omega
theorem read_slice{α:Type}[Inhabited α]{F:α→List Value}{p:α→Prop}{t e sz:Nat}(hc:Tryz.prog.cellsOf e=sz)(h0:0<sz)(hF:∀x,(F x).length=sz)(ht:Tryz.prog.underlying t=some (.slice e))
  (hel:∀ {n:Nat} {cs:List Value} {y:DataW H×List MemPlace},DataW.trod en Tryz.prog W base sp held n e cs=some y→∃x:α,cs=F x∧p x)
  {n:Nat} {v:Value} {y:DataW H×List MemPlace} (h:DataW.trod en Tryz.prog W base sp held n t [v]=some y):∃xs:List α,RepS (allG0 W) v sz (xs.map F)∧∀x∈xs,p x:=by
 rcases Deep.open_slice ht h with⟨h0,-⟩|⟨a,len,cap,m,k,D,Pl,h1,-,hlc,hcm,hm,-,hel2⟩
 ·cases h0
  exact⟨[],RepS.nil,fun x hx=>by cases hx⟩
 ·cases h1
  have hlm:len≤m:=by rw[hm];split <;> omega
  have hx:∀i,i<len→∃x:α,p x∧∀j u,(F x)[j]? = some u→W.cell? (a.add (i*sz+j))=some u:=fun i hi=>by
   obtain⟨cs',h1,h2⟩:=hel2 i (by omega)
   rw[hc]at h1;obtain⟨-,hl,hat⟩:=World.cells?_some h1
   obtain⟨x,rfl,hp⟩:=hel h2
   refine⟨x,hp,fun j u hu=>?_⟩
   have hj:j<sz:=by rw[←hl];exact(List.getElem?_eq_some_iff.1 hu).1
   have:=hat j hj
   rw[hu,Go.Deep.add_add]at this;exact this
  obtain⟨f,hf⟩:∃f:Nat→α,∀i,i<len→p (f i)∧∀j u,(F (f i))[j]? = some u→W.cell? (a.add (i*sz+j))=some u:=by
   refine⟨fun i=>if hi:i<len then (hx i hi).choose else default,fun i hi=>?_⟩
   simp only[hi,dif_pos]
   exact(hx i hi).choose_spec
  refine⟨(List.range len).map f,?_,fun x hx=>?_⟩
  ·unfold RepS;refine⟨fun r hr=>?_,some a,len,cap,rfl,by simp,hlc,hcm,fun hpos=>?_⟩
   ·obtain⟨x,-,rfl⟩:=List.mem_map.1 hr
    exact hF x
   ·have hpos:0<len:=by simpa using hpos
    obtain⟨u0,hu0⟩:∃u,(F (f 0))[0]? = some u:=⟨_,List.getElem?_eq_getElem (by rw[hF];exact h0)⟩
    have h00:=(hf 0 hpos).2 0 u0 hu0
    obtain⟨g,o,spt⟩:=a;have h01:W.cell? ⟨g,o,spt⟩=some u0:=by
     rw[Nat.zero_mul]at h00;simpa[Addr.add] using h00
    unfold World.cell? at h01
    cases hg:W.heap[g]? with
    | none=>rw[hg]at h01;simp at h01
    | some ob=>
     rw[hg]at h01;cases ob with
     | cells cur e fr=>
      cases spt with
      | some q=>simp at h01
      | none=>
       refine⟨g,o,cur,e,fr,rfl,hg,fun j u hj=>?_⟩
       obtain⟨i,r,row,h1,h2,h3⟩:=flat_inv (sz:=sz) (rows:=((List.range len).map f).map F) (fun r hr=>by
        obtain⟨x,-,rfl⟩:=List.mem_map.1 hr
        exact hF x) hj
       rw[List.getElem?_map,List.getElem?_map]at h1;have hi:i<len:=by
        by_cases hi:i<len
        ·exact hi
        ·rw[List.getElem?_eq_none (by simpa using hi)]at h1;simp at h1
       rw[List.getElem?_range hi]at h1;simp only[Option.map_some,Option.some.injEq]at h1
       subst h1;have h4:W.cell? ⟨g,o+(i*sz+r),none⟩=some u:=by
        have h5:=(hf i hi).2 r u h2
        rwa [show Addr.add ⟨g,o,none⟩ (i*sz+r)=⟨g,o+(i*sz+r),none⟩ from by
         unfold Addr.add;by_cases h0:i*sz+r=0
         ·rw[if_pos h0,h0];rfl
         ·rw[if_neg h0]]at h5
       unfold World.cell? at h4
       rw[hg]at h4;rw[h3];simpa using h4
     | _=>simp at h01
  ·obtain⟨i,hi,rfl⟩:=List.mem_map.1 hx
   exact(hf i (List.mem_range.1 hi)).1
theorem carry_all(hk:Wd (allG0 W) S W'):∀ {ts:List TypeId} {vs:List Value} {ds:List (DataW H)} {ps:List MemPlace},DataW.TrodAll en Tryz.prog W base sp held ts vs ds ps→(∀p∈ps,p.block<W.heap.size)→DataW.TrodAll en Tryz.prog W' base sp held ts vs ds ps
 | [],[],[],_,h,_=>h
 | _::_,_::_,_::_,_,⟨p,q,⟨n,h1⟩,h2,e⟩,hs=>⟨p,q,⟨n,DataW.trod_carry n _ _ _ h1 fun x hx=>by
   have hb:=hs x (by rw[e];exact List.mem_append_left _ hx)
   cases x with
   | cell b off=>
    have h3:W'.heap[b]? = W.heap[b]?:=by
     have h4:W.heap[b]? = some (W.heap[b]'hb):=Array.getElem?_eq_getElem hb
     rw[h4];exact hk.imm b _ h4
    show W'.cell? _=W.cell? _
    unfold World.cell?
    rw[h3]
   | map b=>
    have h4:W.heap[b]? = some (W.heap[b]'hb):=Array.getElem?_eq_getElem hb
    show W'.heap[b]? = W.heap[b]?
    rw[h4];exact hk.imm b _ h4⟩,carry_all hk h2 (fun x hx=>hs x (by rw[e];exact List.mem_append_right _ hx)),e⟩
end
theorem own_kids:Kids Tryz.prog (· < Tryz.prog.types.size):=kids_rows (by kernel_rfl) (by kernel_rfl)
theorem own_full:∀t e,t<Tryz.prog.types.size→Tryz.prog.underlying t=some (.slice e)→0<Tryz.prog.cellsOf e:=slices_full_of _ (by kernel_rfl)
abbrev laidL:List (String×DataW Unit):=[("math/bits.deBruijn32tab",Rows.laid_math_bits_deBruijn32tab),("math/bits.deBruijn64tab",Rows.laid_math_bits_deBruijn64tab),("internal/strconv.uint64pow10",Rows.laid_internal_strconv_uint64pow10)]
theorem of_laid{W:World}(h:laidMetH Tryz.prog laidL W):Lib.TabIs Tryz.prog W "internal/strconv.uint64pow10" .u64 Lib.pow10Tab:=by
 rw[MakeChecks.laidMetH_plain _ _ _ (by kernel_rfl)]at h
 have h3:=laidMet.tail (laidMet.tail h)
 exact Lib.tabIs_of_head (rest:=[]) (g:=lay_fmti_ren.g 17) (by kernel_rfl) (by kernel_rfl) Tryz.underlying241 Tryz.underlying36 (by kernel_rfl) (by kernel_rfl) h3
end Go.Proofs.YtfoggcgogafocaaGreatDoor
end
section
open Go Mk
namespace Go.Proofs.YtfoggcgogafocaaGreatDoor
set_option maxHeartbeats 4000000
attribute [local irreducible] Calls nextP
section
variable {Γ:Gho}{S:List Res}{w:World}{bp:Nat}{a:Option Addr}{n c at':Nat}{e:PosT}{toks:List Tok}
end
end Go.Proofs.YtfoggcgogafocaaGreatDoor
end
section
open Go Mk
namespace Go.Proofs.YtfoggcgogafocaaGreatDoor
set_option maxHeartbeats 4000000
attribute [local irreducible] Calls nextP numberP expectP isS posOf
def baseB:ByteArray:=⟨#[98,97,115,101]⟩
def sizeB:ByteArray:=⟨#[115,105,122,101]⟩
def coresB:ByteArray:=⟨#[99,111,114,101,115]⟩
def moreN(toks:List Tok)(e:PosT)(limited cores:Bool):Nat→Nat→List Int→PR (List Int)
 | 0,k,acc=>.ok (acc,k)
 | f+1,k,acc=>if (cores&&isS toks k 4 commaB)=true then (match numberP toks e limited (k+1) with|.ok (v,k1)=>moreN toks e limited cores f k1 (acc++[v])|.error q=>.error q) else .ok (acc,k)
def limB(s:ByteArray):Bool:=decide (s≠baseB)&&decide (s≠sizeB)
def oneAttr(toks:List Tok)(e:PosT)(names:List ByteArray)(got:List (ByteArray×List Int))(k:Nat):PR (ByteArray×List Int):=
 match nextP toks e 1 k with
 | .error q=>.error q
 | .ok (t,_)=>
  if memB t.Text names=false then .error (posOf toks k e,50)
  else if memB t.Text (got.map (·.1))=true then .error (posOf toks k e,56)
  else match numberP toks e (limB t.Text) (k+1) with
   | .error q=>.error q
   | .ok (v,k1)=>match moreN toks e (limB t.Text) (decide (t.Text=coresB)) (toks.length+1) k1 [v] with
    | .error q=>.error q
    | .ok (l,k2)=>match expectP toks e 4 semiB k2 with
     | .error q=>.error q
     | .ok (_,k3)=>.ok ((t.Text,l),k3)
def attrN(toks:List Tok)(e:PosT)(names:List ByteArray):Nat→Nat→List (ByteArray×List Int)→PR (List (ByteArray×List Int))
 | 0,k,got=>.ok (got,k)
 | f+1,k,got=>if isS toks k 4 closeB=true then .ok (got,k) else
  match oneAttr toks e names got k with
  | .error q=>.error q
  | .ok (p,k3)=>attrN toks e names f k3 (got++[p])
end Go.Proofs.YtfoggcgogafocaaGreatDoor
end
section
open Go Mk
namespace Go.Proofs.YtfoggcgogafocaaGreatDoor
set_option maxHeartbeats 4000000
attribute [local irreducible] Calls nextP numberP expectP isS posOf moreN memB
abbrev strRows(l:List ByteArray):List (List Value):=l.map fun x=>[.string x]
section
variable {Γ:Gho}{S:List Res}{w:World}{bp:Nat}{a:Option Addr}{n c at':Nat}{e:PosT}{toks:List Tok}
end
end Go.Proofs.YtfoggcgogafocaaGreatDoor
end
section
open Go Mk
namespace Go.Proofs.YtfoggcgogafocaaGreatDoor
set_option maxHeartbeats 4000000
attribute [local irreducible] Calls nextP numberP expectP isS posOf memB nameP
structure CoreT where
 ID:Int
 Width:Int
 Node:Int
 Speed:Int
 deriving DecidableEq,Inhabited
instance:GoT CoreT where
 enc a:=[.int .i64 a.ID,.int .i64 a.Width,.int .i64 a.Node,.int .i64 a.Speed]
 inj a b h:=by cases a;cases b;simp at h;simp[h]
 ks:=[5,5,5,5]
 kinds a:=rfl
structure LinkT where
 A:Int
 B:Int
 Latency:Int
 deriving DecidableEq,Inhabited
instance:GoT LinkT where
 enc a:=[.int .i64 a.A,.int .i64 a.B,.int .i64 a.Latency]
 inj a b h:=by cases a;cases b;simp at h;simp[h]
 ks:=[5,5,5]
 kinds a:=rfl
structure MemT where
 Name:ByteArray
 Base:Int
 Size:Int
 Node:Int
 Latency:Int
 deriving DecidableEq,Inhabited
instance:GoT MemT where
 enc a:=[.string a.Name,.int .u64 a.Base,.int .u64 a.Size,.int .i64 a.Node,.int .i64 a.Latency]
 inj a b h:=by cases a;cases b;simp at h;simp[h]
 ks:=[1,9,9,5,5]
 kinds a:=rfl
structure DevT where
 Name:ByteArray
 Node:Int
 IRQ:Int
 Base:Int
 Size:Int
 deriving DecidableEq,Inhabited
instance:GoT DevT where
 enc a:=[.string a.Name,.int .i64 a.Node,.int .i64 a.IRQ,.int .u64 a.Base,.int .u64 a.Size]
 inj a b h:=by cases a;cases b;simp at h;simp[h]
 ks:=[1,5,5,9,9]
 kinds a:=rfl
structure CacheT where
 Name:ByteArray
 Level:Int
 Line:Int
 Size:Int
 Cores:List Int
 deriving DecidableEq,Inhabited
structure CacheH where
 Name:ByteArray
 Level:Int
 Line:Int
 Size:Int
 A:Option Addr
 N:Nat
 C:Nat
 Cores:List Int
def CacheH.T(c:CacheH):CacheT:=⟨c.Name,c.Level,c.Line,c.Size,c.Cores⟩
def cC(c:CacheH):List Value:=[.string c.Name,.int .i64 c.Level,.int .i64 c.Line,.int .u64 c.Size,.slice c.A c.N c.C]
def intRows(l:List Int):List (List Value):=l.map fun x=>[.int .i64 x]
def COk(Γ:Gho)(c:CacheH):Prop:=RepS Γ (.slice c.A c.N c.C) 1 (intRows c.Cores)
structure HwT where
 Name:ByteArray
 Cores:List CoreT
 Caches:List CacheT
 Links:List LinkT
 Mems:List MemT
 Devs:List DevT
 deriving DecidableEq
def coreB:ByteArray:=⟨#[99,111,114,101]⟩
def cacheB:ByteArray:=⟨#[99,97,99,104,101]⟩
def linkB:ByteArray:=⟨#[108,105,110,107]⟩
def memoryB:ByteArray:=⟨#[109,101,109,111,114,121]⟩
def deviceB:ByteArray:=⟨#[100,101,118,105,99,101]⟩
theorem nodup_le{α:Type}[DecidableEq α]:∀(ks L:List α),ks.Nodup→(∀x∈ks,x∈L)→ks.length≤L.length
 | [],_,_,_=>Nat.zero_le _
 | k::ks,L,hn,hs=>by
  have hk:=hs k (List.mem_cons_self ..)
  have h1:=nodup_le ks (L.erase k) (List.nodup_cons.1 hn).2 fun x hx=>by
   refine(List.mem_erase_of_ne ?_).2 (hs x (List.mem_cons_of_mem _ hx))
   rintro rfl;exact(List.nodup_cons.1 hn).1 hx
  rw[List.length_erase_of_mem hk]at h1;have:=List.length_pos_of_mem hk
  simp;omega
end Go.Proofs.YtfoggcgogafocaaGreatDoor
end
section
open Go Mk
open Go.ChangeShapes Go.WideShapes Go.ChangeAt Go.RowKit
namespace Go.Proofs.YtfoggcgogafocaaGreatDoor
section
variable {H:Type}{en:TypeId×Value→H}{W W':World}{base:Nat}{sp:Nat→Bool}{held:Bool}{S:List Res}
def okI(n:Int):Prop:=-9223372036854775808≤n∧n≤9223372036854775807
theorem read_i{n:Nat}{cs:List Value}{y:DataW H×List MemPlace}(h:DataW.trod en Tryz.prog W base sp held n 3 cs=some y):∃x:Int,cs=[.int .i64 x]∧okI x:=by
 obtain⟨a,ha,-,hw⟩:=DataW.trod_int Tryz.underlying3 h
 subst ha;refine⟨a,rfl,?_⟩
 simp only[Lit.wf,IntKind.min,IntKind.max,IntKind.bits,IntKind.signed]at hw
 simpa[okI] using hw
theorem read_ints{n:Nat}{v:Value}{y:DataW H×List MemPlace}(h:DataW.trod en Tryz.prog W base sp held n 22 [v]=some y):∃xs:List Int,RepS (allG0 W) v 1 (intRows xs)∧∀x∈xs,okI x:=
 read_slice (F:=fun x:Int=>[.int .i64 x]) (sz:=1) (e:=3) (by kernel_rfl) (by decide) (fun x=>rfl) Tryz.underlying22 (fun h=>read_i h) h
end
end Go.Proofs.YtfoggcgogafocaaGreatDoor
end
section
open Go
namespace Mk
attribute [local irreducible] Calls
section
variable {P:Program}{n:Nat}{ops:List Oper}{Γ:Gho}{K:List Res}{wr tc stab:List (List Nat)}{Q:Fr→World→Prop}{i:Nat}{rest:List Oper}{ρ:Fr}{M:Nat→Fr→List Res}
variable {d:Option Tmp}{ty:TypeId}{pos:String}{es:Array Edge}{f:Nat}{args:List Operand}{tys:Array TypeId}
theorem mCallG{c:Nat}{F:Fr→List Res}(F':Fr→List Res)(vs:Fr→List Value)[FnOk P f]
  (hs:∀g w Y,Wd Γ (F (ovr (stab.getD c []) g noFr)++(K++Y)) w→Calls P f (vs (ovr (stab.getD c []) g noFr)).toArray w fun e w'=>∃u,e=.returned u∧Wd Γ (F' (ovr (stab.getD c []) (putO g d u) noFr)++(K++Y)) w')
  (h:MSw (mV P n ops Γ K wr tc stab) Q (i+1) rest ⟨putO ρ d undef,setC M c F'⟩) (hM:M c=F:=by first|exact setC_self|exact ml1|exact ml2|exact((setC_other (by decide)).trans setC_self)|exact rfl) (hw0:wr.getD i []=[c]:=by exact rfl) (ht:tc.getD i []=[c]:=by exact rfl) (hfr:freeD stab d=true:=by exact rfl) (ha:∀g,EvL (ovr stab.flatten g ρ) args (vs (ovr (stab.getD c []) g noFr)):=by intro g;exact byEV) :
  MSw (mV P n ops Γ K wr tc stab) Q i (⟨d,.call { callee:=.value (.func f),args:=args.toArray,argTypes:=tys },ty,pos,es,none⟩::rest) ⟨ρ,M⟩:=
 mS (v:=undef) F' (fun g w Y hw=>s_call (ha g).eqA ((hs g w Y hw).mono fun e w' ⟨u,h1,h2⟩=>⟨u,h1,fun hh=>(by rw[hfr]at hh;cases hh),h2⟩)) h hM hw0 ht rfl
end
end Mk
end
section
open Go Mk
namespace Go.Proofs.YtfoggcgogafocaaGreatDoor
set_option maxHeartbeats 16000000
attribute [local irreducible] Calls cFact
abbrev ownA(g:FactH):Res:=.own g.hdr 48 3 (g.Args.map enc)
def FsOk0(gs:List FactH):Prop:=∀g∈gs,FactOk g.fact
theorem setO_any{Γ:Gho}{S:List Res}{w:World}{v:Value}(fs:List FactH)(hok:FsOk Γ fs)(hl:fs.length≤100000)(hr:RdS Γ S v 2 (fs.map cF))(hw:Wd Γ S w) :
  Calls Tryz.prog 30 #[v] w fun e w'=>∃v' gs,e=.returned v'∧facts gs=setS (facts fs)∧FsOk0 gs∧Wd Γ (.own v' 45 2 (gs.map cF)::(gs.map ownA++S)) w':=by
 refine calls_of_W Tryz.func30 rfl rfl ?_
 repeat first|refine byW ?_|refine byV ?_;intro w hw
 refine lCall (vs:=[v,cmpV]) ?_
 refine(sorted_any fs hok hl hr hw).mono ?_
 clear hw;rintro e w ⟨v1,gs0,rfl,hgs0,hok0,hw⟩
 refine⟨_,rfl,?_⟩;obtain⟨a,n,c,rfl,hn,hnc,hc⟩:=hw.own_shape (i:=0) rfl
 simp only[List.length_map]at hn
 repeat first|refine byW ?_|refine byV ?_;intro w hw
 refine W_loop (fun μ ρ w=>∃(gs hs:List FactH),μ+gs.length=n∧gs.length+hs.length=n∧Has ρ [(3,.slice a n c),(8,.int .i64 n),(9,.int .i64 (gs.length:Nat))]∧facts (gs++hs)=setS (facts fs)∧FsOk Γ hs∧FsOk0 gs∧Wd Γ (.own (.slice a n c) 45 2 ((gs++hs).map cF)::(gs.map ownA++S)) w) n ⟨[],gs0,by simp,by simp[hn],⟨rfl,rfl,rfl,trivial⟩,hgs0,hok0,(fun g hg=>by cases hg),hw⟩ ?_
 clear hw hgs0 hok0 hn hok hr;rintro μ ρ w ⟨gs,hs,hk,hn,hρ,hgs,hok,hok1,hw⟩
 rw[hρ.eq];repeat first|refine byW ?_|refine byV ?_;intro w hw
 refine W_cond rfl (fun h=>?_) (fun h=>?_)
 ·have hkn:gs.length<n:=by have:=of_decide_eq_true h;omega
  cases hs with
  | nil=>simp at hn;omega
  | cons g hs=>
   have hg:(gs++g::hs)[gs.length]? = some g:=by rw[List.getElem?_append_right (Nat.le_refl _)];simp
   obtain⟨hf,hal⟩:=hok g (by simp)
   have hal1:g.Args.length≤100000:=hal.1
   have hll:(gs++g::hs).length=n:=by rw[List.length_append];exact hn
   repeat first|refine byW ?_|refine byV ?_;intro w hw
   refine lCall (vs:=[g.hdr]) ?_
   refine(Clone_vals (S:=.own (.slice a n c) 45 2 ((gs++g::hs).map cF)::(gs.map ownA++S)) hf (by omega) hw).mono ?_
   clear hw;rintro e w ⟨v2,rfl,hw⟩
   refine⟨_,rfl,?_⟩;obtain⟨a2,n2,c2,rfl,-,-,-⟩:=hw.own_shape (i:=0) rfl
   repeat first|refine byW ?_|refine byV ?_;intro w hw
   refine lStoreEf (i:=1) (r:=[.slice a2 n2 c2]) ?_ (rows_map hg)
   intro w hw;have hw:Wd Γ (.own (.slice a2 n2 c2) 48 3 (g.Args.map enc)::.own (.slice a n c) 45 2 (((gs++g::hs).map cF).set gs.length (cF ⟨g.Rel,a2,n2,c2,g.Args⟩))::(gs.map ownA++S)) w:=hw
   have e2:((gs++g::hs).map cF).set gs.length (cF ⟨g.Rel,a2,n2,c2,g.Args⟩)=((gs++[(⟨g.Rel,a2,n2,c2,g.Args⟩:FactH)])++hs).map cF:=by
    rw[←List.map_set,List.set_append_right _ _ (Nat.le_refl _),Nat.sub_self,List.set_cons_zero,List.append_assoc];rfl
   rw[e2]at hw;repeat first|refine byW ?_|refine byV ?_;intro w hw
   refine⟨μ-1,by omega,gs++[⟨g.Rel,a2,n2,c2,g.Args⟩],hs,by simp;omega,by simp at hn ⊢;omega,⟨rfl,rfl,by simp;rfl,trivial⟩,?_,fun x hx=>hok x (by simp[hx]),fun x hx=>?_,?_⟩
   ·rw[←hgs];unfold facts;simp[FactH.fact]
   ·rcases List.mem_append.1 hx with q|q
    ·exact hok1 x q
    ·rw[List.mem_singleton.1 q];exact hal
   ·have e3:((gs++[(⟨g.Rel,a2,n2,c2,g.Args⟩:FactH)]).map ownA++S)=gs.map ownA++(ownA ⟨g.Rel,a2,n2,c2,g.Args⟩::S):=by simp
    rw[e3];exact hw.perm ((List.Perm.swap _ _ _).trans (List.Perm.cons _ List.perm_middle.symm))
 ·have hkn:¬gs.length<n:=by have:=of_decide_eq_false h;omega
  have hs0:hs=[]:=List.eq_nil_of_length_eq_zero (by omega)
  subst hs0;rw[List.append_nil]at hw hgs
  repeat first|refine byW ?_|refine byV ?_;intro w hw
  exact⟨_,rfl,_,gs,rfl,hgs,hok1,hw⟩
structure RL(Γ:Gho)(v:Value)(fs:List FactH):Prop where
 rep:RepS Γ v 2 (fs.map cF)
 ok:FsOk Γ fs
theorem RL.mono{Γ Γ':Gho}{v:Value}{fs:List FactH}(h:RL Γ v fs)(hl:Γ.le Γ'):RL Γ' v fs:=⟨h.rep.mono hl,h.ok.mono hl⟩
section
variable {Γ:Gho}{S:List Res}{w:World}
end
end Go.Proofs.YtfoggcgogafocaaGreatDoor
end
section
open Go Mk
namespace Go.Proofs.YtfoggcgogafocaaGreatDoor
set_option maxHeartbeats 16000000
attribute [local irreducible] Calls cFact
section
variable {Γ:Gho}
theorem pg_contains{v:Value}{fs:List FactH}{f:FactH}(h:RL Γ v fs)(hf:FOk Γ f):PG Tryz.prog Γ 13 [v,.agg (cF f).toArray] (.bool (decide (f.fact∈facts fs))):=⟨fun S w hw=>ContainsF_any fs h.ok hf h.rep.rdS hw⟩
end
end Go.Proofs.YtfoggcgogafocaaGreatDoor
end
section
open Go Mk
namespace Go.Proofs.YtfoggcgogafocaaGreatDoor
set_option maxHeartbeats 16000000
attribute [local irreducible] Calls cFact
theorem filt_succ{p:FactH→Bool}{fs:List FactH}{j:Nat}{x:FactH}(h:fs[j]? = some x):(fs.take (j+1)).filter p=if p x=true then (fs.take j).filter p++[x] else (fs.take j).filter p:=by
 rw[List.take_add_one,h,List.filter_append];show _++[x].filter p=_
 rw[List.filter_cons];split <;> simp
section
variable {Γ:Gho}{S:List Res}{w:World}{b:Nat}
end
end Go.Proofs.YtfoggcgogafocaaGreatDoor
end
section
open Go Mk
namespace Go.Proofs.YtfoggcgogafocaaGreatDoor
set_option maxHeartbeats 16000000
attribute [local irreducible] Calls cFact
section
variable {Γ:Gho}{S:List Res}{w:World}
end
end Go.Proofs.YtfoggcgogafocaaGreatDoor
end
section
open Go Mk
namespace Go.Proofs.YtfoggcgogafocaaGreatDoor
set_option maxHeartbeats 16000000
attribute [local irreducible] Calls cFact
section
variable {Γ:Gho}{S:List Res}{w:World}
end
end Go.Proofs.YtfoggcgogafocaaGreatDoor
end
section
open Go Mk
namespace Go.Proofs.YtfoggcgogafocaaGreatDoor
set_option maxHeartbeats 16000000
attribute [local irreducible] Calls cFact
def selP(r:ByteArray)(m:Int)(x:Fact):Bool:=decide (x.1=r)&&decide ((x.2.length:Int)=m)
def selF(r:ByteArray)(m:Int)(x:FactH):Bool:=decide (x.Rel=r)&&decide ((x.N:Int)=m)
def selS(l:List Fact)(r:ByteArray)(m:Int):List Fact:=(setS l).filter (selP r m)
theorem selF_eq{Γ:Gho}{r:ByteArray}{m:Int}{x:FactH}(h:FOk Γ x):selF r m x=selP r m x.fact:=by
 have:=h.len.1
 unfold selF selP;rw[this];rfl
theorem facts_sel{Γ:Gho}{r:ByteArray}{m:Int}:∀ {fs:List FactH},(∀x∈fs,FOk Γ x)→facts (fs.filter (selF r m))=(facts fs).filter (selP r m)
 | [],_=>rfl
 | x::fs,h=>by
  have ih:=facts_sel (r:=r) (m:=m) (fs:=fs) fun y hy=>h y (List.mem_cons_of_mem _ hy)
  show facts ((x::fs).filter (selF r m))=(x.fact::facts fs).filter (selP r m)
  rw[List.filter_cons,List.filter_cons,selF_eq (h x List.mem_cons_self)];split
  ·show x.fact::facts _=_
   rw[ih]
  ·exact ih
section
variable {Γ:Gho}{S:List Res}{w:World}
theorem Select_any{v:Value}{r:ByteArray}{m:Int}(fs:List FactH)(hok:FsOk Γ fs)(hl:fs.length≤50000)(hr:RepS Γ v 2 (fs.map cF))(hw:Wd Γ S w) :
  Calls Tryz.prog 9 #[v,.string r,.int .i64 m] w fun e w'=>∃v' gs,e=.returned v'∧facts gs=selS (facts fs) r m∧FsOk0 gs∧Wd Γ (.own v' 45 2 (gs.map cF)::(gs.map ownA++S)) w':=by
 obtain⟨a,n,c,rfl,hn,hnc,hc⟩:=hr.shape;simp only[List.length_map]at hn
 refine calls_of_W Tryz.func9 rfl rfl ?_
 repeat first|refine byW ?_|refine byV ?_;intro w hw
 refine W_loop (fun μ ρ w=>∃(k:Nat) (g:Value),μ+k=n∧Has ρ [(1,.string r),(2,.int .i64 m),(7,g),(10,.slice a n c),(11,.int .i64 n),(12,.int .i64 k)]∧Wd Γ (.own g 45 2 (((fs.take k).filter (selF r m)).map cF)::S) w) n ⟨0,.slice none 0 0,by omega,⟨rfl,rfl,rfl,rfl,rfl,rfl,trivial⟩,Wd.addNil hw⟩ ?_
 clear hw;rintro μ ρ w ⟨k,g,hk,hρ,hw⟩
 rw[hρ.eq];repeat first|refine byW ?_|refine byV ?_;intro w hw
 refine W_cond rfl (fun h=>?_) (fun h=>?_)
 ·have hkn:k<n:=by have:=of_decide_eq_true h;omega
  obtain⟨x,hx⟩:=get_lt (l:=fs) (k:=k) (by omega)
  have hxo:=(hok x (List.mem_of_getElem? hx)).1
  have hsucc:=filt_succ (p:=selF r m) hx
  have hfl:=List.length_filter_le (selF r m) (fs.take k)
  rw[List.length_take]at hfl;repeat first|refine byW ?_|refine byV ?_;intro w hw
  refine lAlloc ?_;intro b9 w hw;refine lStore ?_;intro w hw;have hw:Wd Γ (boxF b9 x::.own g 45 2 (((fs.take k).filter (selF r m)).map cF)::S) w:=hw
  repeat first|refine byW ?_|refine byV ?_;intro w hw
  refine W_cond rfl (fun h3=>?_) (fun h3=>?_)
  ·have h3:selF r m x=true:=h3
   rw[if_pos h3]at hsucc;obtain⟨ag,ng,cg,rfl,hng,hngc,hcg⟩:=hw.own_shape (i:=1) rfl
   simp only[List.length_map]at hng
   repeat first|refine byW ?_|refine byV ?_;intro w hw
   refine lBuildSlice [cF x] ?_
   intro a29 w hw;refine lApp (i:=2) (rows2:=[cF x]) ?_ (Wd.own_rd (i:=0) hw rfl)
   intro v' w hw;repeat first|refine byW ?_|refine byV ?_;intro w hw
   have hw:Wd Γ (.own v' 45 2 (((fs.take k).filter (selF r m)).map cF++[cF x])::S) w:=hw.ds [0,0]
   rw[show ((fs.take k).filter (selF r m)).map cF++[cF x]=((fs.take (k+1)).filter (selF r m)).map cF from by rw[hsucc];simp]at hw
   exact⟨μ-1,by omega,k+1,v',by omega,⟨rfl,rfl,rfl,rfl,rfl,rfl,trivial⟩,hw⟩
  ·have h3:selF r m x=false:=h3
   rw[if_neg (by rw[h3];decide)]at hsucc
   repeat first|refine byW ?_|refine byV ?_;intro w hw
   exact⟨μ-1,by omega,k+1,g,by omega,⟨rfl,rfl,rfl,rfl,rfl,rfl,trivial⟩,by rw[hsucc];exact hw.drop⟩
 ·have hkn:¬k<n:=by have:=of_decide_eq_false h;omega
  rw[List.take_of_length_le (show fs.length≤k by omega)]at hw
  have hfl:=List.length_filter_le (selF r m) fs
  repeat first|refine byW ?_|refine byV ?_;intro w hw
  refine lCall (vs:=[g]) ?_
  refine(setO_any (fs.filter (selF r m)) (fun x hx=>hok x (List.mem_filter.1 hx).1) (by omega) (RdS.own (i:=0) hw rfl) hw).mono ?_
  clear hw;rintro e w ⟨v1,gs,rfl,h1,h2,hw⟩
  refine⟨_,rfl,?_⟩;repeat first|refine byW ?_|refine byV ?_;intro w hw
  refine⟨_,rfl,v1,gs,rfl,?_,h2,?_⟩
  ·rw[h1,facts_sel (fun x hx=>(hok x hx).1)];exact setA_filter cFact_ord _ _
  ·have hw:Wd Γ ((.own v1 45 2 (gs.map cF)::gs.map ownA)++(.own g 45 2 ((fs.filter (selF r m)).map cF)::S)) w:=hw
   exact(hw.perm List.perm_middle).drop
end
end Go.Proofs.YtfoggcgogafocaaGreatDoor
end
section
open Go Mk
namespace Go.Proofs.YtfoggcgogafocaaGreatDoor
set_option maxHeartbeats 4000000
attribute [local irreducible] Calls nextP numberP expectP isS posOf moreN memB nameP
theorem COk.mono{Γ Γ':Gho}{c:CacheH}(h:COk Γ c)(hle:Γ.le Γ'):COk Γ' c:=RepS.mono h hle
section
variable {Γ:Gho}{S:List Res}{w:World}{bp hb:Nat}{a:Option Addr}{n c at':Nat}{e:PosT}{toks:List Tok}{H:HwT}
end
end Go.Proofs.YtfoggcgogafocaaGreatDoor
end
section
open Go Mk
namespace Go.Proofs.YtfoggcgogafocaaGreatDoor
set_option maxHeartbeats 4000000
attribute [local irreducible] Calls nextP numberP expectP isS posOf moreN memB nameP
def HwOut(Γ:Gho)(H:HwT)(S:List Res)(u:Value)(w:World):Prop:=∃(v1 v2 v3 v4 v5:Value) (cs:List CacheH),cs.map CacheH.T=H.Caches∧(∀c∈cs,COk Γ c)∧u=.agg #[.string H.Name,v1,v2,v3,v4,v5] ∧
 Wd Γ (.own v1 74 4 (H.Cores.map enc)::.own v2 38 5 (cs.map cC)::.own v3 76 3 (H.Links.map enc)::.own v4 42 5 (H.Mems.map enc)::.own v5 79 5 (H.Devs.map enc)::S) w
section
variable {Γ:Gho}{S:List Res}{w:World}{bp hb:Nat}{a:Option Addr}{n c:Nat}{e:PosT}{toks:List Tok}
end
end Go.Proofs.YtfoggcgogafocaaGreatDoor
end
