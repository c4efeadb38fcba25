/- Texts of this proof, one behind another. -/
import Derived.Test.YtfoggcgogafocaaGreatM4
import Derived.Test.YtfoggcgogafocaaGreatM3
import Derived.Test.YtfoggcgogafocaaGreatM2
import Derived.Shelf.SlLaysF0
import Derived.Shelf.SlLaysF
set_option linter.unusedVariables false
set_option linter.unusedSimpArgs false
section
open Go Mk
namespace Go.Proofs.YtfoggcgogafocaaGreat
set_option maxHeartbeats 8000000
attribute [local irreducible] Calls
noncomputable def distL(H:HwT)(s:Int):List Int:=(List.range 64).map fun i:Nat=>dstI (nbrL H.Links) s (i:Int)
theorem distL_get{H:HwT}{s x:Int}(h0:0≤x)(h1:x<64):(distL H s)[x.toNat]? = some (dstI (nbrL H.Links) s x):=by
 unfold distL;rw[List.getElem?_map,List.getElem?_range (by omega)]
 show some (dstI _ s ((x.toNat:Nat):Int))=_
 rw[show ((x.toNat:Nat):Int)=x by omega]
theorem distL_eq{H:HwT}{s:Int}{O:List Int}(hO:O.length=64)(hd:∀x,0≤x→x<64→Dst (nbrL H.Links) s x (oat O x)∧oat O x≤128001000000):O=distL H s:=by
 refine List.ext_getElem? fun i=>?_
 by_cases h:i<64
 ·have h1:=distL_get (H:=H) (s:=s) (x:=i) (by omega) (by omega)
  rw[show ((i:Int)).toNat=i by omega]at h1
  rw[h1];have h2:=(hd i (by omega) (by omega)).1.eq
  rw[h2];unfold oat;rw[show ((i:Int)).toNat=i by omega,List.getD_eq_getElem?_getD,List.getElem?_eq_getElem (by omega)];rfl
 ·rw[List.getElem?_eq_none (by omega),List.getElem?_eq_none (by unfold distL;simp;omega)]
theorem distancesL_any{Γ:Gho}{u:Value}{H:HwT}[hh:HwR Γ u H](hL:LinksOk H.Links){s:Int}(hs:0≤s∧s<64){S:List Res}{w:World}(hw:Wd Γ S w) :
  Calls Tryz.prog 43 #[u,.int .i64 s] w fun e w'=>∃v,e=.returned v∧Wd Γ (.own v 3 1 (intRows (distL H s))::S) w':=
 (distances_any hL hs hw).mono fun e w' ⟨v,O,h1,h2,h3,h4⟩=>⟨v,h1,by rw[←distL_eq h2 h3];exact h4⟩
noncomputable def coreN(H:HwT)(x:Int):Int:=(findC H.Cores x).1.Node
noncomputable def farI(H:HwT)(x y:Int):Int:=dstI (nbrL H.Links) (coreN H x) (coreN H y)
abbrev btwB(bb:Nat)(H:HwT)(a1:Option Addr)(n1 c1:Nat)(a2:Option Addr)(n2 c2:Nat)(a3:Option Addr)(n3 c3:Nat)(a4:Option Addr)(n4 c4:Nat)(a5:Option Addr)(n5 c5:Nat)(bm:Nat):Res:=
 .blk bb (.cells #[.string H.Name,.slice a1 n1 c1,.slice a2 n2 c2,.slice a3 n3 c3,.slice a4 n4 c4,.slice a5 n5 c5,.map (some bm)] 158)
noncomputable def dsO(H:HwT)(e:Int×Value):Res:=.own e.2 3 1 (intRows (distL H e.1))
theorem own_some{Γ:Gho}{S:List Res}{w:World}{H:HwT}{x:Int}{aa:Option Addr}{na ca:Nat}(hw:Wd Γ (.own (.slice aa na ca) 3 1 (intRows (distL H x))::S) w):aa≠none:=by
 obtain⟨bss,h1,-⟩:=hw.own;cases bss with
 | nil=>exact h1.elim
 | cons bs bss=>
  have hr:=h1.1
  unfold Res.own at hr;obtain⟨-,a,n,c,e,hn,hnc,-,h⟩:=hr;cases e
  rcases h with⟨h,-⟩|⟨g,cur,h,-⟩
  ·have:na=64:=by rw[hn];simp[intRows,distL]
   omega
  ·rw[h];simp
theorem ds_find{Γ:Gho}{A S:List Res}{w:World}{H:HwT}{l:List (Int×Value)}{a:Int}{v:Value}(hl:(l.map (·.1)).Nodup)(hg:aGet l a=some v)(hw:Wd Γ (A++(l.map (dsO H)++S)) w):Wd Γ (dsO H (a,v)::(A++((restL l a).map (dsO H)++S))) w:=
 hw.perm ((List.Perm.append_left A (((aGet_perm hl hg).map (dsO H)).append_right S)).trans List.perm_middle)
theorem ds_back{Γ:Gho}{A S:List Res}{w:World}{H:HwT}{l:List (Int×Value)}{a:Int}{v:Value}(hl:(l.map (·.1)).Nodup)(hg:aGet l a=some v)(hw:Wd Γ (dsO H (a,v)::(A++((restL l a).map (dsO H)++S))) w):Wd Γ (A++(l.map (dsO H)++S)) w:=
 hw.perm ((List.Perm.append_left A (((aGet_perm hl hg).map (dsO H)).append_right S)).trans List.perm_middle).symm
theorem cores_any{Γ:Gho}{H:HwT}{a1:Option Addr}{n1 c1:Nat}{a2:Option Addr}{n2 c2:Nat}{a3:Option Addr}{n3 c3:Nat}{a4:Option Addr}{n4 c4:Nat}{a5:Option Addr}{n5 c5:Nat}[hh:HwR Γ (.agg #[.string H.Name,.slice a1 n1 c1,.slice a2 n2 c2,.slice a3 n3 c3,.slice a4 n4 c4,.slice a5 n5 c5]) H](hL:LinksOk H.Links){x y:Int}(hx:0≤coreN H x∧coreN H x<64)(hy:0≤coreN H y∧coreN H y<64){bb bm:Nat}{l:List (Int×Value)}(hl:(l.map (·.1)).Nodup){S:List Res}{w:World}(hw:Wd Γ (btwB bb H a1 n1 c1 a2 n2 c2 a3 n3 c3 a4 n4 c4 a5 n5 c5 bm::adjM bm l::(l.map (dsO H)++S)) w) :
  Calls Tryz.prog 156 #[.pointer (some ⟨bb,0,none⟩),.int .i64 x,.int .i64 y] w fun e w'=>e=.returned (.int .i64 (farI H x y))∧∃l',(l'.map (·.1)).Nodup∧Wd Γ (btwB bb H a1 n1 c1 a2 n2 c2 a3 n3 c3 a4 n4 c4 a5 n5 c5 bm::adjM bm l'::(l'.map (dsO H)++S)) w':=by
 unfold farI;unfold coreN at hx hy ⊢
 refine calls_of_W Tryz.func156 rfl rfl ?_
 generalize hp:(findC H.Cores x).1=p at hx ⊢
 generalize hq:(findC H.Cores y).1=q at hy ⊢
 repeat first|refine byW ?_|refine byV ?_;intro w hw
 refine lPg (hp:=pg_find (hh:=hh) x) ?_
 intro w hw;rw[hp];repeat first|refine byW ?_|refine byV ?_;intro w hw
 refine lAlloc ?_;intro b7 w hw;refine lStore ?_;intro w hw;repeat first|refine byW ?_|refine byV ?_;intro w hw
 refine lPg (hp:=pg_find (hh:=hh) y) ?_
 intro w hw;rw[hq];repeat first|refine byW ?_|refine byV ?_;intro w hw
 refine lAlloc ?_;intro b9 w hw;refine lStore ?_;intro w hw;have hw:Wd Γ (.blk b9 (.cells (enc q).toArray 37)::.blk b7 (.cells (enc p).toArray 37)::btwB bb H a1 n1 c1 a2 n2 c2 a3 n3 c3 a4 n4 c4 a5 n5 c5 bm::adjM bm l::(l.map (dsO H)++S)) w:=hw
 repeat first|refine byW ?_|refine byV ?_;intro w hw
 obtain⟨aa,na,ca,hva,hcs⟩:∃aa na ca,zeroOr l p.Node (.slice aa na ca)∧((aa=none∧aGet l p.Node=none)∨(aa≠none∧aGet l p.Node=some (.slice aa na ca))):=by
  cases hg:aGet l p.Node with
  | none=>exact⟨none,0,0,.inr ⟨hg,rfl⟩,.inl ⟨rfl,rfl⟩⟩
  | some v=>
   have hw2:=ds_find (A:=[.blk b9 (.cells (enc q).toArray 37),.blk b7 (.cells (enc p).toArray 37),btwB bb H a1 n1 c1 a2 n2 c2 a3 n3 c3 a4 n4 c4 a5 n5 c5 bm,adjM bm l]) hl hg hw
   unfold dsO at hw2;obtain⟨aa,na,ca,rfl,hn,-⟩:=hw2.own_shape (i:=0) rfl
   have hns:=own_some hw2
   exact⟨aa,na,ca,.inl hg,.inr ⟨hns,rfl⟩⟩
 refine W_quiet (by kernel_rfl) (by kernel_rfl) hw ?_
 refine byQ ?_;refine qY (v:=.slice aa na ca) ?_ (hy:=fun w hw=>y_lookupZ hw hva (i:=3) rfl rfl rfl)
 refine byQ ?_;intro w hw;refine W_cutT (fun ρ w=>∃(l':List (Int×Value)) (v:Value),(l'.map (·.1)).Nodup∧aGet l' p.Node=some v∧Has ρ [(0,.pointer (some ⟨bb,0,none⟩)),(7,.pointer (some ⟨b7,0,none⟩)),(9,.pointer (some ⟨b9,0,none⟩))]∧Wd Γ ([.blk b9 (.cells (enc q).toArray 37),.blk b7 (.cells (enc p).toArray 37),btwB bb H a1 n1 c1 a2 n2 c2 a3 n3 c3 a4 n4 c4 a5 n5 c5 bm,adjM bm l']++(l'.map (dsO H)++S)) w) ?_ ?_
 ·refine W_cond rfl (fun h=>?_) (fun h=>?_)
  ·have h:aa.isNone=true:=h
   have hg:aGet l p.Node=none:=by
    rcases hcs with⟨-,hg⟩|⟨hh2,-⟩
    ·exact hg
    ·cases aa with
     | none=>exact(hh2 rfl).elim
     | some _=>simp at h
   have hw:Wd Γ ([.blk b7 (.cells (enc p).toArray 37),btwB bb H a1 n1 c1 a2 n2 c2 a3 n3 c3 a4 n4 c4 a5 n5 c5 bm]++([adjM bm l]++((.blk b9 (.cells (enc q).toArray 37)::(l.map (dsO H)++S))++[]))) w:=by
    rw[List.append_nil];exact hw.perm ((List.perm_middle (l₁:=[.blk b7 (.cells (enc p).toArray 37),btwB bb H a1 n1 c1 a2 n2 c2 a3 n3 c3 a4 n4 c4 a5 n5 c5 bm,adjM bm l])).symm)
   repeat first|refine byW ?_|refine byV ?_;intro w hw
   refine W_mixed [.blk b7 (.cells (enc p).toArray 37),btwB bb H a1 n1 c1 a2 n2 c2 a3 n3 c3 a4 n4 c4 a5 n5 c5 bm] [fun _=>[adjM bm l],fun _=>.blk b9 (.cells (enc q).toArray 37)::(l.map (dsO H)++S)] [[],[],[],[],[],[],[],[],[],[],[],[],[0],[0]] [[],[],[],[],[],[],[],[],[],[],[],[],[0],[0]] [[49],[]] (by exact hw) ?_
   refine byM ?_;refine mCallG (c:=0) (F:=fun _=>[adjM bm l]) (F':=fun g=>[adjM bm l,.own (g 49) 3 1 (intRows (distL H p.Node))]) (vs:=fun _=>[.agg #[.string H.Name,.slice a1 n1 c1,.slice a2 n2 c2,.slice a3 n3 c3,.slice a4 n4 c4,.slice a5 n5 c5],.int .i64 p.Node]) (hs:=fun g w Y hw=>(distancesL_any hL hx hw).mono fun e w' ⟨v,h1,h2⟩=>⟨v,h1,h2.ps [1]⟩) ?_
   refine mPutV (j:=0) ?_
   refine mEnd fun w g hw=>?_
   have hw:Wd Γ ([.blk b7 (.cells (enc p).toArray 37),btwB bb H a1 n1 c1 a2 n2 c2 a3 n3 c3 a4 n4 c4 a5 n5 c5 bm,adjM bm (aSet l p.Node (g 49)),dsO H (p.Node,g 49)]++(.blk b9 (.cells (enc q).toArray 37)::((l.map (dsO H)++S)++[]))) w:=hw
   rw[List.append_nil]at hw;have hpm:=(aSet_perm hl p.Node (g 49)).map (dsO H)
   rw[aGet_none_filter hg,List.map_cons]at hpm;have hw:Wd Γ ([.blk b9 (.cells (enc q).toArray 37),.blk b7 (.cells (enc p).toArray 37),btwB bb H a1 n1 c1 a2 n2 c2 a3 n3 c3 a4 n4 c4 a5 n5 c5 bm,adjM bm (aSet l p.Node (g 49))]++(dsO H (p.Node,g 49)::l.map (dsO H)++S)) w:=hw.perm List.perm_middle
   have hw:=hw.perm (List.Perm.append_left _ (hpm.append_right S).symm)
   exact⟨aSet l p.Node (g 49),g 49,aSet_keys hl _ _,by rw[aGet_aSet,if_pos rfl],⟨rfl,rfl,rfl,trivial⟩,hw⟩
  ·have h:aa.isNone=false:=h
   have hg:aGet l p.Node=some (.slice aa na ca):=by
    rcases hcs with⟨rfl,-⟩|⟨-,hg⟩
    ·simp at h
    ·exact hg
   repeat first|refine byW ?_|refine byV ?_;intro w hw
   exact⟨l,_,hl,hg,⟨rfl,rfl,rfl,trivial⟩,hw⟩
 ·clear hw hva hcs;rintro ρ w ⟨l',v,hl',hg',hρ,hw⟩
  rw[hρ.eq];clear hρ;have hw:=ds_find hl' hg' hw
  obtain⟨aa,na,ca,rfl,hn,hnc,-⟩:=hw.own_shape (i:=0) rfl
  have hn:na=64:=by rw[hn];simp[intRows,distL]
  subst hn;have hgd:=distL_get (H:=H) (s:=p.Node) hy.1 hy.2
  have hw:Wd Γ (.own (.slice aa 64 ca) 3 1 (intRows (distL H p.Node))::.blk b9 (.cells (enc q).toArray 37)::.blk b7 (.cells (enc p).toArray 37)::btwB bb H a1 n1 c1 a2 n2 c2 a3 n3 c3 a4 n4 c4 a5 n5 c5 bm::adjM bm l'::((restL l' p.Node).map (dsO H)++S)) w:=hw
  have hlen:(distL H p.Node).length=64:=by simp[distL]
  repeat first|refine byW ?_|refine byV ?_;intro w hw
  refine W_quiet (by kernel_rfl) (by kernel_rfl) hw ?_
  refine byQ ?_;refine qY (v:=.slice aa 64 ca) ?_ (hy:=fun w hw=>y_lookupZ hw (.inl hg') (i:=4) rfl rfl rfl)
  refine byQ ?_;intro w hw;repeat first|refine byW ?_|refine byV ?_;intro w hw
  have hw:=ds_back (A:=[.blk b9 (.cells (enc q).toArray 37),.blk b7 (.cells (enc p).toArray 37),btwB bb H a1 n1 c1 a2 n2 c2 a3 n3 c3 a4 n4 c4 a5 n5 c5 bm,adjM bm l']) hl' hg' hw
  exact⟨_,rfl,rfl,l',hl',hw.ds [0,0]⟩
theorem s_insert{P:Program}{d:Option Tmp}{T ty:TypeId}{pos:String}{es:Array Edge}{g:Option (Nat×Bool)}{x y z:Operand}{ρ:Fr}{w:World}{K:Value→World→Prop}(h:Step P ⟨d,.mapUpdate T x y z,ty,pos,es,g⟩ ρ w K):Step P ⟨d,.insert T x y z,ty,pos,es,g⟩ ρ w K:=by
 unfold Step execOp at h ⊢
 exact h
theorem ints1(xs:List Int):(intRows xs).flatten.all (·.oneCell')=true:=by
 induction xs with
 | nil=>rfl
 | cons x xs ih=>simp only[intRows,List.map_cons,List.flatten_cons,List.all_append]at ih ⊢;rw[ih];rfl
class ShortL{α:Type}(l:List α):Prop where h:l.length≤1000
noncomputable def memErr(H:HwT)(r:Int)(ms:List Int):Int:=if (r::ms).all (fun id=>(findC H.Cores id).2)=false then 57 else if decP (r::ms).Nodup=false then 56 else 0
instance pg_members{Γ:Gho}{u v:Value}{H:HwT}[hh:HwR Γ u H]{ms:List Int}[hr:SlC Γ v 1 (intRows ms)][hsh:ShortL ms](r:Int):PG Tryz.prog Γ 85 [u,.int .i64 r,v] (.int .i64 (memErr H r ms)):=⟨fun S w hw=>by
 have hh':=hh
 obtain⟨a1,n1,c1,a2,n2,c2,a3,n3,c3,a4,n4,c4,a5,n5,c5,cs,rfl,-⟩:=hh.h;have hrs:=hr.h
 obtain⟨am,nm,cm,rfl,hnm,hnmc,hcm⟩:=hr.h.shape;simp only[intRows,List.length_map]at hnm
 refine calls_of_W Tryz.func85 rfl rfl ?_
 repeat first|refine byW ?_|refine byV ?_;intro w hw
 refine lBox ?_;intro b3 w hw;have hw:Wd Γ (.blk b3 (.cells #[.string H.Name,.slice a1 n1 c1,.slice a2 n2 c2,.slice a3 n3 c3,.slice a4 n4 c4,.slice a5 n5 c5] 30)::S) w:=hw
 repeat first|refine byW ?_|refine byV ?_;intro w hw
 refine lBuildSlice [[.int .i64 r]] ?_
 intro ar w hw;have hw:Wd Γ (.own (.slice (some ar) 1 1) 3 1 (intRows [r])::.blk b3 (.cells #[.string H.Name,.slice a1 n1 c1,.slice a2 n2 c2,.slice a3 n3 c3,.slice a4 n4 c4,.slice a5 n5 c5] 30)::S) w:=hw
 repeat first|refine byW ?_|refine byV ?_;intro w hw
 have hms:=hsh.h
 refine lApp (i:=0) (rows2:=intRows ms) ?_ (hrs.rd hw) rfl rfl hw rfl (ints1 ms) (by simp[intRows];omega)
 intro v' w hw;obtain⟨a0,n0,c0,rfl,hn0,hnc0,-⟩:=hw.own_shape (i:=0) rfl
 have hn0:n0=ms.length+1:=by rw[hn0];simp[intRows]
 have hw:Wd Γ (.own (.slice a0 n0 c0) 3 1 (intRows (r::ms))::.blk b3 (.cells #[.string H.Name,.slice a1 n1 c1,.slice a2 n2 c2,.slice a3 n3 c3,.slice a4 n4 c4,.slice a5 n5 c5] 30)::S) w:=hw
 unfold memErr;repeat first|refine byW ?_|refine byV ?_;intro w hw
 refine W_loop (fun μ ρ w=>∃(k:Nat),μ+k=n0∧Has ρ [(1,.int .i64 r),(2,.slice am nm cm),(3,.pointer (some ⟨b3,0,none⟩)),(17,.slice a0 n0 c0),(18,.int .i64 n0),(19,.int .i64 k)]∧(∀i x,i<k→(r::ms)[i]? = some x→(fun id=>(findC H.Cores id).2) x=true)∧Wd Γ (.own (.slice a0 n0 c0) 3 1 (intRows (r::ms))::.blk b3 (.cells #[.string H.Name,.slice a1 n1 c1,.slice a2 n2 c2,.slice a3 n3 c3,.slice a4 n4 c4,.slice a5 n5 c5] 30)::S) w) n0 ⟨0,by omega,⟨rfl,rfl,rfl,rfl,rfl,rfl,trivial⟩,fun i x h=>by omega,hw⟩ ?_
 clear hw;rintro μ ρ w ⟨k,hk,hρ,hall,hw⟩
 rw[hρ.eq];clear hρ;repeat first|refine byW ?_|refine byV ?_;intro w hw
 refine W_cond rfl (fun h=>?_) (fun h=>?_)
 ·have hkn:k<n0:=by have:=of_decide_eq_true h;omega
  obtain⟨x,hx⟩:=get_lt (l:=r::ms) (k:=k) (by simp;omega)
  have hxl:(r::ms).length=ms.length+1:=rfl
  repeat first|refine byW ?_|refine byV ?_;intro w hw
  refine lAlloc ?_;intro b9 w hw;refine lStore ?_;intro w hw;have hw:Wd Γ (.own (.slice a0 n0 c0) 3 1 (intRows (r::ms))::.blk b3 (.cells #[.string H.Name,.slice a1 n1 c1,.slice a2 n2 c2,.slice a3 n3 c3,.slice a4 n4 c4,.slice a5 n5 c5] 30)::S) w:=Wd.drop hw
  repeat first|refine byW ?_|refine byV ?_;intro w hw
  refine W_cond rfl (fun h2=>?_) (fun h2=>?_)
  ·have h2:(!(findC H.Cores x).2)=true:=h2
   rw[if_pos (all_no (p:=fun id=>(findC H.Cores id).2) hx (by simpa using h2))]
   repeat first|refine byW ?_|refine byV ?_;intro w hw
   exact⟨_,rfl,rfl,hw.ds [0,0]⟩
  ·have h2:(!(findC H.Cores x).2)=false:=h2
   repeat first|refine byW ?_|refine byV ?_;intro w hw
   exact⟨μ-1,by omega,k+1,by omega,⟨rfl,rfl,rfl,rfl,rfl,rfl,trivial⟩,all_step (p:=fun id=>(findC H.Cores id).2) hall hx (by simpa using h2),hw⟩
 have hkn:¬k<n0:=by have:=of_decide_eq_false h;omega
 rw[if_neg (by rw[all_end (p:=fun id=>(findC H.Cores id).2) hall (by simp;omega)];simp)]
 clear h hkn hall hk;repeat first|refine byW ?_|refine byV ?_;intro w hw
 refine L_step rfl rfl (s_makeMap (K:=3) (α:=Int) (f:=Value.bool) hw fun bm w hw=>?_)
 repeat first|refine byW ?_|refine byV ?_;intro w hw
 refine L_step rfl rfl (s_insert (s_mapUpdate (P:=Tryz.prog) (K:=3) (α:=Int) (f:=Value.bool) (i:=0) (v:=true) (a:=r) hw rfl rfl rfl rfl fun w hw=>?_))
 rw[show ([]:List (Int×Bool))=seenL ([]:List Int) from rfl,seen_set (by simp)]at hw
 have hw:Wd Γ (Res.mpT Tryz.prog 3 Value.bool bm (seenL (r::ms.take 0))::S) w:=hw.ds [1,1]
 repeat first|refine byW ?_|refine byV ?_;intro w hw
 refine W_loop (fun μ ρ w=>∃(k:Nat),μ+k=nm∧Has ρ [(11,.map (some bm)),(35,.slice am nm cm),(36,.int .i64 nm),(37,.int .i64 k)]∧(r::ms.take k).Nodup∧Wd Γ (Res.mpT Tryz.prog 3 Value.bool bm (seenL (r::ms.take k))::S) w) nm ⟨0,by omega,⟨rfl,rfl,rfl,rfl,trivial⟩,by simp,hw⟩ ?_
 clear hw;rintro μ ρ w ⟨k,hk,hρ,hnd,hw⟩
 rw[hρ.eq];clear hρ;repeat first|refine byW ?_|refine byV ?_;intro w hw
 refine W_cond rfl (fun h=>?_) (fun h=>?_)
 ·have hkn:k<nm:=by have:=of_decide_eq_true h;omega
  obtain⟨x,hx⟩:=get_lt (l:=ms) (k:=k) (by omega)
  repeat first|refine byW ?_|refine byV ?_;intro w hw
  letI hdm:Decidable (x∈r::ms.take k):=Classical.propDecidable _
  refine L_y rfl rfl (v:=.bool (decide (x∈r::ms.take k))) ?_ ?_
  ·by_cases hm:x∈r::ms.take k
   ·rw[decide_eq_true hm];exact y_lookup_some (P:=Tryz.prog) (K:=3) (α:=Int) (f:=Value.bool) (i:=0) hw rfl rfl rfl (seen_some hm) false
   ·rw[decide_eq_false hm];exact y_lookup_none (P:=Tryz.prog) (K:=3) (α:=Int) (f:=Value.bool) (i:=0) hw rfl rfl rfl (seen_none hm) false
  have hx1:(r::ms)[k+1]? = some x:=hx
  have ht1:(r::ms).take (k+1)=r::ms.take k:=rfl
  repeat first|refine byW ?_|refine byV ?_;intro w hw
  refine W_cond rfl (fun h2=>?_) (fun h2=>?_)
  ·have hm:x∈r::ms.take k:=by simpa using h2
   rw[if_pos (decP_f (not_nodup_at hx1 (by rw[ht1];exact hm)))]
   repeat first|refine byW ?_|refine byV ?_;intro w hw
   exact⟨_,rfl,rfl,hw.drop⟩
  ·have hm:x∉r::ms.take k:=by simpa using h2
   repeat first|refine byW ?_|refine byV ?_;intro w hw
   refine L_step rfl rfl (s_mapUpdate (P:=Tryz.prog) (K:=3) (α:=Int) (f:=Value.bool) (i:=0) (v:=true) hw rfl rfl rfl rfl fun w hw=>?_)
   rw[seen_set hm,List.cons_append,←take_succ_of hx]at hw;repeat first|refine byW ?_|refine byV ?_;intro w hw
   exact⟨μ-1,by omega,k+1,by omega,⟨rfl,rfl,rfl,rfl,trivial⟩,by rw[take_succ_of hx,←List.cons_append];exact nodup_snoc.2 ⟨hnd,hm⟩,hw⟩
 ·have hkn:¬k<nm:=by have:=of_decide_eq_false h;omega
  rw[List.take_of_length_le (by omega)]at hnd
  rw[if_neg (by rw[decP_t hnd];simp)]
  repeat first|refine byW ?_|refine byV ?_;intro w hw
  exact⟨_,rfl,rfl,hw.drop⟩⟩
theorem seen_set_any{d:List Int}{x:Int}:∃d',aSet (seenL d) x true=seenL d'∧∀y,y∈d'↔y∈d∨y=x:=by
 by_cases h:x∈d
 ·refine⟨d,?_,fun y=>⟨.inl,fun hy=>by rcases hy with hy|rfl;exact hy;exact h⟩⟩
  unfold aSet;cases hi:aIx (seenL d) x with
  | none=>have:=seen_ix.2 h;rw[hi]at this;cases this
  | some i=>
   obtain⟨v,hv⟩:=aIx_get hi
   obtain⟨y,hy,he⟩:=List.mem_map.1 (List.mem_of_getElem? hv)
   cases he
   refine List.ext_getElem? fun k=>?_
   rw[List.getElem?_set];split
   ·rename_i e;subst e
    split
    ·exact hv.symm
    ·rename_i hlt;exact absurd (List.getElem?_eq_some_iff.1 hv).1 hlt
   ·rfl
 ·exact⟨d++[x],seen_set h,fun y=>by simp⟩
def DoneAt(es:List Pl)(i:Nat)(x:Int):Prop:=∃(j:Nat) (a b:Pl),j+1≤i∧es[j]? = some a∧es[j+1]? = some b∧a.1≠b.1∧a.1=x
def ProtoP(r:Int)(es:List Pl):Prop:=∀(i:Nat) (e:Pl),es[i]? = some e→e.1∈r::(es.take i).map (·.2)∧¬DoneAt es i e.1
theorem done_step{es:List Pl}{k:Nat}{x y:Pl}(hx:es[k]? = some x)(hy:0<k→es[k-1]? = some y)(z:Int):DoneAt es k z↔DoneAt es (k-1) z∨(0<k∧y.1≠x.1∧y.1=z):=by
 constructor
 ·rintro⟨j,a,b,h1,h2,h3,h4,h5⟩;by_cases e:j+1=k
  ·right
   have hj:j=k-1:=by omega
   subst hj;have h0:0<k:=by omega
   rw[hy h0]at h2;cases h2
   rw[e,hx]at h3;cases h3
   exact⟨h0,h4,h5⟩
  ·exact .inl ⟨j,a,b,by omega,h2,h3,h4,h5⟩
 ·rintro (⟨j,a,b,h1,h2,h3,h4,h5⟩|⟨h0,h1,h2⟩)
  ·exact⟨j,a,b,by omega,h2,h3,h4,h5⟩
  ·exact⟨k-1,y,x,by omega,hy h0,by rw[show k-1+1=k by omega];exact hx,h1,h2⟩
def knownT(H:HwT)(e:Pl):Bool:=(findC H.Cores e.1).2&&(findC H.Cores e.2).2
noncomputable def treeErr(H:HwT)(r:Int)(es:List Pl):Int:=
 if validS H=0 then (if ((findC H.Cores r).2&&es.all (knownT H))=true then (if decP (r::es.map (·.2)).Nodup=true then (if decP (ProtoP r es)=true then 0 else 66) else 56) else 57) else validS H
instance pg_VTree{Γ:Gho}{u v:Value}{H:HwT}[hh:HwR Γ u H]{es:List Pl}[hr:SlC Γ v 2 (es.map plV)][hsh:ShortL es](r:Int):PG Tryz.prog Γ 159 [u,.agg #[.int .i64 r,v]] (.int .i64 (treeErr H r es)):=⟨fun S w hw=>by
 have hh':=hh
 obtain⟨a1,n1,c1,a2,n2,c2,a3,n3,c3,a4,n4,c4,a5,n5,c5,cs,rfl,-⟩:=hh.h;have hrs:=hr.h
 obtain⟨am,nm,cm,rfl,hnm,hnmc,hcm⟩:=hr.h.shape;simp only[List.length_map]at hnm
 have hms:=hsh.h
 refine calls_of_W Tryz.func159 rfl rfl ?_
 repeat first|refine byW ?_|refine byV ?_;intro w hw
 refine lBox ?_;intro b2 w hw;refine lBox ?_;intro b3 w hw;have hw:Wd Γ (.blk b3 (.cells #[.int .i64 r,.slice am nm cm] 109)::.blk b2 (.cells #[.string H.Name,.slice a1 n1 c1,.slice a2 n2 c2,.slice a3 n3 c3,.slice a4 n4 c4,.slice a5 n5 c5] 30)::S) w:=hw
 unfold treeErr;repeat first|refine byW ?_|refine byV ?_;intro w hw
 refine W_cond rfl (fun h=>?_) (fun h=>?_)
 ·have h:¬validS H=0:=by simpa using h
  rw[if_neg h];repeat first|refine byW ?_|refine byV ?_;intro w hw
  exact⟨_,rfl,rfl,hw.ds [0,0]⟩
 have h:validS H=0:=by simpa using h
 rw[if_pos h];clear h;repeat first|refine byW ?_|refine byV ?_;intro w hw
 refine W_loop (fun μ ρ w=>∃(k:Nat),μ+k=nm∧Has ρ [(2,.pointer (some ⟨b2,0,none⟩)),(3,.pointer (some ⟨b3,0,none⟩)),(6,.bool ((findC H.Cores r).2&&(es.take k).all (knownT H))),(33,.slice am nm cm),(34,.int .i64 nm),(35,.int .i64 k)]∧Wd Γ (.blk b3 (.cells #[.int .i64 r,.slice am nm cm] 109)::.blk b2 (.cells #[.string H.Name,.slice a1 n1 c1,.slice a2 n2 c2,.slice a3 n3 c3,.slice a4 n4 c4,.slice a5 n5 c5] 30)::S) w) nm ⟨0,by omega,⟨rfl,rfl,by rw[List.take_zero,List.all_nil,Bool.and_true];rfl,rfl,rfl,rfl,trivial⟩,hw⟩ ?_
 clear hw;rintro μ ρ w ⟨k,hk,hρ,hw⟩
 rw[hρ.eq];clear hρ;repeat first|refine byW ?_|refine byV ?_;intro w hw
 refine W_cond rfl (fun h=>?_) (fun h=>?_)
 ·have hkn:k<nm:=by have:=of_decide_eq_true h;omega
  obtain⟨x,hx⟩:=get_lt (l:=es) (k:=k) (by omega)
  repeat first|refine byW ?_|refine byV ?_;intro w hw
  refine lAlloc ?_;intro b8 w hw;refine lStore ?_;intro w hw;have hw:Wd Γ (.blk b8 (.cells (plV x).toArray 164)::.blk b3 (.cells #[.int .i64 r,.slice am nm cm] 109)::.blk b2 (.cells #[.string H.Name,.slice a1 n1 c1,.slice a2 n2 c2,.slice a3 n3 c3,.slice a4 n4 c4,.slice a5 n5 c5] 30)::S) w:=hw
  repeat first|refine byW ?_|refine byV ?_;intro w hw
  refine lAlloc ?_;intro b9 w hw;refine lStore ?_;intro w hw;repeat first|refine byW ?_|refine byV ?_;intro w hw
  refine lAlloc ?_;intro b11 w hw;refine lStore ?_;intro w hw;have hw:Wd Γ (.blk b3 (.cells #[.int .i64 r,.slice am nm cm] 109)::.blk b2 (.cells #[.string H.Name,.slice a1 n1 c1,.slice a2 n2 c2,.slice a3 n3 c3,.slice a4 n4 c4,.slice a5 n5 c5] 30)::S) w:=hw.ds [0,0,0]
  repeat first|refine byW ?_|refine byV ?_;intro w hw
  refine⟨μ-1,by omega,k+1,by omega,⟨rfl,rfl,?_,rfl,rfl,rfl,trivial⟩,hw⟩
  rw[take_succ_of hx,List.all_append,←Bool.and_assoc];simp only[List.all_cons,List.all_nil,Bool.and_true]
  unfold knownT;rw[←Bool.and_assoc];rfl
 have hkn:¬k<nm:=by have:=of_decide_eq_false h;omega
 rw[List.take_of_length_le (by omega)]
 clear h hkn hk;repeat first|refine byW ?_|refine byV ?_;intro w hw
 refine W_cond rfl (fun h=>?_) (fun h=>?_)
 ·have h:(!((findC H.Cores r).2&&es.all (knownT H)))=true:=h
  rw[if_neg (fun hh=>by rw[hh]at h;cases h)]
  repeat first|refine byW ?_|refine byV ?_;intro w hw
  exact⟨_,rfl,rfl,hw.ds [0,0]⟩
 have h:(!((findC H.Cores r).2&&es.all (knownT H)))=false:=h
 rw[if_pos (by cases hb:((findC H.Cores r).2&&es.all (knownT H)) with|true=>rfl|false=>rw[hb]at h;cases h)]
 clear h;repeat first|refine byW ?_|refine byV ?_;intro w hw
 refine L_step rfl rfl (s_makeMap (K:=3) (α:=Int) (f:=Value.bool) hw fun bm w hw=>?_)
 have hw:=hw.ps [1]
 repeat first|refine byW ?_|refine byV ?_;intro w hw
 refine L_step rfl rfl (s_insert (s_mapUpdate (P:=Tryz.prog) (K:=3) (α:=Int) (f:=Value.bool) (i:=1) (v:=true) (a:=r) hw rfl rfl rfl rfl fun w hw=>?_))
 rw[show ([]:List (Int×Bool))=seenL ([]:List Int) from rfl,seen_set (by simp)]at hw
 have hw:Wd Γ (Res.mpT Tryz.prog 3 Value.bool bm (seenL (r::(es.take 0).map (·.2)))::.blk b3 (.cells #[.int .i64 r,.slice am nm cm] 109)::.blk b2 (.cells #[.string H.Name,.slice a1 n1 c1,.slice a2 n2 c2,.slice a3 n3 c3,.slice a4 n4 c4,.slice a5 n5 c5] 30)::S) w:=hw.ps [1]
 repeat first|refine byW ?_|refine byV ?_;intro w hw
 refine W_loop (fun μ ρ w=>∃(k:Nat),μ+k=nm∧Has ρ [(3,.pointer (some ⟨b3,0,none⟩)),(13,.map (some bm)),(68,.slice am nm cm),(69,.int .i64 nm),(70,.int .i64 k)]∧(r::(es.take k).map (·.2)).Nodup∧Wd Γ (Res.mpT Tryz.prog 3 Value.bool bm (seenL (r::(es.take k).map (·.2)))::.blk b3 (.cells #[.int .i64 r,.slice am nm cm] 109)::.blk b2 (.cells #[.string H.Name,.slice a1 n1 c1,.slice a2 n2 c2,.slice a3 n3 c3,.slice a4 n4 c4,.slice a5 n5 c5] 30)::S) w) nm ⟨0,by omega,⟨rfl,rfl,rfl,rfl,rfl,trivial⟩,by simp,hw⟩ ?_
 clear hw;rintro μ ρ w ⟨k,hk,hρ,hnd,hw⟩
 rw[hρ.eq];clear hρ;repeat first|refine byW ?_|refine byV ?_;intro w hw
 refine W_cond rfl (fun h=>?_) (fun h=>?_)
 ·have hkn:k<nm:=by have:=of_decide_eq_true h;omega
  obtain⟨x,hx⟩:=get_lt (l:=es) (k:=k) (by omega)
  repeat first|refine byW ?_|refine byV ?_;intro w hw
  refine lAlloc ?_;intro b15 w hw;refine lStore ?_;intro w hw;have hw:Wd Γ (.blk b15 (.cells (plV x).toArray 164)::Res.mpT Tryz.prog 3 Value.bool bm (seenL (r::(es.take k).map (·.2)))::.blk b3 (.cells #[.int .i64 r,.slice am nm cm] 109)::.blk b2 (.cells #[.string H.Name,.slice a1 n1 c1,.slice a2 n2 c2,.slice a3 n3 c3,.slice a4 n4 c4,.slice a5 n5 c5] 30)::S) w:=hw
  repeat first|refine byW ?_|refine byV ?_;intro w hw
  letI hdm:Decidable (x.2∈r::(es.take k).map (·.2)):=Classical.propDecidable _
  refine L_y rfl rfl (v:=.bool (decide (x.2∈r::(es.take k).map (·.2)))) ?_ ?_
  ·by_cases hm:x.2∈r::(es.take k).map (·.2)
   ·rw[decide_eq_true hm];exact y_lookup_some (P:=Tryz.prog) (K:=3) (α:=Int) (f:=Value.bool) (i:=1) hw rfl rfl rfl (seen_some hm) false
   ·rw[decide_eq_false hm];exact y_lookup_none (P:=Tryz.prog) (K:=3) (α:=Int) (f:=Value.bool) (i:=1) hw rfl rfl rfl (seen_none hm) false
  have hx1:(r::es.map (·.2))[k+1]? = some x.2:=by simp[hx]
  have ht1:(r::es.map (·.2)).take (k+1)=r::(es.take k).map (·.2):=by simp[List.map_take]
  have ht2:r::(es.take (k+1)).map (·.2)=(r::(es.take k).map (·.2))++[x.2]:=by rw[take_succ_of hx];simp
  repeat first|refine byW ?_|refine byV ?_;intro w hw
  refine W_cond rfl (fun h2=>?_) (fun h2=>?_)
  ·have hm:x.2∈r::(es.take k).map (·.2):=by simpa using h2
   rw[if_neg (by rw[decP_f (not_nodup_at hx1 (by rw[ht1];exact hm))];simp)]
   repeat first|refine byW ?_|refine byV ?_;intro w hw
   exact⟨_,rfl,rfl,hw.ds [0,0,0,0]⟩
  ·have hm:x.2∉r::(es.take k).map (·.2):=by simpa using h2
   repeat first|refine byW ?_|refine byV ?_;intro w hw
   refine L_step rfl rfl (s_mapUpdate (P:=Tryz.prog) (K:=3) (α:=Int) (f:=Value.bool) (i:=1) (v:=true) hw rfl rfl rfl rfl fun w hw=>?_)
   rw[seen_set hm,←ht2]at hw;have hw:Wd Γ (Res.mpT Tryz.prog 3 Value.bool bm (seenL (r::(es.take (k+1)).map (·.2)))::.blk b3 (.cells #[.int .i64 r,.slice am nm cm] 109)::.blk b2 (.cells #[.string H.Name,.slice a1 n1 c1,.slice a2 n2 c2,.slice a3 n3 c3,.slice a4 n4 c4,.slice a5 n5 c5] 30)::S) w:=hw.drop
   repeat first|refine byW ?_|refine byV ?_;intro w hw
   exact⟨μ-1,by omega,k+1,by omega,⟨rfl,rfl,rfl,rfl,rfl,trivial⟩,by rw[ht2];exact nodup_snoc.2 ⟨hnd,hm⟩,hw⟩
 have hkn:¬k<nm:=by have:=of_decide_eq_false h;omega
 rw[List.take_of_length_le (by omega)]at hnd
 rw[if_pos (decP_t hnd)];have hw:Wd Γ (.blk b3 (.cells #[.int .i64 r,.slice am nm cm] 109)::.blk b2 (.cells #[.string H.Name,.slice a1 n1 c1,.slice a2 n2 c2,.slice a3 n3 c3,.slice a4 n4 c4,.slice a5 n5 c5] 30)::S) w:=hw.drop
 clear h hkn hk;repeat first|refine byW ?_|refine byV ?_;intro w hw
 refine L_step rfl rfl (s_makeMap (K:=3) (α:=Int) (f:=Value.bool) hw fun bs w hw=>?_)
 have hw:=hw.ps [1]
 repeat first|refine byW ?_|refine byV ?_;intro w hw
 refine L_step rfl rfl (s_insert (s_mapUpdate (P:=Tryz.prog) (K:=3) (α:=Int) (f:=Value.bool) (i:=1) (v:=true) (a:=r) hw rfl rfl rfl rfl fun w hw=>?_))
 rw[show ([]:List (Int×Bool))=seenL ([]:List Int) from rfl,seen_set (by simp)]at hw
 have hw:Wd Γ (Res.mpT Tryz.prog 3 Value.bool bs (seenL (r::(es.take 0).map (·.2)))::.blk b3 (.cells #[.int .i64 r,.slice am nm cm] 109)::.blk b2 (.cells #[.string H.Name,.slice a1 n1 c1,.slice a2 n2 c2,.slice a3 n3 c3,.slice a4 n4 c4,.slice a5 n5 c5] 30)::S) w:=hw.ps [1]
 repeat first|refine byW ?_|refine byV ?_;intro w hw
 refine L_step rfl rfl (s_makeMap (K:=3) (α:=Int) (f:=Value.bool) hw fun bd w hw=>?_)
 have hw:Wd Γ (Res.mpT Tryz.prog 3 Value.bool bd (seenL ([]:List Int))::Res.mpT Tryz.prog 3 Value.bool bs (seenL (r::(es.take 0).map (·.2)))::.blk b3 (.cells #[.int .i64 r,.slice am nm cm] 109)::.blk b2 (.cells #[.string H.Name,.slice a1 n1 c1,.slice a2 n2 c2,.slice a3 n3 c3,.slice a4 n4 c4,.slice a5 n5 c5] 30)::S) w:=hw
 repeat first|refine byW ?_|refine byV ?_;intro w hw
 refine W_loop (fun μ ρ w=>∃(k:Nat) (d:List Int),μ+k=nm∧Has ρ [(3,.pointer (some ⟨b3,0,none⟩)),(16,.map (some bs)),(17,.map (some bd)),(88,.slice am nm cm),(89,.int .i64 nm),(90,.int .i64 k)]∧(∀y,y∈d↔DoneAt es (k-1) y)∧(∀i e,i<k→es[i]? = some e→e.1∈r::(es.take i).map (·.2)∧¬DoneAt es i e.1)∧Wd Γ (Res.mpT Tryz.prog 3 Value.bool bd (seenL d)::Res.mpT Tryz.prog 3 Value.bool bs (seenL (r::(es.take k).map (·.2)))::.blk b3 (.cells #[.int .i64 r,.slice am nm cm] 109)::.blk b2 (.cells #[.string H.Name,.slice a1 n1 c1,.slice a2 n2 c2,.slice a3 n3 c3,.slice a4 n4 c4,.slice a5 n5 c5] 30)::S) w) nm ⟨0,[],by omega,⟨rfl,rfl,rfl,rfl,rfl,rfl,trivial⟩,fun y=>⟨fun h=>by simp at h,fun⟨j,_,_,h,_⟩=>by omega⟩,fun i e h=>by omega,hw⟩ ?_
 clear hw;rintro μ ρ w ⟨k,d,hk,hρ,hd,hall,hw⟩
 rw[hρ.eq];clear hρ;repeat first|refine byW ?_|refine byV ?_;intro w hw
 refine W_cond rfl (fun h=>?_) (fun h=>?_)
 ·have hkn:k<nm:=by have:=of_decide_eq_true h;omega
  obtain⟨x,hx⟩:=get_lt (l:=es) (k:=k) (by omega)
  obtain⟨y,hy⟩:∃y:Pl,0<k→es[((k:Int)-1).toNat]? = some y:=by
   by_cases h0:0<k
   ·obtain⟨y,hy⟩:=get_lt (l:=es) (k:=((k:Int)-1).toNat) (by omega)
    exact⟨y,fun _=>hy⟩
   ·exact⟨x,fun h=>absurd h h0⟩
  repeat first|refine byW ?_|refine byV ?_;intro w hw
  refine lAlloc ?_;intro b19 w hw;repeat first|refine byW ?_|refine byV ?_;intro w hw
  refine lStore ?_;intro w hw;have hw:Wd Γ (.blk b19 (.cells (plV x).toArray 164)::Res.mpT Tryz.prog 3 Value.bool bd (seenL d)::Res.mpT Tryz.prog 3 Value.bool bs (seenL (r::(es.take k).map (·.2)))::.blk b3 (.cells #[.int .i64 r,.slice am nm cm] 109)::.blk b2 (.cells #[.string H.Name,.slice a1 n1 c1,.slice a2 n2 c2,.slice a3 n3 c3,.slice a4 n4 c4,.slice a5 n5 c5] 30)::S) w:=hw
  repeat first|refine byW ?_|refine byV ?_;intro w hw
  refine W_quiet (by kernel_rfl) (by kernel_rfl) hw ?_
  refine byQ ?_;apply Q_guarded
  refine qG ?_ (hy:=fun hc w hw=>by
   have h0:=hy (by have:=of_decide_eq_true hc;omega)
   exact byPUG)
  refine byQ ?_;intro w hw;have hy1:0<k→es[k-1]? = some y:=fun h0=>by rw[←hy h0,show ((k:Int)-1).toNat=k-1 by omega]
  refine W_cutT (fun ρ w=>∃(d:List Int),Has ρ [(3,.pointer (some ⟨b3,0,none⟩)),(16,.map (some bs)),(17,.map (some bd)),(19,.pointer (some ⟨b19,0,none⟩)),(88,.slice am nm cm),(89,.int .i64 nm),(90,.int .i64 k)]∧(∀y,y∈d↔DoneAt es k y)∧Wd Γ (.blk b19 (.cells (plV x).toArray 164)::Res.mpT Tryz.prog 3 Value.bool bd (seenL d)::Res.mpT Tryz.prog 3 Value.bool bs (seenL (r::(es.take k).map (·.2)))::.blk b3 (.cells #[.int .i64 r,.slice am nm cm] 109)::.blk b2 (.cells #[.string H.Name,.slice a1 n1 c1,.slice a2 n2 c2,.slice a3 n3 c3,.slice a4 n4 c4,.slice a5 n5 c5] 30)::S) w) ?_ ?_
  ·refine W_cond rfl (fun h2=>?_) (fun h2=>?_)
   ·have h2:(decide ((k:Int) > 0)&&decide (y.1≠x.1))=true:=h2
    simp only[Bool.and_eq_true,decide_eq_true_eq]at h2
    have h0:0<k:=by omega
    have hy0:=hy h0
    obtain⟨d',hd1,hd2⟩:=seen_set_any (d:=d) (x:=y.1)
    repeat first|refine byW ?_|refine byV ?_;intro w hw
    refine L_step rfl rfl (s_mapUpdate (P:=Tryz.prog) (K:=3) (α:=Int) (f:=Value.bool) (i:=1) (v:=true) (a:=y.1) hw rfl rfl rfl rfl fun w hw=>?_)
    rw[hd1]at hw;repeat first|refine byW ?_|refine byV ?_;intro w hw
    exact⟨d',⟨rfl,rfl,rfl,rfl,rfl,rfl,rfl,trivial⟩,fun z=>by rw[hd2,done_step hx hy1,hd];exact or_congr Iff.rfl ⟨fun e=>⟨h0,h2.2,e.symm⟩,fun e=>e.2.2.symm⟩,hw⟩
   ·have h2:(decide ((k:Int) > 0)&&decide (y.1≠x.1))=false:=h2
    repeat first|refine byW ?_|refine byV ?_;intro w hw
    refine⟨d,⟨rfl,rfl,rfl,rfl,rfl,rfl,rfl,trivial⟩,fun z=>?_,hw⟩
    rw[done_step hx hy1,hd];refine⟨.inl,fun hh=>?_⟩
    rcases hh with hh|⟨e1,e2,-⟩
    ·exact hh
    ·have:(decide ((k:Int) > 0)&&decide (y.1≠x.1))=true:=by
      rw[decide_eq_true (show (k:Int) > 0 by omega),decide_eq_true e2];rfl
     rw[this]at h2;cases h2
  ·clear hw;rintro ρ w ⟨d,hρ,hd,hw⟩
   rw[hρ.eq];clear hρ;letI hdm:Decidable (x.1∈r::(es.take k).map (·.2)):=Classical.propDecidable _
   letI hdm2:Decidable (x.1∈d):=Classical.propDecidable _
   have ht2:r::(es.take (k+1)).map (·.2)=(r::(es.take k).map (·.2))++[x.2]:=by rw[take_succ_of hx];simp
   repeat first|refine byW ?_|refine byV ?_;intro w hw
   refine L_y rfl rfl (v:=.bool (decide (x.1∈r::(es.take k).map (·.2)))) ?_ ?_
   ·by_cases hm:x.1∈r::(es.take k).map (·.2)
    ·rw[decide_eq_true hm];exact y_lookup_some (P:=Tryz.prog) (K:=3) (α:=Int) (f:=Value.bool) (i:=2) hw rfl rfl rfl (seen_some hm) false
    ·rw[decide_eq_false hm];exact y_lookup_none (P:=Tryz.prog) (K:=3) (α:=Int) (f:=Value.bool) (i:=2) hw rfl rfl rfl (seen_none hm) false
   repeat first|refine byW ?_|refine byV ?_;intro w hw
   refine lG (v:=.bool (decide (x.1∈d))) ?_ (hv:=fun hc=>by
    by_cases hm:x.1∈d
    ·rw[decide_eq_true hm];exact y_lookup_some (P:=Tryz.prog) (K:=3) (α:=Int) (f:=Value.bool) (i:=1) hw byOP byOP rfl (seen_some hm) false
    ·rw[decide_eq_false hm];exact y_lookup_none (P:=Tryz.prog) (K:=3) (α:=Int) (f:=Value.bool) (i:=1) hw byOP byOP rfl (seen_none hm) false)
   repeat first|refine byW ?_|refine byV ?_;intro w hw
   refine W_cond rfl (fun h2=>?_) (fun h2=>?_)
   ·have h2:((!decide (x.1∈r::(es.take k).map (·.2)))||decide (x.1∈d))=true:=h2
    rw[if_neg (by
     rw[decP_f (p:=ProtoP r es) (fun hP=>by
      obtain⟨p1,p2⟩:=hP k x hx
      rw[decide_eq_true p1,decide_eq_false (fun hh=>p2 ((hd x.1).1 hh))]at h2;cases h2)]
     simp)]
    repeat first|refine byW ?_|refine byV ?_;intro w hw
    exact⟨_,rfl,rfl,hw.ds [0,0,0,0,0]⟩
   ·have h2:((!decide (x.1∈r::(es.take k).map (·.2)))||decide (x.1∈d))=false:=h2
    obtain⟨q1,q2⟩:=Bool.or_eq_false_iff.1 h2
    have q1:x.1∈r::(es.take k).map (·.2):=by
     by_cases hm:x.1∈r::(es.take k).map (·.2)
     ·exact hm
     ·rw[decide_eq_false hm]at q1;cases q1
    have q2:x.1∉d:=of_decide_eq_false q2
    have hm:x.2∉r::(es.take k).map (·.2):=by
     have hs:(r::(es.take (k+1)).map (·.2)).Nodup:=by
      rw[List.map_take];exact((List.take_sublist _ _).cons_cons r).nodup hnd
     rw[ht2]at hs;exact(nodup_snoc.1 hs).2
    repeat first|refine byW ?_|refine byV ?_;intro w hw
    refine L_step rfl rfl (s_mapUpdate (P:=Tryz.prog) (K:=3) (α:=Int) (f:=Value.bool) (i:=2) (v:=true) (a:=x.2) hw rfl rfl rfl rfl fun w hw=>?_)
    rw[seen_set hm,←ht2]at hw;repeat first|refine byW ?_|refine byV ?_;intro w hw
    refine⟨μ-1,by omega,k+1,d,by omega,⟨rfl,rfl,rfl,rfl,rfl,rfl,trivial⟩,hd,fun i e hi he=>?_,hw.drop⟩
    by_cases ei:i=k
    ·subst ei;rw[hx]at he;cases he
     exact⟨q1,fun hh=>q2 ((hd x.1).2 hh)⟩
    ·exact hall i e (by omega) he
 ·have hkn:¬k<nm:=by have:=of_decide_eq_false h;omega
  rw[if_pos (decP_t (p:=ProtoP r es) (fun i e he=>hall i e (by have:=(List.getElem?_eq_some_iff.1 he).1;omega) he))]
  repeat first|refine byW ?_|refine byV ?_;intro w hw
  exact⟨_,rfl,rfl,hw.ds [0,0,0,0]⟩⟩
end Go.Proofs.YtfoggcgogafocaaGreat
end
section
open Go Mk
namespace Go.Proofs.YtfoggcgogafocaaGreat
theorem findC_mem{l:List CoreT}{id:Int}(h:(findC l id).2=true):(findC l id).1∈l∧(findC l id).1.ID=id:=by
 rcases coreIx_cases l id with⟨-,h2,-⟩|⟨k,x,-,hx,he,h2⟩
 ·rw[h2]at h;cases h
 ·rw[h2];exact⟨List.mem_of_getElem? hx,he⟩
theorem core_node{H:HwT}(hv:validS H=0){c:CoreT}(hc:c∈H.Cores):0≤c.Node∧c.Node<64:=by
 obtain⟨-,-,h3,-⟩:=valid_all hv
 unfold coresRB at h3;simp only[Bool.and_eq_true]at h3
 have:=List.all_eq_true.1 h3.1.1 c hc
 simp[coreRB,isNodeB]at this
 omega
theorem core_reach{H:HwT}(hv:validS H=0){c:CoreT}(hc:c∈H.Cores):Reach H.Links ((usedN H).headD 0) c.Node:=by
 obtain⟨-,-,-,-,-,-,-,-,h9⟩:=valid_all hv
 have hP:ConnP H:=by
  by_cases h:ConnP H
  ·exact h
  ·unfold connB at h9;rw[decP_f h]at h9;cases h9
 refine hP c.Node ?_
 unfold usedN;exact List.mem_append_left _ (List.mem_append_left _ (List.mem_map.2 ⟨c,hc,rfl⟩))
theorem coreN_rng{H:HwT}(hv:validS H=0){x:Int}(h:(findC H.Cores x).2=true):0≤coreN H x∧coreN H x<64:=core_node hv (findC_mem h).1
theorem far_le{H:HwT}(hv:validS H=0){x y:Int}(h:(findC H.Cores x).2=true)(k:(findC H.Cores y).2=true):0≤farI H x y∧farI H x y≤63000000:=by
 have hL:=valid_links hv
 have hx:=coreN_rng hv h
 refine⟨?_,(dst_le hL hx).2⟩
 exact dstI_reach hL hx (core_reach hv (findC_mem h).1) (core_reach hv (findC_mem k).1)
def updI(f:Int→Int)(a v:Int):Int→Int:=fun x=>if a=x then v else f x
def arrF(far:Int→Int→Int)(cost:Int):(Int→Int)→(Int→Int)→List Pl→List Int
 | _,_,[]=>[]
 | st,sn,e::es=>(st e.1+(sn e.1+1)*cost+far e.1 e.2)::arrF far cost (updI st e.2 (st e.1+(sn e.1+1)*cost+far e.1 e.2)) (updI sn e.1 (sn e.1+1)) es
theorem arrF_len(far:Int→Int→Int)(cost:Int):∀(es:List Pl) (st sn:Int→Int),(arrF far cost st sn es).length=es.length
 | [],_,_=>rfl
 | e::es,st,sn=>by unfold arrF;rw[List.length_cons,arrF_len far cost es,List.length_cons]
def MapF(l:List (Int×Int))(f:Int→Int):Prop:=∀x,(aGet l x).getD 0=f x
theorem mapF_set{l:List (Int×Int)}{f:Int→Int}(h:MapF l f)(a v:Int):MapF (aSet l a v) (updI f a v):=fun x=>by
 rw[aGet_aSet];unfold updI;split
 ·rfl
 ·exact h x
theorem y_lookupF{Γ:Gho}{S:List Res}{w:World}{ρ:Fr}{d:Option Tmp}{T ty ET:TypeId}{pos:String}{es:Array Edge}{g:Option (Nat×Bool)}{x y:Operand}{l:List (Int×Int)}{f:Int→Int}{a:Int}{bm i:Nat}[hM:TMap Tryz.prog T 3 ET][hz:TZV Tryz.prog ET (.int .i64 0)](hw:Wd Γ S w)(hl:MapF l f)(hi:S[i]? = some (Res.mpT Tryz.prog 3 (fun n:Int=>Value.int .i64 n) bm l))(hx:ev ρ x=.map (some bm))(hy:ev ρ y=.int .i64 a) :
  Mk.Yields Tryz.prog ⟨d,.lookup T x y false,ty,pos,es,g⟩ ρ w (.int .i64 (f a)):=by
 have h:=hl a
 cases hg:aGet l a with
 | some v=>
  rw[hg]at h;rw[←h];exact y_lookup_some (f:=fun n:Int=>Value.int .i64 n) hw hx hy hi hg false
 | none=>
  rw[hg]at h;rw[←h];exact y_lookup_none (f:=fun n:Int=>Value.int .i64 n) hw hx hy hi hg false
set_option maxHeartbeats 8000000
attribute [local irreducible] Calls
theorem max_if(a b:Int):max a b=if a<b then b else a:=by
 split <;> omega
theorem completion_of{Γ:Gho}{u:Value}{H:HwT}[hh:HwR Γ u H]{r cost err:Int}{am:Option Addr}{nm cm:Nat}{l:List Int}(hlen:l.length≤1000)
  (hA:∀S w,Wd Γ S w→Calls Tryz.prog 92 #[u,.agg #[.int .i64 r,.slice am nm cm],.int .i64 cost] w fun e w'=>∃v,e=.returned (.tuple #[v,.int .i64 err])∧Wd Γ (.own v 3 1 (intRows l)::S) w') {S:List Res} {w:World} (hw:Wd Γ S w) :
  Calls Tryz.prog 41 #[u,.agg #[.int .i64 r,.slice am nm cm],.int .i64 cost] w fun e w'=>e=.returned (.tuple #[.int .i64 (if err=0 then l.foldl max 0 else 0),.int .i64 err])∧Wd Γ S w':=by
 obtain⟨a1,n1,c1,a2,n2,c2,a3,n3,c3,a4,n4,c4,a5,n5,c5,cs,rfl,-⟩:=hh.h;refine calls_of_W Tryz.func41 rfl rfl ?_
 repeat first|refine byW ?_|refine byV ?_;intro w hw
 refine lBox ?_;intro b3 w hw;refine lBox ?_;intro b4 w hw;have hw:Wd Γ (.blk b4 (.cells #[.int .i64 r,.slice am nm cm] 109)::.blk b3 (.cells #[.string H.Name,.slice a1 n1 c1,.slice a2 n2 c2,.slice a3 n3 c3,.slice a4 n4 c4,.slice a5 n5 c5] 30)::S) w:=hw
 repeat first|refine byW ?_|refine byV ?_;intro w hw
 refine lCall ((hA _ w hw).mono fun e w hq=>?_)
 obtain⟨v,rfl,hw⟩:=hq;obtain⟨av,nv,cv,rfl,hnv,hncv,-⟩:=hw.own_shape (i:=0) rfl
 simp only[intRows,List.length_map]at hnv
 refine⟨_,rfl,?_⟩;repeat first|refine byW ?_|refine byV ?_;intro w hw
 refine W_cond rfl (fun h=>?_) (fun h=>?_)
 ·have h:¬err=0:=by simpa using h
  rw[if_neg h];repeat first|refine byW ?_|refine byV ?_;intro w hw
  exact⟨_,rfl,rfl,hw.ds [0,0,0]⟩
 have h:err=0:=by simpa using h
 subst h;rw[if_pos rfl];repeat first|refine byW ?_|refine byV ?_;intro w hw
 refine W_loop (fun μ ρ w=>∃(k:Nat),μ+k=nv∧Has ρ [(10,.int .i64 ((l.take k).foldl max 0)),(23,.slice av nv cv),(24,.int .i64 nv),(25,.int .i64 k)]∧Wd Γ (.own (.slice av nv cv) 3 1 (intRows l)::.blk b4 (.cells #[.int .i64 r,.slice am nm cm] 109)::.blk b3 (.cells #[.string H.Name,.slice a1 n1 c1,.slice a2 n2 c2,.slice a3 n3 c3,.slice a4 n4 c4,.slice a5 n5 c5] 30)::S) w) nv ⟨0,by omega,⟨rfl,rfl,rfl,rfl,trivial⟩,hw⟩ ?_
 clear hw;rintro μ ρ w ⟨k,hk,hρ,hw⟩
 rw[hρ.eq];clear hρ;repeat first|refine byW ?_|refine byV ?_;intro w hw
 refine W_cond rfl (fun h=>?_) (fun h=>?_)
 ·have hkn:k<nv:=by have:=of_decide_eq_true h;omega
  obtain⟨x,hx⟩:=get_lt (l:=l) (k:=k) (by omega)
  have hst:(l.take (k+1)).foldl max 0=max ((l.take k).foldl max 0) x:=by rw[take_succ_of hx,List.foldl_append];rfl
  repeat first|refine byW ?_|refine byV ?_;intro w hw
  refine⟨μ-1,by omega,k+1,by omega,⟨?_,rfl,rfl,rfl,trivial⟩,hw⟩
  rw[hst,max_if];rfl
 ·have hkn:¬k<nv:=by have:=of_decide_eq_false h;omega
  rw[List.take_of_length_le (by omega)]
  repeat first|refine byW ?_|refine byV ?_;intro w hw
  exact⟨_,rfl,rfl,hw.ds [0,0,0]⟩
noncomputable def btwP(bb:Nat)(H:HwT)(a1:Option Addr)(n1 c1:Nat)(a2:Option Addr)(n2 c2:Nat)(a3:Option Addr)(n3 c3:Nat)(a4:Option Addr)(n4 c4:Nat)(a5:Option Addr)(n5 c5:Nat):Res:=
 Res.pk (fun q:Nat×List (Int×Value)=>(q.2.map (·.1)).Nodup) (fun q=>btwB bb H a1 n1 c1 a2 n2 c2 a3 n3 c3 a4 n4 c4 a5 n5 c5 q.1::adjM q.1 q.2::q.2.map (dsO H))
theorem coresP_any{Γ:Gho}{H:HwT}{a1:Option Addr}{n1 c1:Nat}{a2:Option Addr}{n2 c2:Nat}{a3:Option Addr}{n3 c3:Nat}{a4:Option Addr}{n4 c4:Nat}{a5:Option Addr}{n5 c5:Nat}[hh:HwR Γ (.agg #[.string H.Name,.slice a1 n1 c1,.slice a2 n2 c2,.slice a3 n3 c3,.slice a4 n4 c4,.slice a5 n5 c5]) H](hL:LinksOk H.Links){x y:Int}(hx:0≤coreN H x∧coreN H x<64)(hy:0≤coreN H y∧coreN H y<64){bb:Nat}{S:List Res}{w:World}(hw:Wd Γ (btwP bb H a1 n1 c1 a2 n2 c2 a3 n3 c3 a4 n4 c4 a5 n5 c5::S) w) :
  Calls Tryz.prog 156 #[.pointer (some ⟨bb,0,none⟩),.int .i64 x,.int .i64 y] w fun e w'=>e=.returned (.int .i64 (farI H x y))∧Wd Γ (btwP bb H a1 n1 c1 a2 n2 c2 a3 n3 c3 a4 n4 c4 a5 n5 c5::S) w':=by
 unfold btwP at hw;obtain⟨⟨bm,l⟩,hl,hw⟩:=Wd.unpack hw
 refine(cores_any (bm:=bm) (l:=l) hL hx hy hl (S:=S) hw).mono fun e w' hq=>?_
 obtain⟨h1,l',hl',hw'⟩:=hq;unfold btwP;exact⟨h1,Wd.pack (bm,l') hl' hw'⟩
theorem btwP_new{Γ:Gho}{H:HwT}{a1:Option Addr}{n1 c1:Nat}{a2:Option Addr}{n2 c2:Nat}{a3:Option Addr}{n3 c3:Nat}{a4:Option Addr}{n4 c4:Nat}{a5:Option Addr}{n5 c5:Nat}{bb bm:Nat}{S:List Res}{w:World}(hw:Wd Γ (btwB bb H a1 n1 c1 a2 n2 c2 a3 n3 c3 a4 n4 c4 a5 n5 c5 bm::adjM bm []::S) w):Wd Γ (btwP bb H a1 n1 c1 a2 n2 c2 a3 n3 c3 a4 n4 c4 a5 n5 c5::S) w:=by
 unfold btwP;exact Wd.pack (bm,[]) (by simp) hw
set_option maxHeartbeats 4000000
structure Val where
 Kind:Int
 Num:Int
 Word:ByteArray
 deriving DecidableEq,Inhabited
instance:GoT Val where
 enc a:=[.int .i64 a.Kind,.int .i64 a.Num,.string a.Word]
 inj a b h:=by cases a;cases b;simp at h;simp[h]
 ks:=[5,5,1]
 kinds a:=rfl
def cV(a b:Val):Int:=orI (cI a.Kind b.Kind) (orI (cI a.Num b.Num) (cB a.Word b.Word))
theorem cV_ord:Ord3 cV:=(cI_ord.prod (cI_ord.prod cB_ord)).map (fun v:Val=>(v.Kind,v.Num,v.Word)) fun a b h=>by cases a;cases b;simp at h;simp[h]
abbrev Fact:=ByteArray×List Val
def cFact(a b:Fact):Int:=orI (cB a.1 b.1) (orI (cI a.2.length b.2.length) (cL cV a.2 b.2))
theorem cFact_ord:Ord3 cFact:=(cB_ord.prod (cI_ord.prod cV_ord.list)).map (fun f:Fact=>(f.1,((f.2.length:Int),f.2))) fun a b h=>by
 simp only[Prod.mk.injEq]at h;exact Prod.ext h.1 h.2.2
structure FactH where
 Rel:ByteArray
 A:Option Addr
 N:Nat
 C:Nat
 Args:List Val
def FactH.hdr(f:FactH):Value:=.slice f.A f.N f.C
def FactH.fact(f:FactH):Fact:=(f.Rel,f.Args)
def cF(f:FactH):List Value:=[.string f.Rel,f.hdr]
def FOk(Γ:Gho)(f:FactH):Prop:=RepS Γ f.hdr 3 (f.Args.map enc)
theorem FOk.len{Γ:Gho}{f:FactH}(h:FOk Γ f):f.N=f.Args.length∧f.N≤f.C∧f.C≤9223372036854775807:=by
 obtain⟨a,n,c,h1,h2,h3,h4⟩:=RepS.shape h
 unfold FactH.hdr at h1;cases h1
 exact⟨by simpa using h2,h3,h4⟩
theorem cF_one(f:FactH):(cF f).all (·.oneCell')=true:=rfl
theorem cFs_one(fs:List FactH):∀u∈(fs.map cF).flatten,u.oneCell'=true:=fun u hu=>by
 obtain⟨r,hr,hu⟩:=List.mem_flatten.1 hu
 obtain⟨f,_,rfl⟩:=List.mem_map.1 hr
 exact(List.all_eq_true.1 (cF_one f)) u hu
instance pc_isNaNs(s:ByteArray):PC Tryz.prog 177 [.string s] (.bool false):=⟨fun w=>by
 refine calls_of_W Tryz.func177 rfl rfl ?_
 repeat first|refine byW ?_|refine byV ?_;intro w hw
 exact⟨_,rfl,ret_b rfl (by simp),rfl⟩⟩
instance pc_isNaNi(s:Int):PC Tryz.prog 155 [.int .i64 s] (.bool false):=⟨fun w=>by
 refine calls_of_W Tryz.func155 rfl rfl ?_
 repeat first|refine byW ?_|refine byV ?_;intro w hw
 exact⟨_,rfl,ret_b rfl (by simp),rfl⟩⟩
instance pc_isNaNl(s:Int):PC Tryz.prog 205 [.int .i64 s] (.bool false):=⟨fun w=>by
 refine calls_of_W Tryz.func205 rfl rfl ?_
 repeat first|refine byW ?_|refine byV ?_;intro w hw
 exact⟨_,rfl,ret_b rfl (by simp),rfl⟩⟩
instance pc_cmps(a b:ByteArray):PC Tryz.prog 96 [.string a,.string b] (.int .i64 (cB a b)):=⟨fun w=>by
 refine calls_of_W Tryz.func96 rfl rfl ?_
 repeat first|refine byW ?_|refine byV ?_;intro w hw
 refine W_cond_false rfl ?_
 repeat first|refine byW ?_|refine byV ?_;intro w hw
 refine W_cond_false rfl ?_
 repeat first|refine byW ?_|refine byV ?_;intro w hw
 refine W_cond rfl (fun h=>?_) (fun h=>?_)
 ·repeat first|refine byW ?_|refine byV ?_;intro w hw
  exact⟨_,rfl,ret_i rfl (by simp[cB,h]),rfl⟩
 repeat first|refine byW ?_|refine byV ?_;intro w hw
 refine W_cond rfl (fun h2=>?_) (fun h2=>?_)
 ·repeat first|refine byW ?_|refine byV ?_;intro w hw
  exact⟨_,rfl,ret_i rfl (by simp[cB,h,h2]),rfl⟩
 ·repeat first|refine byW ?_|refine byV ?_;intro w hw
  exact⟨_,rfl,ret_i rfl (by simp[cB,h,h2]),rfl⟩⟩
instance pc_cmpi(a b:Int):PC Tryz.prog 90 [.int .i64 a,.int .i64 b] (.int .i64 (cI a b)):=⟨fun w=>by
 refine calls_of_W Tryz.func90 rfl rfl ?_
 refine byG ?_;refine W_cond_false rfl ?_
 refine byG ?_;refine W_cond_false rfl ?_
 refine byG ?_;refine W_cond rfl (fun h=>?_) (fun h=>?_)
 ·refine byG ?_;exact⟨_,rfl,ret_i rfl (by simp at h;simp[cI,h]),rfl⟩
 refine byG ?_;refine W_cond rfl (fun h2=>?_) (fun h2=>?_)
 ·refine byG ?_;exact⟨_,rfl,ret_i rfl (by simp at h h2;unfold cI;rw[if_neg (by omega),if_pos h2]),rfl⟩
 ·refine byG ?_;exact⟨_,rfl,ret_i rfl (by simp at h h2;unfold cI;rw[if_neg (by omega),if_neg (by omega)]),rfl⟩⟩
instance pc_cmpl(a b:Int):PC Tryz.prog 142 [.int .i64 a,.int .i64 b] (.int .i64 (cI a b)):=⟨fun w=>by
 refine calls_of_W Tryz.func142 rfl rfl ?_
 repeat first|refine byW ?_|refine byV ?_;intro w hw
 refine W_cond_false rfl ?_
 repeat first|refine byW ?_|refine byV ?_;intro w hw
 refine W_cond_false rfl ?_
 repeat first|refine byW ?_|refine byV ?_;intro w hw
 refine W_cond rfl (fun h=>?_) (fun h=>?_)
 ·repeat first|refine byW ?_|refine byV ?_;intro w hw
  exact⟨_,rfl,ret_i rfl (by simp at h;simp[cI,h]),rfl⟩
 repeat first|refine byW ?_|refine byV ?_;intro w hw
 refine W_cond rfl (fun h2=>?_) (fun h2=>?_)
 ·repeat first|refine byW ?_|refine byV ?_;intro w hw
  exact⟨_,rfl,ret_i rfl (by simp at h h2;unfold cI;rw[if_neg (by omega),if_pos h2]),rfl⟩
 ·repeat first|refine byW ?_|refine byV ?_;intro w hw
  exact⟨_,rfl,ret_i rfl (by simp at h h2;unfold cI;rw[if_neg (by omega),if_neg (by omega)]),rfl⟩⟩
instance pc_order(a b:ByteArray):PC Tryz.prog 98 [.string a,.string b] (.int .i64 (cB a b)):=⟨fun w=>by
 refine calls_of_W Tryz.func98 rfl rfl ?_
 repeat first|refine byW ?_|refine byV ?_;intro w hw
 refine W_cond rfl (fun h=>?_) (fun h=>?_)
 ·repeat first|refine byW ?_|refine byV ?_;intro w hw
  exact⟨_,rfl,ret_i rfl (by simp[cB,h]),rfl⟩
 repeat first|refine byW ?_|refine byV ?_;intro w hw
 refine W_cond rfl (fun h2=>?_) (fun h2=>?_)
 ·repeat first|refine byW ?_|refine byV ?_;intro w hw
  exact⟨_,rfl,ret_i rfl (by simp[cB,h,h2]),rfl⟩
 ·repeat first|refine byW ?_|refine byV ?_;intro w hw
  exact⟨_,rfl,ret_i rfl (by simp[cB,h,h2]),rfl⟩⟩
instance pc_number(a b:Int):PC Tryz.prog 99 [.int .i64 a,.int .i64 b] (.int .i64 (cI a b)):=⟨fun w=>by
 refine calls_of_W Tryz.func99 rfl rfl ?_
 repeat first|refine byW ?_|refine byV ?_;intro w hw
 refine W_cond rfl (fun h=>?_) (fun h=>?_)
 ·repeat first|refine byW ?_|refine byV ?_;intro w hw
  exact⟨_,rfl,ret_i rfl (by simp at h;simp[cI,h]),rfl⟩
 repeat first|refine byW ?_|refine byV ?_;intro w hw
 refine W_cond rfl (fun h2=>?_) (fun h2=>?_)
 ·repeat first|refine byW ?_|refine byV ?_;intro w hw
  exact⟨_,rfl,ret_i rfl (by simp at h h2;unfold cI;rw[if_neg (by omega),if_pos h2]),rfl⟩
 ·repeat first|refine byW ?_|refine byV ?_;intro w hw
  exact⟨_,rfl,ret_i rfl (by simp at h h2;unfold cI;rw[if_neg (by omega),if_neg (by omega)]),rfl⟩⟩
theorem orI_pos{x y:Int}(h:¬x=0):orI x y=x:=by unfold orI;rw[if_neg h]
theorem orI_null{x y:Int}(h:x=0):orI x y=y:=by unfold orI;rw[if_pos h]
theorem drop_none{α:Type}(l:List α){k:Nat}(h:l.length≤k):l.drop k=[]:=List.drop_eq_nil_of_le h
theorem drop_get{α:Type}{l:List α}{k:Nat}{x:α}(h:l[k]? = some x):l.drop k=x::l.drop (k+1):=by
 obtain⟨h1,h2⟩:=List.getElem?_eq_some_iff.1 h
 rw[←h2];exact List.drop_eq_getElem_cons h1
def orL:List Int→Int
 | []=>0
 | x::l=>orI x (orL l)
theorem orI_r(x:Int):orI x 0=x:=by unfold orI;split <;> simp[*]
theorem Or_any{Γ:Gho}{S:List Res}{w:World}{v:Value}(xs:List Int)(hw:Wd Γ S w)(hr:RdS Γ S v 1 (xs.map fun x=>[.int .i64 x])) :
  Calls Tryz.prog 89 #[v] w fun e w'=>e=.returned (.int .i64 (orL xs))∧Wd Γ S w':=by
 obtain⟨a,n,c,rfl,hn,hnc,hc⟩:=hr.shape;simp only[List.length_map]at hn
 refine calls_of_W Tryz.func89 rfl rfl ?_
 repeat first|refine byW ?_|refine byV ?_;intro w hw
 refine W_loop (fun μ ρ w=>∃(k:Nat),μ+k=n∧Has ρ [(3,.int .i64 0),(6,.slice a n c),(7,.int .i64 n),(8,.int .i64 k)]∧orL xs=orL (xs.drop k)∧Wd Γ S w) n ⟨0,by omega,⟨rfl,rfl,rfl,rfl,trivial⟩,rfl,hw⟩ ?_
 clear hw;rintro μ ρ w ⟨k,hk,hρ,ho,hw⟩
 rw[hρ.eq];repeat first|refine byW ?_|refine byV ?_;intro w hw
 refine W_cond rfl (fun h=>?_) (fun h=>?_)
 ·have hkn:k<n:=by simpa using h
  obtain⟨x,hx⟩:=get_lt (l:=xs) (k:=k) (by omega)
  have hd:xs.drop k=x::xs.drop (k+1):=by
   obtain⟨h1,h2⟩:=List.getElem?_eq_some_iff.1 hx
   rw[←h2];exact(List.drop_eq_getElem_cons h1)
  rw[hd]at ho;repeat first|refine byW ?_|refine byV ?_;intro w hw
  refine W_cond rfl (fun h2=>?_) (fun h2=>?_)
  ·repeat first|refine byW ?_|refine byV ?_;intro w hw
   have h2:¬x=0:=by simpa using h2
   refine⟨_,rfl,ret_i rfl ?_,hw⟩
   rw[ho];unfold orL orI;rw[if_neg h2]
  ·repeat first|refine byW ?_|refine byV ?_;intro w hw
   have h2:x=0:=by simpa using h2
   refine⟨μ-1,by omega,k+1,by omega,⟨rfl,rfl,rfl,rfl,trivial⟩,?_,hw⟩
   rw[ho];show orI x _=_;unfold orI;rw[if_pos h2]
 ·have hkn:¬k<n:=by simpa using h
  repeat first|refine byW ?_|refine byV ?_;intro w hw
  refine⟨_,rfl,ret_i rfl ?_,hw⟩
  rw[ho,List.drop_eq_nil_of_le (by omega)];rfl
end Go.Proofs.YtfoggcgogafocaaGreat
end
section
open Go Mk
namespace Go.Proofs.YtfoggcgogafocaaGreat
def lay_fct_ren:Go.Shelf.Ren:=⟨fun|6=>51|15=>81|14=>95|28=>140|29=>141|20=>169|21=>170|22=>171|23=>172|24=>173|25=>174|26=>175|27=>176|46=>221|47=>201|48=>202|49=>222|50=>223|57=>245|n=>n,fun|22=>32|24=>67|25=>126|3=>3|39=>81|0=>0|53=>213|55=>80|4=>4|46=>206|45=>205|50=>210|5=>5|9=>9|66=>246|70=>250|76=>268|77=>171|n=>n,fun|n=>n⟩
theorem lay_fct:Go.Proofs.SlLaysF0.n6 Tryz.prog lay_fct_ren:={
 mixed:=by kernel_rfl
 f6:=⟨Tryz.f51.name,by decide,Tryz.func51.trans (congrArg some (by kernel_rfl))⟩
 f14:=⟨Tryz.f95.name,by decide,Tryz.func95.trans (congrArg some (by kernel_rfl))⟩
 f15:=Tryz.func81.trans (congrArg some (by kernel_rfl))
 f20:=⟨Tryz.f169.name,by decide,Tryz.func169.trans (congrArg some (by kernel_rfl))⟩
 f21:=⟨Tryz.f170.name,by decide,Tryz.func170.trans (congrArg some (by kernel_rfl))⟩
 f22:=⟨Tryz.f171.name,by decide,Tryz.func171.trans (congrArg some (by kernel_rfl))⟩
 f23:=⟨Tryz.f172.name,by decide,Tryz.func172.trans (congrArg some (by kernel_rfl))⟩
 f24:=⟨Tryz.f173.name,by decide,Tryz.func173.trans (congrArg some (by kernel_rfl))⟩
 f25:=⟨Tryz.f174.name,by decide,Tryz.func174.trans (congrArg some (by kernel_rfl))⟩
 f26:=⟨Tryz.f175.name,by decide,Tryz.func175.trans (congrArg some (by kernel_rfl))⟩
 f27:=⟨Tryz.f176.name,by decide,Tryz.func176.trans (congrArg some (by kernel_rfl))⟩
 f28:=Tryz.func140.trans (congrArg some (by kernel_rfl))
 f29:=Tryz.func141.trans (congrArg some (by kernel_rfl))
 f46:=⟨Tryz.f221.name,by decide,Tryz.func221.trans (congrArg some (by kernel_rfl))⟩
 f47:=Tryz.func201.trans (congrArg some (by kernel_rfl))
 f48:=Tryz.func202.trans (congrArg some (by kernel_rfl))
 f49:=⟨Tryz.f222.name,by decide,Tryz.func222.trans (congrArg some (by kernel_rfl))⟩
 f50:=⟨Tryz.f223.name,by decide,Tryz.func223.trans (congrArg some (by kernel_rfl))⟩
 f57:=⟨Tryz.f245.name,by decide,Tryz.func245.trans (congrArg some (by kernel_rfl))⟩
 t0:=Tryz.underlying0
 a0:=Tryz.isAgg0
 z0:=Tryz.sizeOf0
 v0:=Tryz.zeroValue0
 t3:=Tryz.underlying3
 a3:=Tryz.isAgg3
 z3:=Tryz.sizeOf3
 v3:=Tryz.zeroValue3
 t4:=Tryz.underlying4
 a4:=Tryz.isAgg4
 z4:=Tryz.sizeOf4
 v4:=Tryz.zeroValue4
 t5:=Tryz.underlying5
 a5:=Tryz.isAgg5
 z5:=Tryz.sizeOf5
 v5:=Tryz.zeroValue5
 t9:=Tryz.underlying9
 a9:=Tryz.isAgg9
 z9:=Tryz.sizeOf9
 v9:=Tryz.zeroValue9
 t22:=Tryz.underlying32
 a22:=Tryz.isAgg32
 z22:=Tryz.sizeOf32
 v22:=Tryz.zeroValue32
 t25:=Tryz.underlying126
 a25:=Tryz.isAgg126
 z25:=Tryz.sizeOf126
 v25:=Tryz.zeroValue126
 t39:=Tryz.underlying81
 a39:=Tryz.isAgg81
 z39:=Tryz.sizeOf81
 v39:=Tryz.zeroValue81
 t45:=Tryz.underlying205
 a45:=Tryz.isAgg205
 z45:=Tryz.sizeOf205
 v45:=Tryz.zeroValue205
 t46:=Tryz.underlying206
 a46:=Tryz.isAgg206
 z46:=Tryz.sizeOf206
 v46:=Tryz.zeroValue206
 t50:=Tryz.underlying210
 a50:=Tryz.isAgg210
 z50:=Tryz.sizeOf210
 v50:=Tryz.zeroValue210
 t53:=Tryz.underlying213
 a53:=Tryz.isAgg213
 z53:=Tryz.sizeOf213
 v53:=Tryz.zeroValue213
 t55:=Tryz.underlying80
 a55:=Tryz.isAgg80
 z55:=Tryz.sizeOf80
 v55:=Tryz.zeroValue80
 t66:=Tryz.underlying246
 a66:=Tryz.isAgg246
 z66:=Tryz.sizeOf246
 v66:=Tryz.zeroValue246
 t70:=Tryz.underlying250
 a70:=Tryz.isAgg250
 z70:=Tryz.sizeOf250
 v70:=Tryz.zeroValue250
 t76:=Tryz.underlying268
 a76:=Tryz.isAgg268
 z76:=Tryz.sizeOf268
 v76:=Tryz.zeroValue268
 t77:=Tryz.underlying171
 a77:=Tryz.isAgg171
 z77:=Tryz.sizeOf171
 v77:=Tryz.zeroValue171 }
def lay_srt_ren:Go.Shelf.Ren:=⟨fun|6=>157|15=>81|14=>217|28=>140|29=>141|20=>236|21=>237|22=>238|23=>239|24=>240|25=>241|26=>242|27=>243|46=>250|47=>201|48=>202|49=>251|50=>252|57=>253|n=>n,fun|22=>22|24=>3|25=>38|3=>3|39=>81|0=>0|53=>213|55=>80|4=>4|46=>206|45=>205|50=>210|5=>5|9=>9|66=>246|70=>250|76=>268|77=>171|n=>n,fun|n=>n⟩
theorem lay_srt:Go.Proofs.SlLaysF.n6 Tryz.prog lay_srt_ren:={
 mixed:=by kernel_rfl
 f6:=⟨Tryz.f157.name,by decide,Tryz.func157.trans (congrArg some (by kernel_rfl))⟩
 f14:=⟨Tryz.f217.name,by decide,Tryz.func217.trans (congrArg some (by kernel_rfl))⟩
 f15:=Tryz.func81.trans (congrArg some (by kernel_rfl))
 f20:=⟨Tryz.f236.name,by decide,Tryz.func236.trans (congrArg some (by kernel_rfl))⟩
 f21:=⟨Tryz.f237.name,by decide,Tryz.func237.trans (congrArg some (by kernel_rfl))⟩
 f22:=⟨Tryz.f238.name,by decide,Tryz.func238.trans (congrArg some (by kernel_rfl))⟩
 f23:=⟨Tryz.f239.name,by decide,Tryz.func239.trans (congrArg some (by kernel_rfl))⟩
 f24:=⟨Tryz.f240.name,by decide,Tryz.func240.trans (congrArg some (by kernel_rfl))⟩
 f25:=⟨Tryz.f241.name,by decide,Tryz.func241.trans (congrArg some (by kernel_rfl))⟩
 f26:=⟨Tryz.f242.name,by decide,Tryz.func242.trans (congrArg some (by kernel_rfl))⟩
 f27:=⟨Tryz.f243.name,by decide,Tryz.func243.trans (congrArg some (by kernel_rfl))⟩
 f28:=Tryz.func140.trans (congrArg some (by kernel_rfl))
 f29:=Tryz.func141.trans (congrArg some (by kernel_rfl))
 f46:=⟨Tryz.f250.name,by decide,Tryz.func250.trans (congrArg some (by kernel_rfl))⟩
 f47:=Tryz.func201.trans (congrArg some (by kernel_rfl))
 f48:=Tryz.func202.trans (congrArg some (by kernel_rfl))
 f49:=⟨Tryz.f251.name,by decide,Tryz.func251.trans (congrArg some (by kernel_rfl))⟩
 f50:=⟨Tryz.f252.name,by decide,Tryz.func252.trans (congrArg some (by kernel_rfl))⟩
 f57:=⟨Tryz.f253.name,by decide,Tryz.func253.trans (congrArg some (by kernel_rfl))⟩
 t0:=Tryz.underlying0
 a0:=Tryz.isAgg0
 z0:=Tryz.sizeOf0
 v0:=Tryz.zeroValue0
 t3:=Tryz.underlying3
 a3:=Tryz.isAgg3
 z3:=Tryz.sizeOf3
 v3:=Tryz.zeroValue3
 t4:=Tryz.underlying4
 a4:=Tryz.isAgg4
 z4:=Tryz.sizeOf4
 v4:=Tryz.zeroValue4
 t5:=Tryz.underlying5
 a5:=Tryz.isAgg5
 z5:=Tryz.sizeOf5
 v5:=Tryz.zeroValue5
 t9:=Tryz.underlying9
 a9:=Tryz.isAgg9
 z9:=Tryz.sizeOf9
 v9:=Tryz.zeroValue9
 t22:=Tryz.underlying22
 a22:=Tryz.isAgg22
 z22:=Tryz.sizeOf22
 v22:=Tryz.zeroValue22
 a24:=Tryz.isAgg3
 z24:=Tryz.sizeOf3
 t25:=Tryz.underlying38
 a25:=Tryz.isAgg38
 z25:=Tryz.sizeOf38
 v25:=Tryz.zeroValue38
 t39:=Tryz.underlying81
 a39:=Tryz.isAgg81
 z39:=Tryz.sizeOf81
 v39:=Tryz.zeroValue81
 t45:=Tryz.underlying205
 a45:=Tryz.isAgg205
 z45:=Tryz.sizeOf205
 v45:=Tryz.zeroValue205
 t46:=Tryz.underlying206
 a46:=Tryz.isAgg206
 z46:=Tryz.sizeOf206
 v46:=Tryz.zeroValue206
 t50:=Tryz.underlying210
 a50:=Tryz.isAgg210
 z50:=Tryz.sizeOf210
 v50:=Tryz.zeroValue210
 t53:=Tryz.underlying213
 a53:=Tryz.isAgg213
 z53:=Tryz.sizeOf213
 v53:=Tryz.zeroValue213
 t55:=Tryz.underlying80
 a55:=Tryz.isAgg80
 z55:=Tryz.sizeOf80
 v55:=Tryz.zeroValue80
 t66:=Tryz.underlying246
 a66:=Tryz.isAgg246
 z66:=Tryz.sizeOf246
 v66:=Tryz.zeroValue246
 t70:=Tryz.underlying250
 a70:=Tryz.isAgg250
 z70:=Tryz.sizeOf250
 v70:=Tryz.zeroValue250
 t76:=Tryz.underlying268
 a76:=Tryz.isAgg268
 z76:=Tryz.sizeOf268
 v76:=Tryz.zeroValue268
 t77:=Tryz.underlying171
 a77:=Tryz.isAgg171
 z77:=Tryz.sizeOf171
 v77:=Tryz.zeroValue171 }
set_option maxHeartbeats 8000000
attribute [local irreducible] Calls
theorem tcmp_or(t:Int→Int)(a b:Int):orL [cI (t b) (t a),cI a b]=tcmp t a b:=by
 unfold orL orL orL tcmp;rw[orI_r]
theorem height1_any{Γ:Gho}{S:List Res}{w0:World}{i j b5 bt:Nat}{lt:List (Int×Int)}{tf:Int→Int}(hw0:Wd Γ S w0)(hj:S[j]? = some (.blk b5 (.cells #[.map (some bt)] 218)))(hi:S[i]? = some (Res.mpT Tryz.prog 3 (fun n:Int=>Value.int .i64 n) bt lt))(hm:MapF lt tf)(a b:Int) :
  Calls Tryz.prog 158 #[.int .i64 a,.int .i64 b,.pointer (some ⟨b5,0,none⟩)] w0 fun e w'=>e=.returned (.int .i64 (tcmp tf a b))∧∃S'',Wd (allG w0) S'' w':=by
 have hb5:(allG w0).imm b5=some (.cells #[.map (some bt)] 218):=hw0.at_blk hj
 obtain⟨en,clock,hmp,-⟩:=hw0.at_mp hi
 have hw:Wd (allG w0) [] w0:=allG_wd w0
 refine calls_of_W Tryz.func158 rfl rfl ?_
 repeat first|refine byW ?_|refine byV ?_;intro w hw
 have hl5:w0.cell? ⟨b5,0,none⟩=some (.map (some bt)):=cell_of (hw.imm b5 _ hb5) rfl
 refine lY (v:=.map (some bt)) ?_ (hy:=y_load1 (A:=⟨b5,0,none⟩) rfl hl5)
 repeat first|refine byW ?_|refine byV ?_;intro w hw
 refine lY (v:=.int .i64 (tf b)) ?_ (hy:=y_lookupF hw0 hm hi rfl rfl)
 repeat first|refine byW ?_|refine byV ?_;intro w hw
 refine lY (v:=.map (some bt)) ?_ (hy:=y_load1 (A:=⟨b5,0,none⟩) rfl hl5)
 repeat first|refine byW ?_|refine byV ?_;intro w hw
 refine lY (v:=.int .i64 (tf a)) ?_ (hy:=y_lookupF hw0 hm hi rfl rfl)
 repeat first|refine byW ?_|refine byV ?_;intro w hw
 refine lBuildSlice [[.int .i64 (cI (tf b) (tf a))],[.int .i64 (cI a b)]] ?_
 intro aq w hw;refine lCall ((Or_any [cI (tf b) (tf a),cI a b] hw (RdS.own (i:=0) hw rfl)).mono fun e w hq=>?_)
 obtain⟨rfl,hw⟩:=hq;refine⟨_,rfl,?_⟩;repeat first|refine byW ?_|refine byV ?_;intro w hw
 exact⟨_,rfl,(by rw[←tcmp_or];rfl),_,hw⟩
theorem sortH_any{Γ:Gho}{S:List Res}{w:World}{i j b5 bt:Nat}{lt:List (Int×Int)}{tf:Int→Int}{v:Value}{xs:List Int}(hw:Wd Γ (.own v 3 1 (intRows xs)::S) w)(hj:S[j]? = some (.blk b5 (.cells #[.map (some bt)] 218)))(hi:S[i]? = some (Res.mpT Tryz.prog 3 (fun n:Int=>Value.int .i64 n) bt lt))(hm:MapF lt tf)(hl:xs.length≤1000) :
  Calls Tryz.prog 157 #[v,.func (.func 158) #[] #[.pointer (some ⟨b5,0,none⟩)]] w fun e w'=>e=.returned (.tuple #[])∧Wd Γ (.own v 3 1 (intRows (tsort tf xs))::S) w':=by
 have:=SortFunc_1 (f:=fun n:Int=>Value.int .i64 n) lay_srt (fun _=>rfl) (tcmp tf) 158 [.pointer (some ⟨b5,0,none⟩)] xs v hw (i:=0) rfl (tcmp_swo tf) (tcmp_tot tf) (by omega) (fun dk w' hw' x y=>
  height1_any hw' (j:=j+1) (i:=i+1) hj hi hm x y)
 exact this
noncomputable def spdC(H:HwT)(x:Int):Int:=(findC H.Cores x).1.Speed
theorem plan1_any{Γ:Gho}{H:HwT}{a1:Option Addr}{n1 c1:Nat}{a2:Option Addr}{n2 c2:Nat}{a3:Option Addr}{n3 c3:Nat}{a4:Option Addr}{n4 c4:Nat}{a5:Option Addr}{n5 c5:Nat}[hh:HwR Γ (.agg #[.string H.Name,.slice a1 n1 c1,.slice a2 n2 c2,.slice a3 n3 c3,.slice a4 n4 c4,.slice a5 n5 c5]) H]{b4:Nat}{S:List Res}{w:World}(a b:Int)(hw:Wd Γ (.blk b4 (.cells #[.string H.Name,.slice a1 n1 c1,.slice a2 n2 c2,.slice a3 n3 c3,.slice a4 n4 c4,.slice a5 n5 c5] 30)::S) w) :
  Calls Tryz.prog 88 #[.int .i64 a,.int .i64 b,.pointer (some ⟨b4,0,none⟩)] w fun e w'=>e=.returned (.int .i64 (tcmp (spdC H) a b))∧Wd Γ (.blk b4 (.cells #[.string H.Name,.slice a1 n1 c1,.slice a2 n2 c2,.slice a3 n3 c3,.slice a4 n4 c4,.slice a5 n5 c5] 30)::S) w':=by
 have he:tcmp (spdC H) a b=orL [cI (findC H.Cores b).1.Speed (findC H.Cores a).1.Speed,cI a b]:=(tcmp_or (spdC H) a b).symm
 rw[he];refine calls_of_W Tryz.func88 rfl rfl ?_
 repeat first|refine byW ?_|refine byV ?_;intro w hw
 refine lAlloc ?_;intro b6 w hw;refine lStore ?_;intro w hw;repeat first|refine byW ?_|refine byV ?_;intro w hw
 refine lAlloc ?_;intro b8 w hw;refine lStore ?_;intro w hw;have hw:Wd Γ (.blk b8 (.cells (enc (findC H.Cores b).1).toArray 37)::.blk b6 (.cells (enc (findC H.Cores a).1).toArray 37)::.blk b4 (.cells #[.string H.Name,.slice a1 n1 c1,.slice a2 n2 c2,.slice a3 n3 c3,.slice a4 n4 c4,.slice a5 n5 c5] 30)::S) w:=hw
 repeat first|refine byW ?_|refine byV ?_;intro w hw
 refine lBuildSlice [[.int .i64 (cI (findC H.Cores b).1.Speed (findC H.Cores a).1.Speed)],[.int .i64 (cI a b)]] ?_
 intro aq w hw;refine lCall ((Or_any [cI (findC H.Cores b).1.Speed (findC H.Cores a).1.Speed,cI a b] hw (RdS.own (i:=0) hw rfl)).mono fun e w hq=>?_)
 obtain⟨rfl,hw⟩:=hq;refine⟨_,rfl,?_⟩;repeat first|refine byW ?_|refine byV ?_;intro w hw
 exact⟨_,rfl,rfl,hw.ds [0,0,0]⟩
def minF(t:Int→Int):Int→List Int→Int
 | m,[]=>m
 | m,x::l=>minF t (if tcmp t x m<0 then x else m) l
theorem minF_any{Γ : Gho}{H : HwT}{a1 : Option Addr}{n1 c1 : Nat}{a2 : Option Addr}{n2 c2 : Nat}{a3 : Option Addr}{n3 c3 : Nat}{a4 : Option Addr}{n4 c4 : Nat}{a5 : Option Addr}{n5 c5 : Nat}[hh : HwR Γ (.agg #[.string H.Name, .slice a1 n1 c1, .slice a2 n2 c2, .slice a3 n3 c3, .slice a4 n4 c4, .slice a5 n5 c5]) H]{b4 : Nat}{S : List Res}{w : World}{v : Value}{x0 : Int}{xs : List Int}(hl : xs.length ≤ 1000)(hw : Wd Γ (.blk b4 (.cells #[.string H.Name, .slice a1 n1 c1, .slice a2 n2 c2, .slice a3 n3 c3, .slice a4 n4 c4, .slice a5 n5 c5] 30) :: .own v 3 1 (intRows (x0 :: xs)) :: S) w) :
    Calls Tryz.prog 87 #[v,.func (.func 88) #[] #[.pointer (some ⟨b4,0,none⟩)]] w fun e w'=>e=.returned (.int .i64 (minF (spdC H) x0 xs))∧Wd Γ (.blk b4 (.cells #[.string H.Name,.slice a1 n1 c1,.slice a2 n2 c2,.slice a3 n3 c3,.slice a4 n4 c4,.slice a5 n5 c5] 30)::.own v 3 1 (intRows (x0::xs))::S) w':=by
  obtain⟨a,n,c,rfl,hn,hnc,hc⟩:=hw.own_shape (i:=1) rfl
  simp only[intRows,List.length_map,List.length_cons]at hn
  refine calls_of_W Tryz.func87 rfl rfl ?_
  repeat first|refine byW ?_|refine byV ?_;intro w hw
  refine W_cond_false (by exact congrArg Value.bool (decide_eq_false (by omega))) ?_
  have hx0:(x0::xs)[0]? = some x0:=rfl
  repeat first|refine byW ?_|refine byV ?_;intro w hw
  refine W_loop (fun μ ρ w=>∃(k:Nat) (m:Int),μ+k=n∧1≤k∧minF (spdC H) m ((x0::xs).drop k)=minF (spdC H) x0 xs∧Has ρ [(0,.slice a n c),(1,.func (.func 88) #[] #[.pointer (some ⟨b4,0,none⟩)]),(5,.int .i64 m),(6,.int .i64 k)]∧Wd Γ (.blk b4 (.cells #[.string H.Name,.slice a1 n1 c1,.slice a2 n2 c2,.slice a3 n3 c3,.slice a4 n4 c4,.slice a5 n5 c5] 30)::.own (.slice a n c) 3 1 (intRows (x0::xs))::S) w) (n-1) ⟨1,x0,by omega,Nat.le_refl _,rfl,⟨rfl,rfl,rfl,rfl,trivial⟩,hw⟩ ?_
  clear hw;rintro μ ρ w ⟨k,m,hk,hk1,hF,hρ,hw⟩
  rw[hρ.eq];clear hρ;repeat first|refine byW ?_|refine byV ?_;intro w hw
  refine W_cond rfl (fun h=>?_) (fun h=>?_)
  · have hkn:k<n:=by have:=of_decide_eq_true h;omega
    obtain⟨x,hx⟩:=get_lt (l:=x0::xs) (k:=k) (by simp;omega)
    have hdr:(x0::xs).drop k=x::(x0::xs).drop (k+1):=by
      obtain⟨q1,q2⟩:=List.getElem?_eq_some_iff.1 hx
      rw[List.drop_eq_getElem_cons q1,q2]
    rw[hdr]at hF;repeat first|refine byW ?_|refine byV ?_;intro w hw
    refine lCallv (fst:=[]) (cap:=[.pointer (some ⟨b4,0,none⟩)]) (vs:=[.int .i64 x,.int .i64 m]) ?_
    refine(plan1_any x m hw).mono ?_
    clear hw;rintro e w ⟨rfl,hw⟩
    refine⟨_,rfl,?_⟩;repeat first|refine byW ?_|refine byV ?_;intro w hw
    refine W_cond rfl (fun h2=>?_) (fun h2=>?_)
    · have h2:tcmp (spdC H) x m<0:=of_decide_eq_true h2
      have hF : minF (spdC H) x ((x0 :: xs).drop (k + 1)) = minF (spdC H) x0 xs := by rw [← hF]; conv => rhs; unfold minF
                                                                                      rw[if_pos h2]
      repeat first|refine byW ?_|refine byV ?_;intro w hw
      exact⟨μ-1,by omega,k+1,x,by omega,by omega,hF,⟨rfl,rfl,rfl,rfl,trivial⟩,hw⟩
    · have h2:¬tcmp (spdC H) x m<0:=of_decide_eq_false h2
      have hF : minF (spdC H) m ((x0 :: xs).drop (k + 1)) = minF (spdC H) x0 xs := by rw [← hF]; conv => rhs; unfold minF
                                                                                      rw[if_neg h2]
      repeat first|refine byW ?_|refine byV ?_;intro w hw
      exact⟨μ-1,by omega,k+1,m,by omega,by omega,hF,⟨rfl,rfl,rfl,rfl,trivial⟩,hw⟩
  · have hkn:¬k<n:=by have:=of_decide_eq_false h;omega
    rw[List.drop_eq_nil_of_le (by simp;omega)]at hF
    have hF:m=minF (spdC H) x0 xs:=hF
    repeat first|refine byW ?_|refine byV ?_;intro w hw
    exact⟨_,rfl,(by rw[←hF];rfl),hw⟩
end Go.Proofs.YtfoggcgogafocaaGreat
end
section
open Go Mk
namespace Go.Proofs.YtfoggcgogafocaaGreat
noncomputable def grpL(H:HwT)(ms:List Int)(n:Int):List Int:=ms.filter fun x=>decide (coreN H x=n)
def addI(N:Int→List Int)(a:Int)(xs:List Int):Int→List Int:=fun x=>if a=x then N x++xs else N x
theorem addI_addI(N:Int→List Int)(a:Int)(xs ys:List Int):addI (addI N a xs) a ys=addI N a (xs++ys):=by
 funext x;unfold addI;by_cases h:a=x <;> simp[h]
theorem addI_nil(N:Int→List Int)(a:Int):addI N a []=N:=by
 funext x;unfold addI;simp
noncomputable def fwdL(H:HwT):List Int→Int
 | []=>0
 | x::l=>minF (spdC H) x l
theorem minF_mem{t:Int→Int}:∀ {l:List Int} {m:Int},minF t m l=m∨minF t m l∈l
 | [],_=>.inl rfl
 | x::l,m=>by
  unfold minF;rcases minF_mem (t:=t) (l:=l) (m:=if tcmp t x m<0 then x else m) with h|h
  ·by_cases e:tcmp t x m<0
   ·rw[if_pos e]at h ⊢;exact .inr (by rw[h];simp)
   ·rw[if_neg e]at h ⊢;exact .inl h
  ·exact .inr (by simp[h])
theorem fwdL_mem{H:HwT}{l:List Int}(h:l≠[]):fwdL H l∈l:=by
 cases l with
 | nil=>exact absurd rfl h
 | cons x l=>
  show minF (spdC H) x l∈x::l
  rcases minF_mem (t:=spdC H) (l:=l) (m:=x) with h|h
  ·rw[h];simp
  ·simp[h]
theorem grpL_mem{H:HwT}{ms:List Int}{n x:Int}:x∈grpL H ms n↔x∈ms∧coreN H x=n:=by
 unfold grpL;simp
theorem grpL_snoc{H:HwT}{ms:List Int}{k:Nat}{x:Int}(h:ms[k]? = some x):addI (grpL H (ms.take k)) (coreN H x) [x]=grpL H (ms.take (k+1)):=by
 funext n
 rw[take_succ_of h];unfold addI grpL;rw[List.filter_append];by_cases e:coreN H x=n
 ·simp[e]
 ·simp[e]
theorem grpL_len{H:HwT}{ms:List Int}{n:Int}:(grpL H ms n).length≤ms.length:=List.length_filter_le _ _
section
variable (H:HwT)(r:Int)(ms:List Int)
noncomputable def rootAt(n:Int):List Int:=if n=coreN H r∨grpL H ms n=[] then grpL H ms n else [fwdL H (grpL H ms n)]
noncomputable def isFwd(x:Int):Bool:=decide (coreN H x≠coreN H r∧x∈ms∧x=fwdL H (grpL H ms (coreN H x)))
noncomputable def chK(k:Nat)(x:Int):List Int:=if x=r then (List.range k).flatMap (fun i:Nat=>rootAt H r ms (i:Int)) else if isFwd H r ms x=true∧0≤coreN H x∧coreN H x<(k:Int) then (grpL H ms (coreN H x)).filter (fun y=>decide (y≠x)) else []
noncomputable def chP(x:Int):List Int:=chK H r ms 64 x
end
section
variable {H:HwT}{r:Int}{ms:List Int}
theorem chK_zero:chK H r ms 0=fun _=>[]:=by
 funext x
 unfold chK;split
 ·rfl
 ·rw[if_neg (by omega)]
theorem chK_succ{k:Nat}(hr:r∉ms):chK H r ms (k+1)=if (k:Int)=coreN H r∨grpL H ms (k:Int)=[] then addI (chK H r ms k) r (grpL H ms (k:Int)) else addI (addI (chK H r ms k) r [fwdL H (grpL H ms (k:Int))]) (fwdL H (grpL H ms (k:Int))) ((grpL H ms (k:Int)).filter (fun y=>decide (y≠fwdL H (grpL H ms (k:Int))))):=by
 funext x
 have hroot:∀g:List Int,rootAt H r ms (k:Int)=g→chK H r ms (k+1) r=chK H r ms k r++g:=fun g hg=>by
  unfold chK;rw[if_pos rfl,if_pos rfl,List.range_succ,List.flatMap_append];simp[hg]
 by_cases hc:(k:Int)=coreN H r∨grpL H ms (k:Int)=[]
 ·rw[if_pos hc];by_cases hx:x=r
  ·subst hx;rw[hroot (grpL H ms (k:Int)) (by unfold rootAt;rw[if_pos hc])]
   unfold addI;rw[if_pos rfl]
  ·have:addI (chK H r ms k) r (grpL H ms (k:Int)) x=chK H r ms k x:=by unfold addI;rw[if_neg (Ne.symm hx)]
   rw[this];unfold chK;rw[if_neg hx,if_neg hx];by_cases hf:isFwd H r ms x=true∧0≤coreN H x∧coreN H x<(k:Int)
   ·rw[if_pos hf,if_pos ⟨hf.1,hf.2.1,by omega⟩]
   ·rw[if_neg hf,if_neg];rintro⟨h1,h2,h3⟩;have h4:coreN H x=(k:Int):=by
     have:¬coreN H x<(k:Int):=fun h=>hf ⟨h1,h2,h⟩
     omega
    unfold isFwd at h1;obtain⟨e1,e2,-⟩:=of_decide_eq_true h1
    rcases hc with hc|hc
    ·exact e1 (by rw[h4,hc])
    ·have:x∈grpL H ms (k:Int):=grpL_mem.2 ⟨e2,h4⟩
     rw[hc]at this;simp at this
 ·rw[if_neg hc];have hne:grpL H ms (k:Int)≠[]:=fun h=>hc (.inr h)
  have hfm:=fwdL_mem (H:=H) hne
  have hfm2:=grpL_mem.1 hfm
  have hfr:fwdL H (grpL H ms (k:Int))≠r:=fun e=>hr (e ▸ hfm2.1)
  have hra:rootAt H r ms (k:Int)=[fwdL H (grpL H ms (k:Int))]:=by unfold rootAt;rw[if_neg hc]
  generalize hfe:fwdL H (grpL H ms (k:Int))=f at *
  by_cases hx:x=r
  ·subst hx;rw[hroot _ hra];unfold addI;rw[if_neg hfr,if_pos rfl]
  ·by_cases hxf:x=f
   ·subst hxf;have e1:addI (addI (chK H r ms k) r [x]) x ((grpL H ms (k:Int)).filter (fun y=>decide (y≠x))) x=chK H r ms k x++(grpL H ms (k:Int)).filter (fun y=>decide (y≠x)):=by
     unfold addI;rw[if_pos rfl,if_neg (Ne.symm hx)]
    have e2:chK H r ms k x=[]:=by
     unfold chK;rw[if_neg hx,if_neg (by rw[hfm2.2];omega)]
    have e3:chK H r ms (k+1) x=(grpL H ms (k:Int)).filter (fun y=>decide (y≠x)):=by
     have hf:isFwd H r ms x=true:=by
      unfold isFwd;refine decide_eq_true ⟨by rw[hfm2.2];exact fun e=>hc (.inl e),hfm2.1,?_⟩
      rw[hfm2.2];exact hfe.symm
     unfold chK;rw[if_neg hx,if_pos ⟨hf,by rw[hfm2.2];omega,by rw[hfm2.2];omega⟩,hfm2.2]
    rw[e1,e2,e3,List.nil_append]
   ·have e1:addI (addI (chK H r ms k) r [f]) f ((grpL H ms (k:Int)).filter (fun y=>decide (y≠f))) x=chK H r ms k x:=by
     unfold addI;rw[if_neg (Ne.symm hxf),if_neg (Ne.symm hx)]
    rw[e1];unfold chK;rw[if_neg hx,if_neg hx];by_cases hf:isFwd H r ms x=true∧0≤coreN H x∧coreN H x<(k:Int)
    ·rw[if_pos hf,if_pos ⟨hf.1,hf.2.1,by omega⟩]
    ·rw[if_neg hf,if_neg];rintro⟨h1,h2,h3⟩;have h4:coreN H x=(k:Int):=by
      have:¬coreN H x<(k:Int):=fun h=>hf ⟨h1,h2,h⟩
      omega
     unfold isFwd at h1;obtain⟨-,-,e3⟩:=of_decide_eq_true h1
     rw[h4,hfe]at e3;exact hxf e3
theorem chP_root:chP H r ms r=(List.range 64).flatMap (fun i:Nat=>rootAt H r ms (i:Int)):=by
 unfold chP chK;rw[if_pos rfl]
theorem chP_mem{a b:Int}(h:b∈chP H r ms a):b∈ms:=by
 unfold chP chK at h;by_cases e:a=r
 ·rw[if_pos e]at h;obtain⟨i,-,hi⟩:=List.mem_flatMap.1 h
  unfold rootAt at hi;by_cases c:(i:Int)=coreN H r∨grpL H ms (i:Int)=[]
  ·rw[if_pos c]at hi;exact(grpL_mem.1 hi).1
  ·rw[if_neg c]at hi;rw[List.mem_singleton.1 hi];exact(grpL_mem.1 (fwdL_mem fun e=>c (.inr e))).1
 ·rw[if_neg e]at h;split at h
  ·exact(grpL_mem.1 (List.mem_filter.1 h).1).1
  ·simp at h
theorem chP_other{a b:Int}(e:a≠r)(h:b∈chP H r ms a):isFwd H r ms a=true∧0≤coreN H a∧coreN H a<64∧coreN H b=coreN H a∧b≠a:=by
 unfold chP chK at h;rw[if_neg e]at h;split at h
 ·rename_i hf
  obtain⟨h1,h2⟩:=List.mem_filter.1 h
  exact⟨hf.1,hf.2.1,hf.2.2,(grpL_mem.1 h1).2,of_decide_eq_true h2⟩
 ·simp at h
theorem chP_leaf{a b:Int}(e:a≠r)(hr:r∉ms)(h:b∈chP H r ms a):chP H r ms b=[]:=by
 obtain⟨h1,-,-,h2,h3⟩:=chP_other e h
 have hb:=chP_mem h
 have hbr:b≠r:=fun e=>hr (e ▸ hb)
 refine List.eq_nil_iff_forall_not_mem.2 fun c hc=>?_
 obtain⟨k1,-,-,k2,k3⟩:=chP_other hbr hc
 unfold isFwd at h1 k1;obtain⟨-,-,e1⟩:=of_decide_eq_true h1
 obtain⟨-,-,e2⟩:=of_decide_eq_true k1
 rw[h2]at e2;exact h3 (e2.trans e1.symm)
theorem chP_dep(hr:r∉ms):Dep (chP H r ms) 3 r:=by
 intro a ha b hb;have har:a≠r:=fun e=>hr (e ▸ chP_mem ha)
 intro c hc;rw[chP_leaf har hr hb]at hc;simp at hc
theorem chP_rch{a b:Int}(h:Rch (chP H r ms) a b):b=a∨b∈ms:=by
 induction h with
 | refl=>exact .inl rfl
 | step hm _ ih=>
  rcases ih with rfl|ih
  ·exact .inr (chP_mem hm)
  ·exact .inr ih
theorem rootAt_len{n:Int}:(rootAt H r ms n).length≤(grpL H ms n).length:=by
 unfold rootAt;split
 ·exact Nat.le_refl _
 ·rename_i h
  have:grpL H ms n≠[]:=fun e=>h (.inr e)
  have:=List.length_pos_iff.2 this
  rw[List.length_singleton];exact this
theorem grp_sum(k:Nat):((List.range k).flatMap (fun i:Nat=>grpL H ms (i:Int))).length≤ms.length:=by
 have h:∀l:List Int,((List.range k).flatMap (fun i:Nat=>l.filter fun x=>decide (coreN H x=(i:Int)))).length≤l.length:=by
  intro l;induction l with
  | nil=>
   have:((List.range k).flatMap fun i:Nat=>([]:List Int).filter fun x=>decide (coreN H x=(i:Int)))=[]:=List.flatMap_eq_nil_iff.2 fun _ _=>rfl
   rw[this];simp
  | cons x l ih=>
   simp only[List.length_flatMap]at ih ⊢
   have:∀k:Nat,((List.range k).map fun i:Nat=>((x::l).filter fun x=>decide (coreN H x=(i:Int))).length).sum≤((List.range k).map fun i:Nat=>(l.filter fun x=>decide (coreN H x=(i:Int))).length).sum+(if 0≤coreN H x∧coreN H x<(k:Int) then 1 else 0):=by
    intro k;induction k with
    | zero=>simp
    | succ k ihk=>
     rw[List.range_succ,List.map_append,List.map_append,List.sum_append,List.sum_append];simp only[List.map_cons,List.map_nil,List.sum_cons,List.sum_nil,Nat.add_zero]
     by_cases e:coreN H x=(k:Int)
     ·rw[List.filter_cons_of_pos (by simpa using e),List.length_cons,if_pos (by omega)]
      rw[if_neg (by omega)]at ihk
      omega
     ·rw[List.filter_cons_of_neg (by simpa using e)]
      by_cases c:0≤coreN H x∧coreN H x<(k:Int)
      ·rw[if_pos c]at ihk;rw[if_pos (by omega)];omega
      ·rw[if_neg c]at ihk;rw[if_neg (by omega)];omega
   have:=this k
   rw[List.length_cons];split at this <;> omega
 exact h ms
theorem chK_len{k:Nat}{x:Int}:(chK H r ms k x).length≤ms.length:=by
 unfold chK;split
 ·refine Nat.le_trans ?_ (grp_sum (H:=H) k)
  rw[List.length_flatMap,List.length_flatMap];generalize List.range k=rk
  induction rk with
  | nil=>simp
  | cons i rk ih=>
   simp only[List.map_cons,List.sum_cons]
   have:=rootAt_len (H:=H) (r:=r) (ms:=ms) (n:=(i:Int))
   omega
 ·split
  ·exact Nat.le_trans (List.length_filter_le _ _) grpL_len
  ·simp
noncomputable def planE(H:HwT)(r:Int)(ms:List Int)(cost:Int):List Pl:=(r::srt (farI H) cost (chP H r ms) r).flatMap fun f=>(srt (farI H) cost (chP H r ms) f).map fun t=>(f,t)
noncomputable def planErr(H:HwT)(r:Int)(ms:List Int)(cost:Int):Int:=if validS H≠0 then validS H else if memErr H r ms≠0 then memErr H r ms else if cost<0∨1000000<cost then 6 else 0
noncomputable def planS(H:HwT)(r:Int)(ms:List Int)(cost:Int):Int×List Pl:=if planErr H r ms cost=0 then (r,planE H r ms cost) else (0,[])
end
structure PlanOk(H:HwT)(r:Int)(ms:List Int):Prop where
 v:validS H=0
 kr:(findC H.Cores r).2=true
 km:∀a∈ms,(findC H.Cores a).2=true
 nr:r∉ms
 nd:ms.Nodup
section
variable {H:HwT}{r:Int}{ms:List Int}
theorem PlanOk.mem(p:PlanOk H r ms):memErr H r ms=0:=by
 unfold memErr;have h1:(r::ms).all (fun id=>(findC H.Cores id).2)=true:=List.all_eq_true.2 fun x hx=>by
  rcases List.mem_cons.1 hx with rfl|hx
  ·exact p.kr
  ·exact p.km x hx
 have h2:decP (r::ms).Nodup=true:=decP_t (List.nodup_cons.2 ⟨p.nr,p.nd⟩)
 rw[if_neg (by rw[h1];simp),if_neg (by rw[h2];simp)]
theorem PlanOk.err(p:PlanOk H r ms){cost:Int}(hc:0≤cost∧cost≤1000000):planErr H r ms cost=0:=by
 unfold planErr;rw[if_neg (by rw[p.v];simp),if_neg (by rw[p.mem];simp),if_neg (by omega)]
theorem PlanOk.rng(p:PlanOk H r ms){a:Int}(h:a∈ms):0≤coreN H a∧coreN H a<64:=coreN_rng p.v (p.km a h)
theorem rootAt_mem{n b:Int}(h:b∈rootAt H r ms n):b∈ms∧coreN H b=n:=by
 unfold rootAt at h;by_cases c:n=coreN H r∨grpL H ms n=[]
 ·rw[if_pos c]at h;exact grpL_mem.1 h
 ·rw[if_neg c]at h;rw[List.mem_singleton.1 h];exact grpL_mem.1 (fwdL_mem fun e=>c (.inr e))
theorem rootAt_nodup(h:ms.Nodup)(n:Int):(rootAt H r ms n).Nodup:=by
 unfold rootAt;split
 ·exact h.filter _
 ·simp
theorem flatMap_nodup{α β:Type}{f:α→List β}:∀ {l:List α},l.Nodup→(∀a∈l,(f a).Nodup)→(∀a∈l,∀b∈l,∀x,x∈f a→x∈f b→a=b)→(l.flatMap f).Nodup
 | [],_,_,_=>by simp
 | a::l,hn,h1,h2=>by
  rw[List.nodup_cons]at hn;rw[List.flatMap_cons,List.nodup_append];refine⟨h1 a (by simp),flatMap_nodup hn.2 (fun b hb=>h1 b (by simp[hb])) (fun b hb c hc=>h2 b (by simp[hb]) c (by simp[hc])),fun x hx y hy e=>?_⟩
  subst e;obtain⟨b,hb,hxb⟩:=List.mem_flatMap.1 hy
  have:=h2 a (by simp) b (by simp[hb]) x hx hxb
  subst this;exact hn.1 hb
theorem chP_root_nodup(h:ms.Nodup):(chP H r ms r).Nodup:=by
 rw[chP_root];refine flatMap_nodup List.nodup_range (fun i _=>rootAt_nodup h _) fun i _ j _ x hi hj=>?_
 have h1:=(rootAt_mem hi).2
 have h2:=(rootAt_mem hj).2
 omega
theorem chP_nodup(h:ms.Nodup)(x:Int):(chP H r ms x).Nodup:=by
 by_cases e:x=r
 ·subst e;exact chP_root_nodup h
 ·unfold chP chK;rw[if_neg e];split
  ·exact(h.filter _).filter _
  ·simp
theorem chP_root_mem{b:Int}(h:b∈chP H r ms r):b∈rootAt H r ms (coreN H b):=by
 rw[chP_root]at h;obtain⟨i,-,hi⟩:=List.mem_flatMap.1 h
 rw[(rootAt_mem hi).2];exact hi
theorem chP_apart{f b:Int}(hf:f≠r)(h:b∈chP H r ms f):b∉chP H r ms r:=fun hb=>by
 obtain⟨h1,-,-,h2,h3⟩:=chP_other hf h
 have hb:=chP_root_mem hb
 unfold isFwd at h1;obtain⟨e1,e2,e3⟩:=of_decide_eq_true h1
 unfold rootAt at hb;rw[h2,if_neg]at hb
 ·rw[←e3]at hb;exact h3 (List.mem_singleton.1 hb)
 ·rintro (c|c)
  ·exact e1 c
  ·have:f∈grpL H ms (coreN H f):=grpL_mem.2 ⟨e2,rfl⟩
   rw[c]at this;simp at this
theorem chP_one{f g b:Int}(hf:f≠r)(hg:g≠r)(h:b∈chP H r ms f)(k:b∈chP H r ms g):f=g:=by
 obtain⟨h1,-,-,h2,-⟩:=chP_other hf h
 obtain⟨k1,-,-,k2,-⟩:=chP_other hg k
 unfold isFwd at h1 k1;obtain⟨-,-,e1⟩:=of_decide_eq_true h1
 obtain⟨-,-,e2⟩:=of_decide_eq_true k1
 rw[e1,e2,←h2,←k2]
theorem chP_all(p:PlanOk H r ms){b:Int}(h:b∈ms):b∈chP H r ms r∨∃f∈chP H r ms r,f≠r∧b∈chP H r ms f:=by
 have hr:=p.rng h
 have hin:∀ {x:Int},x∈rootAt H r ms (coreN H b)→x∈chP H r ms r:=fun {x} hx=>by
  rw[chP_root];refine List.mem_flatMap.2 ⟨(coreN H b).toNat,by simp;omega,?_⟩
  rw[show (((coreN H b).toNat:Nat):Int)=coreN H b by omega]
  exact hx
 have hg:b∈grpL H ms (coreN H b):=grpL_mem.2 ⟨h,rfl⟩
 have hne:grpL H ms (coreN H b)≠[]:=fun e=>by rw[e]at hg;simp at hg
 by_cases c:coreN H b=coreN H r
 ·left
  refine hin ?_
  unfold rootAt;rw[if_pos (.inl c)];exact hg
 ·have hra:rootAt H r ms (coreN H b)=[fwdL H (grpL H ms (coreN H b))]:=by unfold rootAt;rw[if_neg fun e=>e.elim c hne]
  have hf:=grpL_mem.1 (fwdL_mem (H:=H) hne)
  have hfn:fwdL H (grpL H ms (coreN H b))≠r:=fun h=>p.nr (by rw[←h];exact hf.1)
  have hfr:fwdL H (grpL H ms (coreN H b))∈chP H r ms r:=hin (by rw[hra];simp)
  by_cases e:b=fwdL H (grpL H ms (coreN H b))
  ·left;rw[e];exact hfr
  ·right
   refine⟨_,hfr,hfn,?_⟩
   unfold chP chK;rw[if_neg hfn,if_pos,hf.2]
   ·exact List.mem_filter.2 ⟨hg,by simpa using e⟩
   ·refine⟨?_,by rw[hf.2];omega,by rw[hf.2];omega⟩
    unfold isFwd;exact decide_eq_true ⟨by rw[hf.2];exact c,hf.1,by rw[hf.2]⟩
theorem srt_mem{cost:Int}{x y:Int}:y∈srt (farI H) cost (chP H r ms) x↔y∈chP H r ms x:=(srt_perm x).mem_iff
theorem planE_tos{cost:Int}(p:PlanOk H r ms):((planE H r ms cost).map (·.2)).Perm ms:=by
 have e:(planE H r ms cost).map (·.2)=(r::srt (farI H) cost (chP H r ms) r).flatMap fun f=>srt (farI H) cost (chP H r ms) f:=by
  unfold planE;rw[List.map_flatMap];congr 1
  funext f
  rw[List.map_map];exact(List.map_congr_left fun x _=>rfl).trans (List.map_id _)
 rw[e];have hnr:r∉srt (farI H) cost (chP H r ms) r:=fun h=>p.nr (chP_mem (srt_mem.1 h))
 have hnd:(srt (farI H) cost (chP H r ms) r).Nodup:=(srt_perm r).nodup_iff.2 (chP_root_nodup p.nd)
 refine(List.perm_ext_iff_of_nodup ?_ p.nd).2 fun b=>?_
 ·refine flatMap_nodup (List.nodup_cons.2 ⟨hnr,hnd⟩) (fun f _=>(srt_perm f).nodup_iff.2 (chP_nodup p.nd f)) fun f _ g _ b hf hg=>?_
  have hf:=srt_mem.1 hf
  have hg:=srt_mem.1 hg
  by_cases e1:f=r <;> by_cases e2:g=r
  ·rw[e1,e2]
  ·subst e1;exact absurd hf (chP_apart e2 hg)
  ·subst e2;exact absurd hg (chP_apart e1 hf)
  ·exact chP_one e1 e2 hf hg
 ·rw[List.mem_flatMap];constructor
  ·rintro⟨f,-,hf⟩;exact chP_mem (srt_mem.1 hf)
  ·intro hb;rcases chP_all p hb with h|⟨f,hf,-,h⟩
   ·exact⟨r,by simp,srt_mem.2 h⟩
   ·exact⟨f,List.mem_cons.2 (.inr (srt_mem.2 hf)),srt_mem.2 h⟩
theorem planE_len{cost:Int}(p:PlanOk H r ms):(planE H r ms cost).length=ms.length:=by
 rw[←(planE_tos (cost:=cost) p).length_eq,List.length_map]
def cntF(es:List Pl)(m:Nat)(f:Int):Nat:=(es.take m).countP fun e=>decide (e.1=f)
def blocks(K:Int→List Int)(fs:List Int):List Pl:=fs.flatMap fun f=>(K f).map fun t=>(f,t)
theorem planE_blocks{cost:Int}:planE H r ms cost=blocks (srt (farI H) cost (chP H r ms)) (r::srt (farI H) cost (chP H r ms) r):=rfl
theorem count_block{K:List Int}{f g:Int}(m:Nat):((K.map fun t=>((f,t):Pl)).take m).countP (fun e=>decide (e.1=g))=if f=g then min m K.length else 0:=by
 rw[←List.map_take,List.countP_map];by_cases e:f=g
 ·subst e;rw[if_pos rfl];have:((fun e:Pl=>decide (e.1=f)) ∘ fun t=>((f,t):Pl))=fun _=>true:=by funext t;simp
  rw[this,List.countP_true];simp
 ·rw[if_neg e];have:((fun e:Pl=>decide (e.1=g)) ∘ fun t=>((f,t):Pl))=fun _=>false:=by funext t;simp[e]
  rw[this,List.countP_false];rfl
theorem cntF_app{A B:List Pl}{m:Nat}{f:Int}:cntF (A++B) m f=cntF A m f+cntF B (m-A.length) f:=by
 unfold cntF;rw[List.take_append,List.countP_append]
theorem block_at{K:Int→List Int}:∀ {fs:List Int},fs.Nodup→∀ {m:Nat} {e:Pl},(blocks K fs)[m]? = some e→e.1∈fs∧(K e.1)[cntF (blocks K fs) m e.1]? = some e.2
 | [],_,m,e,h=>by simp[blocks]at h
 | f::fs,hn,m,e,h=>by
  rw[List.nodup_cons]at hn;have hb:blocks K (f::fs)=((K f).map fun t=>((f,t):Pl))++blocks K fs:=rfl
  rw[hb]at h ⊢
  rw[cntF_app];have hc:=count_block (K:=K f) (f:=f) (g:=e.1) m
  by_cases hm:m<(K f).length
  ·rw[List.getElem?_append_left (by simpa using hm)]at h
   obtain⟨t,ht,rfl⟩:∃t,(K f)[m]? = some t∧(f,t)=e:=by simpa using h
   refine⟨by simp,?_⟩
   show (K f)[cntF _ m f+cntF _ _ f]? = some t
   have h0:m-((K f).map fun t=>((f,t):Pl)).length=0:=by simp;omega
   rw[h0];have h1:cntF (blocks K fs) 0 f=0:=by simp[cntF]
   have h2:cntF ((K f).map fun t=>((f,t):Pl)) m f=m:=by
    unfold cntF;rw[count_block,if_pos rfl];omega
   rw[h1,h2];exact ht
  ·rw[List.getElem?_append_right (by simp;omega)]at h
   obtain⟨h1,h2⟩:=block_at hn.2 h
   refine⟨by simp[h1],?_⟩
   have hne:f≠e.1:=fun e'=>hn.1 (e' ▸ h1)
   have h3:cntF ((K f).map fun t=>((f,t):Pl)) m e.1=0:=by
    unfold cntF;rw[count_block,if_neg hne]
   rw[h3,Nat.zero_add];exact h2
def Together(es:List Pl):Prop:=∀(j m i:Nat) (a b:Pl),j≤m→m≤i→es[j]? = some a→es[i]? = some b→a.1=b.1→∀c,es[m]? = some c→c.1=a.1
theorem together_blocks{K:Int→List Int}:∀ {fs:List Int},fs.Nodup→Together (blocks K fs)
 | [],_=>fun j m i a b _ _ h=>by simp[blocks]at h
 | f::fs,hn=>by
  rw[List.nodup_cons]at hn;have hb:blocks K (f::fs)=((K f).map fun t=>((f,t):Pl))++blocks K fs:=rfl
  rw[hb];intro j m i a b hjm hmi ha hb' hab c hc;have hin:∀ {q:Nat} {x:Pl},(blocks K fs)[q]? = some x→x.1∈fs:=fun {q x} h=>(block_at hn.2 h).1
  have hlo:∀ {q:Nat} {x:Pl},q<(K f).length→(((K f).map fun t=>((f,t):Pl))++blocks K fs)[q]? = some x→x.1=f:=fun {q x} hq h=>by
   rw[List.getElem?_append_left (by simpa using hq)]at h
   obtain⟨t,-,rfl⟩:∃t,(K f)[q]? = some t∧(f,t)=x:=by simpa using h
   rfl
  have hhi:∀ {q:Nat} {x:Pl},¬q<(K f).length→(((K f).map fun t=>((f,t):Pl))++blocks K fs)[q]? = some x→(blocks K fs)[q-(K f).length]? = some x:=fun {q x} hq h=>by
   rw[List.getElem?_append_right (by simp;omega)]at h
   simpa using h
  by_cases h1:i<(K f).length
  ·rw[hlo (by omega) ha,hlo (by omega) hc]
  ·have hb2:=hhi h1 hb'
   by_cases h2:j<(K f).length
   ·have:=hlo h2 ha
    have h3:=hin hb2
    rw[←hab,this]at h3;exact absurd h3 hn.1
   ·exact together_blocks hn.2 (j-(K f).length) (m-(K f).length) (i-(K f).length) a b (by omega) (by omega) (hhi h2 ha) hb2 hab c (hhi (by omega) hc)
theorem together_done{es:List Pl}(h:Together es){i:Nat}{e:Pl}(he:es[i]? = some e):¬DoneAt es i e.1:=by
 rintro⟨j,a,b,hj,ha,hb,hab,hae⟩;exact hab (h j (j+1) i a e (by omega) hj ha he hae b hb).symm
theorem planE_froms{cost:Int}(p:PlanOk H r ms):(r::srt (farI H) cost (chP H r ms) r).Nodup:=
 List.nodup_cons.2 ⟨fun h=>p.nr (chP_mem (srt_mem.1 h)),(srt_perm r).nodup_iff.2 (chP_root_nodup p.nd)⟩
theorem planE_first{cost:Int}{m:Nat}(h:m<(srt (farI H) cost (chP H r ms) r).length):∃c,(srt (farI H) cost (chP H r ms) r)[m]? = some c∧(planE H r ms cost)[m]? = some (r,c):=by
 refine⟨_,List.getElem?_eq_getElem h,?_⟩
 rw[planE_blocks];have hb:blocks (srt (farI H) cost (chP H r ms)) (r::srt (farI H) cost (chP H r ms) r)=((srt (farI H) cost (chP H r ms) r).map fun t=>((r,t):Pl))++blocks (srt (farI H) cost (chP H r ms)) (srt (farI H) cost (chP H r ms) r):=rfl
 rw[hb,List.getElem?_append_left (by simpa using h)]
 simp[h]
theorem planE_later{cost:Int}{m:Nat}{e:Pl}(h:¬m<(srt (farI H) cost (chP H r ms) r).length)(he:(planE H r ms cost)[m]? = some e):e.1∈srt (farI H) cost (chP H r ms) r:=by
 rw[planE_blocks]at he;have hb:blocks (srt (farI H) cost (chP H r ms)) (r::srt (farI H) cost (chP H r ms) r)=((srt (farI H) cost (chP H r ms) r).map fun t=>((r,t):Pl))++blocks (srt (farI H) cost (chP H r ms)) (srt (farI H) cost (chP H r ms) r):=rfl
 rw[hb,List.getElem?_append_right (by simp;omega)]at he
 obtain⟨f,hf,h2⟩:=List.mem_flatMap.1 (List.mem_of_getElem? he)
 obtain⟨t,-,rfl⟩:=List.mem_map.1 h2
 exact hf
theorem planE_proto{cost:Int}(p:PlanOk H r ms):ProtoP r (planE H r ms cost):=fun i e he=>by
 refine⟨?_,together_done (by rw[planE_blocks];exact together_blocks (planE_froms p)) he⟩
 by_cases h:i<(srt (farI H) cost (chP H r ms) r).length
 ·obtain⟨c,-,hc⟩:=planE_first h
  rw[hc]at he;cases he
  simp
 ·have hf:=planE_later h he
  obtain⟨q,hq⟩:=List.getElem?_of_mem hf
  have hql:=(List.getElem?_eq_some_iff.1 hq).1
  obtain⟨c,hc,hc2⟩:=planE_first hql
  rw[hq]at hc;cases hc
  refine List.mem_cons.2 (.inr (List.mem_map.2 ⟨(r,e.1),?_,rfl⟩))
  refine List.mem_of_getElem? (i:=q) ?_
  rw[List.getElem?_take,if_pos (by omega)]
  exact hc2
theorem planE_tree{cost:Int}(p:PlanOk H r ms):treeErr H r (planE H r ms cost)=0:=by
 have ht:=planE_tos (cost:=cost) p
 have h1:((findC H.Cores r).2&&(planE H r ms cost).all (knownT H))=true:=by
  rw[p.kr,Bool.true_and,List.all_eq_true];intro e he;have h2:e.2∈ms:=ht.mem_iff.1 (List.mem_map_of_mem he)
  have h3:e.1=r∨e.1∈ms:=by
   obtain⟨f,hf,h3⟩:=List.mem_flatMap.1 he
   obtain⟨t,-,rfl⟩:=List.mem_map.1 h3
   rcases List.mem_cons.1 hf with hf|hf
   ·exact .inl hf
   ·exact .inr (chP_mem (srt_mem.1 hf))
  unfold knownT;rw[p.km _ h2,Bool.and_true];rcases h3 with h3|h3
  ·rw[h3];exact p.kr
  ·exact p.km _ h3
 have h2:(r::(planE H r ms cost).map (·.2)).Nodup:=List.nodup_cons.2 ⟨fun h=>p.nr (ht.mem_iff.1 h),ht.nodup_iff.2 p.nd⟩
 unfold treeErr;rw[if_pos p.v,if_pos h1,if_pos (decP_t h2),if_pos (decP_t (planE_proto p))]
end
set_option maxHeartbeats 8000000
attribute [local irreducible] Calls
noncomputable def arrS(H:HwT)(r:Int)(es:List Pl)(cost:Int):List Int×Int:=
 if treeErr H r es=0 then (if cost<0∨1000000<cost then ([],6) else (arrF (farI H) cost (fun _=>0) (fun _=>0) es,0)) else ([],treeErr H r es)
theorem arrivals_any{Γ:Gho}{u v:Value}{H:HwT}[hh:HwR Γ u H]{es:List Pl}[hr:SlC Γ v 2 (es.map plV)][hsh:ShortL es](r cost:Int){S:List Res}{w:World}(hw:Wd Γ S w) :
  Calls Tryz.prog 92 #[u,.agg #[.int .i64 r,v],.int .i64 cost] w fun e w'=>∃vo,e=.returned (.tuple #[vo,.int .i64 (arrS H r es cost).2])∧Wd Γ (.own vo 3 1 (intRows (arrS H r es cost).1)::S) w':=by
 have hh':=hh
 obtain⟨a1,n1,c1,a2,n2,c2,a3,n3,c3,a4,n4,c4,a5,n5,c5,cs,rfl,-⟩:=hh.h;have hrs:=hr.h
 obtain⟨am,nm,cm,rfl,hnm,hnmc,hcm⟩:=hr.h.shape;simp only[List.length_map]at hnm
 have hms:=hsh.h
 refine calls_of_W Tryz.func92 rfl rfl ?_
 repeat first|refine byW ?_|refine byV ?_;intro w hw
 refine lBox ?_;intro b3 w hw;refine lBox ?_;intro b4 w hw;have hw:Wd Γ (.blk b4 (.cells #[.int .i64 r,.slice am nm cm] 109)::.blk b3 (.cells #[.string H.Name,.slice a1 n1 c1,.slice a2 n2 c2,.slice a3 n3 c3,.slice a4 n4 c4,.slice a5 n5 c5] 30)::S) w:=hw
 unfold arrS;repeat first|refine byW ?_|refine byV ?_;intro w hw
 refine W_cond rfl (fun h=>?_) (fun h=>?_)
 ·have h:¬treeErr H r es=0:=by simpa using h
  rw[if_neg h];repeat first|refine byW ?_|refine byV ?_;intro w hw
  exact⟨_,rfl,_,rfl,Wd.addNil (hw.ds [0,0])⟩
 have h:treeErr H r es=0:=by simpa using h
 rw[if_pos h];have hv:validS H=0:=by
  unfold treeErr at h;by_cases e:validS H=0
  ·exact e
  ·rw[if_neg e]at h;exact absurd h e
 have hkn:∀e∈es,(findC H.Cores e.1).2=true∧(findC H.Cores e.2).2=true:=by
  unfold treeErr at h;rw[if_pos hv]at h;by_cases e:((findC H.Cores r).2&&es.all (knownT H))=true
  ·intro x hx;have:=List.all_eq_true.1 (Bool.and_eq_true_iff.1 e).2 x hx
   unfold knownT at this;exact Bool.and_eq_true_iff.1 this
  ·rw[if_neg e]at h;cases h
 repeat first|refine byW ?_|refine byV ?_;intro w hw
 refine W_cond rfl (fun h2=>?_) (fun h2=>?_)
 ·have h2:(decide (cost<0)||decide (cost > 1000000))=true:=h2
  rw[if_pos (by simp at h2;omega)]
  repeat first|refine byW ?_|refine byV ?_;intro w hw
  exact⟨_,rfl,_,rfl,Wd.addNil (hw.ds [0,0])⟩
 have h2:(decide (cost<0)||decide (cost > 1000000))=false:=h2
 have hc:0≤cost∧cost≤1000000:=by simp at h2;omega
 rw[if_neg (by omega)]
 clear h2;repeat first|refine byW ?_|refine byV ?_;intro w hw
 refine L_step rfl rfl (s_makeMap (K:=3) (α:=Int) (f:=(id:Value→Value)) hw fun bm w hw=>?_)
 repeat first|refine byW ?_|refine byV ?_;intro w hw
 refine lBox ?_;intro bb w hw;have hw:=btwP_new (Γ:=Γ) (bb:=bb) (H:=H) (bm:=bm) (a1:=a1) (n1:=n1) (c1:=c1) (a2:=a2) (n2:=n2) (c2:=c2) (a3:=a3) (n3:=n3) (c3:=c3) (a4:=a4) (n4:=n4) (c4:=c4) (a5:=a5) (n5:=n5) (c5:=c5) hw
 repeat first|refine byW ?_|refine byV ?_;intro w hw
 refine L_step rfl rfl (s_makeMap (K:=3) (α:=Int) (f:=fun n:Int=>Value.int .i64 n) hw fun bs w hw=>?_)
 have hw:=hw.ps [2]
 repeat first|refine byW ?_|refine byV ?_;intro w hw
 refine L_step rfl rfl (s_insert (s_mapUpdate (P:=Tryz.prog) (K:=3) (α:=Int) (f:=fun n:Int=>Value.int .i64 n) (i:=1) (v:=(0:Int)) (a:=r) hw rfl rfl rfl rfl fun w hw=>?_))
 have hm0:MapF (aSet ([]:List (Int×Int)) r 0) (fun _=>0):=fun x=>by
  rw[aGet_aSet];split <;> rfl
 generalize hls:aSet ([]:List (Int×Int)) r 0=ls at hm0
 have hw:Wd Γ (.blk b4 (.cells #[.int .i64 r,.slice am nm cm] 109)::Res.mpT Tryz.prog 3 (fun n:Int=>Value.int .i64 n) bs ls::btwP bb H a1 n1 c1 a2 n2 c2 a3 n3 c3 a4 n4 c4 a5 n5 c5::.blk b3 (.cells #[.string H.Name,.slice a1 n1 c1,.slice a2 n2 c2,.slice a3 n3 c3,.slice a4 n4 c4,.slice a5 n5 c5] 30)::S) w:=by rw[←hls];exact hw
 clear hls;repeat first|refine byW ?_|refine byV ?_;intro w hw
 refine L_step rfl rfl (s_makeMap (K:=3) (α:=Int) (f:=fun n:Int=>Value.int .i64 n) hw fun bn w hw=>?_)
 have hw:=hw.ps [1]
 repeat first|refine byW ?_|refine byV ?_;intro w hw
 refine lMakeSlice (len:=nm) ?_
 intro ao w hw;have hw:Wd Γ (.own (.slice (some ao) nm nm) 3 1 (intRows (List.replicate nm 0))::.blk b4 (.cells #[.int .i64 r,.slice am nm cm] 109)::Res.mpT Tryz.prog 3 (fun n:Int=>Value.int .i64 n) bn ([]:List (Int×Int))::Res.mpT Tryz.prog 3 (fun n:Int=>Value.int .i64 n) bs ls::btwP bb H a1 n1 c1 a2 n2 c2 a3 n3 c3 a4 n4 c4 a5 n5 c5::.blk b3 (.cells #[.string H.Name,.slice a1 n1 c1,.slice a2 n2 c2,.slice a3 n3 c3,.slice a4 n4 c4,.slice a5 n5 c5] 30)::S) w:=by
  have e:intRows (List.replicate nm 0)=List.replicate nm [.int .i64 0]:=by unfold intRows;rw[List.map_replicate]
  rw[e];exact hw
 repeat first|refine byW ?_|refine byV ?_;intro w hw
 refine W_loop (fun μ ρ w=>∃(k:Nat) (st sn:Int→Int) (O:List Int) (ls ln:List (Int×Int)),μ+k=nm∧O.length=nm∧MapF ls st∧MapF ln sn∧(∀x,0≤st x∧st x≤k*2000000000)∧(∀x,0≤sn x∧sn x≤k)∧O.take k++arrF (farI H) cost st sn (es.drop k)=arrF (farI H) cost (fun _=>0) (fun _=>0) es∧Has ρ [(2,.int .i64 cost),(9,.pointer (some ⟨bb,0,none⟩)),(10,.map (some bs)),(11,.map (some bn)),(12,.slice (some ao) nm nm),(41,.slice am nm cm),(42,.int .i64 nm),(43,.int .i64 k)]∧Wd Γ (.own (.slice (some ao) nm nm) 3 1 (intRows O)::.blk b4 (.cells #[.int .i64 r,.slice am nm cm] 109)::Res.mpT Tryz.prog 3 (fun n:Int=>Value.int .i64 n) bn ln::Res.mpT Tryz.prog 3 (fun n:Int=>Value.int .i64 n) bs ls::btwP bb H a1 n1 c1 a2 n2 c2 a3 n3 c3 a4 n4 c4 a5 n5 c5::.blk b3 (.cells #[.string H.Name,.slice a1 n1 c1,.slice a2 n2 c2,.slice a3 n3 c3,.slice a4 n4 c4,.slice a5 n5 c5] 30)::S) w) nm ⟨0,fun _=>0,fun _=>0,List.replicate nm 0,ls,[],by omega,by simp,hm0,fun _=>rfl,fun _=>⟨Int.le_refl _,by simp⟩,fun _=>⟨Int.le_refl _,by simp⟩,by simp,⟨rfl,rfl,rfl,rfl,rfl,rfl,rfl,rfl,trivial⟩,hw⟩ ?_
 clear hw;rintro μ ρ w ⟨k,st,sn,O,ls,ln,hk,hO,hls,hln,hst,hsn,hF,hρ,hw⟩
 rw[hρ.eq];clear hρ;repeat first|refine byW ?_|refine byV ?_;intro w hw
 refine W_cond rfl (fun h=>?_) (fun h=>?_)
 ·have hkn':k<nm:=by have:=of_decide_eq_true h;omega
  obtain⟨x,hx⟩:=get_lt (l:=es) (k:=k) (by omega)
  obtain⟨hx1,hx2⟩:=hkn x (List.mem_of_getElem? hx)
  have hs1:=hst x.1
  have hn1:=hsn x.1
  have hfar:=far_le hv hx1 hx2
  have hmul:0≤(sn x.1+1)*cost∧(sn x.1+1)*cost≤1001000000:=⟨Int.mul_nonneg (by omega) hc.1,Int.le_trans (Int.mul_le_mul (b:=cost) (d:=1000000) (show sn x.1+1≤1001 by omega) hc.2 hc.1 (by omega)) (by omega)⟩
  repeat first|refine byW ?_|refine byV ?_;intro w hw
  refine lAlloc ?_;intro b14 w hw;repeat first|refine byW ?_|refine byV ?_;intro w hw
  refine lStore ?_;intro w hw;have hw:Wd Γ (.blk b14 (.cells (plV x).toArray 164)::.own (.slice (some ao) nm nm) 3 1 (intRows O)::.blk b4 (.cells #[.int .i64 r,.slice am nm cm] 109)::Res.mpT Tryz.prog 3 (fun n:Int=>Value.int .i64 n) bn ln::Res.mpT Tryz.prog 3 (fun n:Int=>Value.int .i64 n) bs ls::btwP bb H a1 n1 c1 a2 n2 c2 a3 n3 c3 a4 n4 c4 a5 n5 c5::.blk b3 (.cells #[.string H.Name,.slice a1 n1 c1,.slice a2 n2 c2,.slice a3 n3 c3,.slice a4 n4 c4,.slice a5 n5 c5] 30)::S) w:=hw
  repeat first|refine byW ?_|refine byV ?_;intro w hw
  refine lY (v:=.int .i64 (sn x.1)) ?_ (hy:=y_lookupF hw hln (i:=3) rfl rfl rfl)
  repeat first|refine byW ?_|refine byV ?_;intro w hw
  refine L_step rfl rfl (s_mapUpdate (P:=Tryz.prog) (K:=3) (α:=Int) (f:=fun n:Int=>Value.int .i64 n) (i:=3) (v:=sn x.1+1) (a:=x.1) hw rfl rfl rfl rfl fun w hw=>?_)
  have hln':=mapF_set hln x.1 (sn x.1+1)
  generalize hgl:aSet ln x.1 (sn x.1+1)=ln2 at hw hln'
  have hsn2:updI sn x.1 (sn x.1+1) x.1=sn x.1+1:=by unfold updI;rw[if_pos rfl]
  have hcN1:=coreN_rng hv hx1
  have hcN2:=coreN_rng hv hx2
  have hw:Wd Γ ([.blk b14 (.cells (plV x).toArray 164),Res.mpT Tryz.prog 3 (fun n:Int=>Value.int .i64 n) bn ln2,Res.mpT Tryz.prog 3 (fun n:Int=>Value.int .i64 n) bs ls]++([btwP bb H a1 n1 c1 a2 n2 c2 a3 n3 c3 a4 n4 c4 a5 n5 c5]++([.own (.slice (some ao) nm nm) 3 1 (intRows O)]++((.blk b4 (.cells #[.int .i64 r,.slice am nm cm] 109)::.blk b3 (.cells #[.string H.Name,.slice a1 n1 c1,.slice a2 n2 c2,.slice a3 n3 c3,.slice a4 n4 c4,.slice a5 n5 c5] 30)::S)++[])))) w:=by
   rw[List.append_nil];exact hw.ps [5,5,5,3]
  repeat first|refine byW ?_|refine byV ?_;intro w hw
  refine W_mixed [.blk b14 (.cells (plV x).toArray 164),Res.mpT Tryz.prog 3 (fun n:Int=>Value.int .i64 n) bn ln2,Res.mpT Tryz.prog 3 (fun n:Int=>Value.int .i64 n) bs ls] [fun _=>[btwP bb H a1 n1 c1 a2 n2 c2 a3 n3 c3 a4 n4 c4 a5 n5 c5],fun _=>[.own (.slice (some ao) nm nm) 3 1 (intRows O)],fun _=>.blk b4 (.cells #[.int .i64 r,.slice am nm cm] 109)::.blk b3 (.cells #[.string H.Name,.slice a1 n1 c1,.slice a2 n2 c2,.slice a3 n3 c3,.slice a4 n4 c4,.slice a5 n5 c5] 30)::S] [[],[],[],[],[],[],[],[],[],[],[],[],[],[],[],[],[],[],[0],[],[],[1]] [[],[],[],[],[],[],[],[],[],[],[],[],[],[],[],[],[],[],[0],[],[1],[1]] [[],[],[]] (by exact hw) ?_
  refine byM ?_;refine mY (v:=.int .i64 (st x.1)) ?_ (hy:=fun Y w g hw=>y_lookupF hw hls (i:=2) rfl rfl rfl)
  refine byM ?_;refine mY (v:=.int .i64 (sn x.1+1)) ?_ (hy:=fun Y w g hw=>by rw[←hsn2];exact y_lookupF hw hln' (i:=1) rfl rfl rfl)
  refine byM ?_;refine mCallS (c:=0) (X:=[btwP bb H a1 n1 c1 a2 n2 c2 a3 n3 c3 a4 n4 c4 a5 n5 c5]) [btwP bb H a1 n1 c1 a2 n2 c2 a3 n3 c3 a4 n4 c4 a5 n5 c5] (vs:=[.pointer (some ⟨bb,0,none⟩),.int .i64 x.1,.int .i64 x.2]) (v:=.int .i64 (farI H x.1 x.2)) (fun R w hw=>coresP_any (valid_links hv) hcN1 hcN2 hw) ?_
  refine byM ?_;refine mStoreE (k:=k) (r:=[.int .i64 (st x.1+(sn x.1+1)*cost+farI H x.1 x.2)]) ?_
  refine mEnd fun w g hw=>?_
  generalize ht:st x.1+(sn x.1+1)*cost+farI H x.1 x.2=t at hw
  have hw:Wd Γ ([.blk b14 (.cells (plV x).toArray 164),Res.mpT Tryz.prog 3 (fun n:Int=>Value.int .i64 n) bn ln2,Res.mpT Tryz.prog 3 (fun n:Int=>Value.int .i64 n) bs ls]++([btwP bb H a1 n1 c1 a2 n2 c2 a3 n3 c3 a4 n4 c4 a5 n5 c5]++([.own (.slice (some ao) nm nm) 3 1 (intRows (O.set k t))]++((.blk b4 (.cells #[.int .i64 r,.slice am nm cm] 109)::.blk b3 (.cells #[.string H.Name,.slice a1 n1 c1,.slice a2 n2 c2,.slice a3 n3 c3,.slice a4 n4 c4,.slice a5 n5 c5] 30)::S)++[])))) w:=by
   have e:intRows (O.set k t)=(intRows O).set k [.int .i64 t]:=by unfold intRows;rw[List.map_set]
   rw[e];exact hw
  rw[List.append_nil]at hw;have hOk:(O.set k t)[k]? = some t:=by rw[List.getElem?_set,if_pos rfl,if_pos (by omega)]
  have hw:Wd Γ ([.blk b14 (.cells (plV x).toArray 164),.own (.slice (some ao) nm nm) 3 1 (intRows (O.set k t))]++([Res.mpT Tryz.prog 3 (fun n:Int=>Value.int .i64 n) bs ls]++((Res.mpT Tryz.prog 3 (fun n:Int=>Value.int .i64 n) bn ln2::btwP bb H a1 n1 c1 a2 n2 c2 a3 n3 c3 a4 n4 c4 a5 n5 c5::.blk b4 (.cells #[.int .i64 r,.slice am nm cm] 109)::.blk b3 (.cells #[.string H.Name,.slice a1 n1 c1,.slice a2 n2 c2,.slice a3 n3 c3,.slice a4 n4 c4,.slice a5 n5 c5] 30)::S)++[]))) w:=by
   rw[List.append_nil];exact(hw.ps [1,2,4,3])
  repeat first|refine byW ?_|refine byV ?_;intro w hw
  refine W_mixed [.blk b14 (.cells (plV x).toArray 164),.own (.slice (some ao) nm nm) 3 1 (intRows (O.set k t))] [fun _=>[Res.mpT Tryz.prog 3 (fun n:Int=>Value.int .i64 n) bs ls],fun _=>Res.mpT Tryz.prog 3 (fun n:Int=>Value.int .i64 n) bn ln2::btwP bb H a1 n1 c1 a2 n2 c2 a3 n3 c3 a4 n4 c4 a5 n5 c5::.blk b4 (.cells #[.int .i64 r,.slice am nm cm] 109)::.blk b3 (.cells #[.string H.Name,.slice a1 n1 c1,.slice a2 n2 c2,.slice a3 n3 c3,.slice a4 n4 c4,.slice a5 n5 c5] 30)::S] [[],[],[],[],[],[],[],[0]] [[],[],[],[],[],[],[],[0]] [[],[]] (by exact hw) ?_
  refine byM ?_;refine mM (v:=undef) (fun _=>[Res.mpT Tryz.prog 3 (fun n:Int=>Value.int .i64 n) bs (aSet ls x.2 t)]) (fun Y w g hw=>by
   rw[cells1 (c:=0) rfl]at hw;refine s_mapUpdate (P:=Tryz.prog) (K:=3) (α:=Int) (f:=fun n:Int=>Value.int .i64 n) (i:=2) (v:=t) (a:=x.2) hw rfl rfl rfl rfl fun w hw=>⟨?_,fun _=>rfl⟩
   rw[cells1 (c:=0) rfl,setC_self];exact hw) ?_ rfl rfl
  refine mEnd fun w g hw=>?_
  have hls':=mapF_set hls x.2 t
  have hw:Wd Γ ([.blk b14 (.cells (plV x).toArray 164),.own (.slice (some ao) nm nm) 3 1 (intRows (O.set k t))]++([Res.mpT Tryz.prog 3 (fun n:Int=>Value.int .i64 n) bs (aSet ls x.2 t)]++((Res.mpT Tryz.prog 3 (fun n:Int=>Value.int .i64 n) bn ln2::btwP bb H a1 n1 c1 a2 n2 c2 a3 n3 c3 a4 n4 c4 a5 n5 c5::.blk b4 (.cells #[.int .i64 r,.slice am nm cm] 109)::.blk b3 (.cells #[.string H.Name,.slice a1 n1 c1,.slice a2 n2 c2,.slice a3 n3 c3,.slice a4 n4 c4,.slice a5 n5 c5] 30)::S)++[]))) w:=hw
  rw[List.append_nil]at hw;have hw:Wd Γ (.own (.slice (some ao) nm nm) 3 1 (intRows (O.set k t))::.blk b4 (.cells #[.int .i64 r,.slice am nm cm] 109)::Res.mpT Tryz.prog 3 (fun n:Int=>Value.int .i64 n) bn ln2::Res.mpT Tryz.prog 3 (fun n:Int=>Value.int .i64 n) bs (aSet ls x.2 t)::btwP bb H a1 n1 c1 a2 n2 c2 a3 n3 c3 a4 n4 c4 a5 n5 c5::.blk b3 (.cells #[.string H.Name,.slice a1 n1 c1,.slice a2 n2 c2,.slice a3 n3 c3,.slice a4 n4 c4,.slice a5 n5 c5] 30)::S) w:=(Wd.drop hw).ps [2,4,2]
  have hF':(O.set k t).take (k+1)++arrF (farI H) cost (updI st x.2 t) (updI sn x.1 (sn x.1+1)) (es.drop (k+1))=arrF (farI H) cost (fun _=>0) (fun _=>0) es:=by
   have hdr:es.drop k=x::es.drop (k+1):=by
    obtain⟨q1,q2⟩:=List.getElem?_eq_some_iff.1 hx
    rw[List.drop_eq_getElem_cons q1,q2]
   rw[←hF,hdr,take_succ_of hOk,List.take_set_of_le (Nat.le_refl k),List.append_assoc];conv=>rhs;unfold arrF
   rw[ht];rfl
  have hB1:∀z,0≤updI st x.2 t z∧updI st x.2 t z≤((k+1:Nat):Int)*2000000000:=fun z=>by
   have:=hst z
   unfold updI;split
   ·omega
   ·omega
  have hB2:∀z,0≤updI sn x.1 (sn x.1+1) z∧updI sn x.1 (sn x.1+1) z≤((k+1:Nat):Int):=fun z=>by
   have:=hsn z
   unfold updI;split
   ·omega
   ·omega
  repeat first|refine byW ?_|refine byV ?_;intro w hw
  exact⟨μ-1,by omega,k+1,updI st x.2 t,updI sn x.1 (sn x.1+1),O.set k t,aSet ls x.2 t,ln2,by omega,by simp[hO],hls',hln',hB1,hB2,hF',⟨rfl,rfl,rfl,rfl,rfl,rfl,rfl,rfl,trivial⟩,hw⟩
 ·have hkn':¬k<nm:=by have:=of_decide_eq_false h;omega
  rw[List.drop_eq_nil_of_le (by omega),List.take_of_length_le (by omega)]at hF
  have hF:O=arrF (farI H) cost (fun _=>0) (fun _=>0) es:=by rw[←hF];unfold arrF;simp
  repeat first|refine byW ?_|refine byV ?_;intro w hw
  refine⟨_,rfl,_,rfl,?_⟩
  rw[←hF];exact hw.ds [1,1,1,1,1]
end Go.Proofs.YtfoggcgogafocaaGreat
end
section
open Go Mk
namespace Go.Proofs.YtfoggcgogafocaaGreat
noncomputable def compS(H:HwT)(r:Int)(es:List Pl)(cost:Int):Int:=if (arrS H r es cost).2=0 then (arrS H r es cost).1.foldl max 0 else 0
theorem arrS_len{H:HwT}{r cost:Int}{es:List Pl}:(arrS H r es cost).1.length≤es.length:=by
 unfold arrS;split
 ·split
  ·simp
  ·rw[arrF_len];exact Nat.le_refl _
 ·simp
instance pg_Completion{Γ:Gho}{u v:Value}{H:HwT}[hh:HwR Γ u H]{es:List Pl}[hr:SlC Γ v 2 (es.map plV)][hsh:ShortL es](r cost:Int):PG Tryz.prog Γ 41 [u,.agg #[.int .i64 r,v],.int .i64 cost] (.tuple #[.int .i64 (compS H r es cost),.int .i64 (arrS H r es cost).2]):=⟨fun S w hw=>by
 obtain⟨am,nm,cm,rfl,-⟩:=hr.h.shape;have hl:=hsh.h
 exact completion_of (l:=(arrS H r es cost).1) (Nat.le_trans arrS_len hl) (fun S w hw=>arrivals_any r cost hw) hw⟩
def stL(l:List (Pl×Int))(st:Int→Int):Int→Int:=l.foldl (fun f p=>updI f p.1.2 p.2) st
section
variable {far:Int→Int→Int}{cost:Int}
end
set_option maxHeartbeats 8000000
attribute [local irreducible] Calls
section
variable {P:Program}{n:Nat}{ops:List Oper}{Γ:Gho}{K:List Res}{wr tc stab:List (List Nat)}{Q:Fr→World→Prop}{i:Nat}{rest:List Oper}{ρ:Fr}{M:Nat→Fr→List Res}
end
def nx(L:List Int)(k:Nat)(n:Int):Int:=((if L=[] then 0 else (L.getD (k%L.length) 0)%1073741824)+7*((k / max L.length 1:Nat):Int))%n
theorem ints_one(xs:List Int):(intRows xs).flatten.all (·.oneCell')=true:=by
 unfold intRows;induction xs with
 | nil=>rfl
 | cons x l ih=>simp only[List.map_cons,List.flatten_cons,List.all_append,ih];rfl
end Go.Proofs.YtfoggcgogafocaaGreat
end
section
open Go
namespace Mk
attribute [local irreducible] Calls
section
variable {P:Program}{n:Nat}{ops:List Oper}{Γ:Gho}{K:List Res}{wr tc stab:List (List Nat)}{Q:Fr→World→Prop}{i:Nat}{rest:List Oper}{ρ:Fr}{M:Nat→Fr→List Res}
variable {d:Option Tmp}{ty:TypeId}{pos:String}{es:Array Edge}{f:Nat}{args:List Operand}{tys:Array TypeId}{vs:List Value}{v:Value}
theorem mCallSK{c:Nat}{X:List Res}(X':List Res)[FnOk P f](hs:∀Y w,Wd Γ (X++(K++Y)) w→Calls P f vs.toArray w fun e w'=>e=.returned v∧Wd Γ (X'++(K++Y)) w')
  (h:MSw (mV P n ops Γ K wr tc stab) Q (i+1) rest ⟨putO ρ d v,setC M c fun _=>X'⟩) (hM:M c=fun _=>X:=by first|exact setC_self|exact ml1|exact ml2|exact rfl) (hw0:wr.getD i []=[c]:=by exact rfl) (ht:tc.getD i []=[c]:=by exact rfl) (ha:∀g,EvL (ovr stab.flatten g ρ) args vs:=by intro g;exact byEV) :
  MSw (mV P n ops Γ K wr tc stab) Q i (⟨d,.call { callee:=.value (.func f),args:=args.toArray,argTypes:=tys },ty,pos,es,none⟩::rest) ⟨ρ,M⟩:=
 mS (F:=fun _=>X) (fun _=>X') (fun g w Y hw=>s_call (ha g).eqA ((hs Y w hw).mono fun e w' ⟨h1,h2⟩=>⟨v,h1,fun _=>rfl,h2⟩)) h hM hw0 ht rfl
variable {x y:Operand}{T:TypeId}
theorem mAppK{c dd j E by' sz m cc m2 c3:Nat}{zs:List Value}{a a2:Option Addr}{rows rows2:List (List Value)}{X:List Res}[TL P T E sz by' zs](h:MSw (mV P n ops Γ K wr tc stab) Q (i+1) rest ⟨putO ρ (some dd) undef,setC M c fun g=>X.set j (.own (g dd) E sz (rows++rows2))⟩)
  (hrd:∀Y w,Wd Γ (K++Y) w→Rd w a2 sz rows2) (hl:m2=rows2.length) (h1:∀u∈rows2.flatten,u.oneCell'=true)
  (hx:∀g,ev (ovr stab.flatten g ρ) x=.slice a m cc:=by intro g;exact rfl) (hy:∀g,ev (ovr stab.flatten g ρ) y=.slice a2 m2 c3:=by intro g;exact rfl) (ht:tc.getD i []=[c]:=by exact rfl) (hM:M c=(fun _=>X):=by exact rfl) (hj:X[j]? = some (.own (.slice a m cc) E sz rows):=by exact byIX)
  (hs:(stab.getD c []).contains dd=true:=by exact rfl) (hfr:freeD stab (some dd)=true:=by exact rfl) (hw0:wr.getD i []=[c]:=by exact rfl)
  (hb:(m+m2)*by'≤140737488355328:=by omega) (h63:m+m2≤9223372036854775807:=by omega) :
  MSw (mV P n ops Γ K wr tc stab) Q i (⟨some dd,.call { callee:=.builtin .append,args:=#[x,y],argTypes:=#[T,T] },ty,pos,es,none⟩::rest) ⟨ρ,M⟩:=by
 refine mM (v:=undef) _ (fun Y w g hw=>?_) h hw0 rfl
 rw[cells1 ht,hM]at hw;have hjl:j<X.length:=(List.getElem?_eq_some_iff.1 hj).1
 have hi1:(K++(X++Y))[K.length+j]? = some (.own (.slice a m cc) E sz rows):=by
  rw[List.getElem?_append_right (Nat.le_add_right _ _),Nat.add_sub_cancel_left,List.getElem?_append_left hjl];exact hj
 refine s_append hw (hx g) (hy g) hi1 (hrd _ _ hw) hl h1 hb h63 fun v' w' hw'=>⟨?_,fun hh=>by rw[hfr]at hh;cases hh⟩
 rw[cells1 ht,setC_self];have h3:ovr (stab.getD c []) (putO g (some dd) v') noFr dd=v':=by
  rw[ovr_in (by simpa using hs)];exact upd_same _ _ _
 simp only[h3]
 rw[List.set_append_right _ _ (Nat.le_add_right _ _),Nat.add_sub_cancel_left,List.set_append_left _ _ hjl]at hw';exact hw'
end
theorem perm_count{α:Type}{l l':List α}(h:∀(_:DecidableEq α) (a:α),l.count a=l'.count a):l.Perm l':=by
 classical
 exact List.perm_iff_count.2 fun a=>h _ a
theorem byPM{l l':List Res}(h:∀(_:DecidableEq Res) (a:Res),l.count a=l'.count a:=by intro _ a;simp only[psL,pullL,List.getElem?_cons_zero,List.getElem?_cons_succ,List.eraseIdx_cons_succ,List.eraseIdx_cons_zero,List.cons_append,List.nil_append,List.count_append,List.count_cons,List.count_nil,List.map_cons,List.map_nil,Nat.add_zero,Nat.zero_add];ac_rfl):l.Perm l':=perm_count h
end Mk
end
section
open Go
namespace Mk
theorem L_has{P:Program}{n:Nat}{ops:Array Oper}{Q:Exit→Fr→World→Prop}{rest:List Oper}{ρ:Fr}{w:World}{l:List (Nat×Value)}(h:Has ρ l)(k:∀ρ',Has ρ' l→L P n ops Q rest ρ' w):L P n ops Q rest ρ w:=k ρ h
theorem val_b{v:Value}{a b:Bool}(h:v=.bool a)(hab:a=b):v=.bool b:=by rw[h,hab]
section
variable {P:Program}{n:Nat}{ops:List Oper}{Γ:Gho}{K:List Res}{Q:Fr→World→Prop}{ρ:Fr}{rest:List Oper}{wr tc stab:List (List Nat)}{i:Nat}{M:Nat→Fr→List Res}
variable {ty:TypeId}{pos:String}{es:Array Edge}
end
section
variable {P:Program}{ρ:Fr}{w:World}{d:Option Tmp}{T U ty:TypeId}{pos:String}{es:Array Edge}{x y:Operand}{g:Option (Nat×Bool)}
theorem y_neqlb(hT:P.underlying T=some .bool){a b:Bool}(hx:ev ρ x=.bool a)(hy:ev ρ y=.bool b):Yields P ⟨d,.binOp .neq T x y U,ty,pos,es,g⟩ ρ w (.bool (!(a == b))):=by
 unfold Yields;simp[execOp,go_sem,hx,hy,hT]
end
end Mk
end
section
open Go Mk
namespace Go.Proofs.YtfoggcgogafocaaGreat
set_option maxHeartbeats 8000000
attribute [local irreducible] Calls
def PathOut(H:HwT)(a b:Int)(p:List Int)(err:Int):Prop:=
 (checkS H a b≠0∧p=[]∧err=checkS H a b) ∨
 (checkS H a b=0∧dstI (nbrL H.Links) b a<0∧p=[]∧err=60) ∨
 (checkS H a b=0∧0≤dstI (nbrL H.Links) b a∧err=0∧∃l,p=a::l∧PathP (nbrL H.Links) (dstI (nbrL H.Links) b) b a l)
theorem path_core{Γ : Gho}{u : Value}{H : HwT}[hh : HwR Γ u H](a b : Int){w : World}(hw : Wd Γ [] w) :
    Calls Tryz.prog 16 #[u,.int .i64 a,.int .i64 b] w fun e w'=>∃Γ' v p err,Γ.le Γ'∧e=.returned (.tuple #[v,.int .i64 err])∧PathOut H a b p err∧Wd Γ' [.own v 3 1 (intRows p)] w':=by
  have hh':=hh
  obtain⟨a1,n1,c1,a2,n2,c2,a3,n3,c3,a4,n4,c4,a5,n5,c5,cs,rfl,-⟩:=hh.h;refine calls_of_W Tryz.func16 rfl rfl ?_
  repeat first|refine byW ?_|refine byV ?_;intro w hw
  refine lBox ?_;intro b1 w hw;have hw:Wd Γ [.blk b1 (.cells #[.string H.Name,.slice a1 n1 c1,.slice a2 n2 c2,.slice a3 n3 c3,.slice a4 n4 c4,.slice a5 n5 c5] 30)] w:=hw
  repeat first|refine byW ?_|refine byV ?_;intro w hw
  refine W_cond rfl (fun h=>?_) (fun h=>?_)
  · have h:¬checkS H a b=0:=by simpa using h
    repeat first|refine byW ?_|refine byV ?_;intro w hw
    exact⟨_,rfl,Γ,_,[],_,.refl _,rfl,.inl ⟨h,rfl,rfl⟩,Wd.addNil hw.drop⟩
  have h:checkS H a b=0:=by simpa using h
  obtain⟨hv,ha0,ha1,hb0,hb1⟩:=check_ok h
  have hL:=valid_links hv
  have hn:=nbr_ok hL ⟨hb0,hb1⟩
  repeat first|refine byW ?_|refine byV ?_;intro w hw
  refine lCall ((distances_any (H:=H) hL ⟨hb0,hb1⟩ hw).mono fun e w hq=>?_)
  obtain⟨v,O,rfl,hO,hd,hw⟩:=hq;obtain⟨ao,no,co,rfl,hno,hnc,-⟩:=hw.own_shape (i:=0) rfl
  simp only[intRows,List.length_map]at hno
  obtain⟨y,hy⟩:=get_lt (l:=O) (k:=a.toNat) (by omega)
  have hget:∀ {x y:Int},0≤x→x<64→O[x.toNat]? = some y→dstI (nbrL H.Links) b x=y∧y≤128001000000:=fun {x y} h0 h1 hy=>by
    have e:oat O x=y:=by unfold oat;rw[List.getD_eq_getElem?_getD,hy];rfl
    have:=hd x h0 h1
    rw[e]at this;exact⟨this.1.eq,this.2⟩
  have hdst:∀x,0≤x→x<64→Dst (nbrL H.Links) b x (dstI (nbrL H.Links) b x):=fun x h0 h1=>by
    have:=(hd x h0 h1).1
    rw[this.eq];exact this
  have hya:=(hget ha0 ha1 hy).1
  refine⟨_,rfl,?_⟩;repeat first|refine byW ?_|refine byV ?_;intro w hw
  refine W_cond rfl (fun h2=>?_) (fun h2=>?_)
  · have h2:y<0:=of_decide_eq_true h2
    repeat first|refine byW ?_|refine byV ?_;intro w hw
    exact⟨_,rfl,Γ,_,[],_,.refl _,rfl,.inr (.inl ⟨h,by rw[hya];exact h2,rfl,rfl⟩),Wd.addNil (hw.ds [0,0])⟩
  have h2:¬y<0:=of_decide_eq_false h2
  repeat first|refine byW ?_|refine byV ?_;intro w hw
  refine lCall ((neighbours_any (H:=H) hL.1 hw).mono fun e w hq=>?_)
  obtain⟨bm,rfl,hA⟩:=hq;clear hw;obtain⟨Γ1,l,hle,hrep,hw⟩:=adj_freeze hA
  refine⟨_,rfl,?_⟩;repeat first|refine byW ?_|refine byV ?_;intro w hw
  refine lBuildSlice [[.int .i64 a]] ?_
  intro ap w hw;have hw:Wd Γ1 [.own (.slice (some ap) 1 1) 3 1 (intRows [a]),adjM bm l,.own (.slice ao no co) 3 1 (intRows O),.blk b1 (.cells #[.string H.Name,.slice a1 n1 c1,.slice a2 n2 c2,.slice a3 n3 c3,.slice a4 n4 c4,.slice a5 n5 c5] 30)] w:=hw
  repeat first|refine byW ?_|refine byV ?_;intro w hw
  refine W_loop (fun μ ρ w=>∃(c:Int) (vp:Option Addr) (np cp:Nat) (P:List Int),μ=(dstI (nbrL H.Links) b c).toNat∧0≤c∧c<64∧0≤dstI (nbrL H.Links) b c∧P.length+μ≤y.toNat∧(∀t,PathP (nbrL H.Links) (dstI (nbrL H.Links) b) b c t→PathP (nbrL H.Links) (dstI (nbrL H.Links) b) b a (P++t))∧Has ρ [(2,.int .i64 b),(9,.slice ao no co),(10,.map (some bm)),(11,.slice vp np cp),(12,.int .i64 c)]∧Wd Γ1 [.own (.slice vp np cp) 3 1 (intRows (a::P)),adjM bm l,.own (.slice ao no co) 3 1 (intRows O),.blk b1 (.cells #[.string H.Name,.slice a1 n1 c1,.slice a2 n2 c2,.slice a3 n3 c3,.slice a4 n4 c4,.slice a5 n5 c5] 30)] w) y.toNat ⟨a,some ap,1,1,[],by rw[hya],ha0,ha1,by rw[hya];omega,by simp,fun t ht=>ht,⟨rfl,rfl,rfl,rfl,rfl,trivial⟩,hw⟩ ?_
  clear hw;rintro μ ρ w ⟨c,vp,np,cp,P,hμ,hc0,hc1,hcl,hPl,hP,hρ,hw⟩
  have hyb:=(hget ha0 ha1 hy).2
  have hpn:=own_len (i:=0) hw rfl
  simp only[intRows,List.length_map,List.length_cons]at hpn
  rw[hρ.eq];clear hρ;repeat first|refine byW ?_|refine byV ?_;intro w hw
  refine W_cond rfl (fun h3=>?_) (fun h3=>?_)
  · have h3:c≠b:=by simpa using h3
    obtain⟨q,hq,hq1,hq2,hq3,hq4,hq5,hq6,hq7⟩:=next_ok hL ⟨hb0,hb1⟩ hdst ⟨hc0,hc1⟩ hcl h3
    obtain⟨yc,hyc⟩:=get_lt (l:=O) (k:=c.toNat) (by omega)
    have hcc:=(hget hc0 hc1 hyc).1
    obtain⟨va,hva⟩:=zeroOr_some l c
    have hra:=hrep c va hva
    obtain⟨aa,na,ca,rfl,hna,hnca,hca⟩:=hra.shape;simp only[List.length_map]at hna
    repeat first|refine byW ?_|refine byV ?_;intro w hw
    refine lY (v:=.slice aa na ca) ?_ (hy:=y_lookupZ hw hva (i:=1) rfl rfl rfl)
    repeat first|refine byW ?_|refine byV ?_;intro w hw
    refine W_loop (fun μ2 ρ w=>∃(k:Nat),μ2+k=na∧Has ρ [(2,.int .i64 b),(9,.slice ao no co),(10,.map (some bm)),(11,.slice vp np cp),(12,.int .i64 c),(13,.int .i64 (((nbrL H.Links c).take k).foldl (stepF (dstI (nbrL H.Links) b) c) (-1))),(41,.slice aa na ca),(42,.int .i64 na),(43,.int .i64 k)]∧Wd Γ1 [.own (.slice vp np cp) 3 1 (intRows (a::P)),adjM bm l,.own (.slice ao no co) 3 1 (intRows O),.blk b1 (.cells #[.string H.Name,.slice a1 n1 c1,.slice a2 n2 c2,.slice a3 n3 c3,.slice a4 n4 c4,.slice a5 n5 c5] 30)] w) na ⟨0,by omega,⟨rfl,rfl,rfl,rfl,rfl,rfl,rfl,rfl,rfl,trivial⟩,hw⟩ ?_
    clear hw;rintro μ2 ρ w ⟨k,hk,hρ,hw⟩
    rw[hρ.eq];clear hρ;repeat first|refine byW ?_|refine byV ?_;intro w hw
    refine W_cond rfl (fun h4=>?_) (fun h4=>?_)
    · have hkn:k<na:=by have:=of_decide_eq_true h4;omega
      clear h4;obtain⟨r,hr⟩:=get_lt (l:=nbrL H.Links c) (k:=k) (by omega)
      obtain⟨r0,r1,r2,r3⟩:=hn.rng c r (List.mem_of_getElem? hr)
      obtain⟨yr,hyr⟩:=get_lt (l:=O) (k:=r.1.toNat) (by omega)
      obtain⟨hrr,hrb⟩:=hget r0 r1 hyr
      have hrn:-1≤yr:=by rw[←hrr];rcases hdst r.1 r0 r1 with⟨k0,-⟩|⟨k0,-⟩ <;> omega
      generalize hacc:((nbrL H.Links c).take k).foldl (stepF (dstI (nbrL H.Links) b) c) (-1)=acc
      have hst:((nbrL H.Links c).take (k+1)).foldl (stepF (dstI (nbrL H.Links) b) c) (-1)=if r.2+yr=yc∧(acc<0∨r.1<acc) then r.1 else acc:=by
        rw[take_succ_of hr,List.foldl_append,hacc,←hrr,←hcc];rfl
      repeat first|refine byW ?_|refine byV ?_;intro w hw
      refine lAlloc ?_;intro b15 w hw;refine lStore ?_;intro w hw;have hw:Wd Γ1 [.blk b15 (.cells (plV r).toArray 122),.own (.slice vp np cp) 3 1 (intRows (a::P)),adjM bm l,.own (.slice ao no co) 3 1 (intRows O),.blk b1 (.cells #[.string H.Name,.slice a1 n1 c1,.slice a2 n2 c2,.slice a3 n3 c3,.slice a4 n4 c4,.slice a5 n5 c5] 30)] w:=hw
      repeat first|refine byW ?_|refine byV ?_;intro w hw
      refine W_quiet (by kernel_rfl) (by kernel_rfl) hw ?_
      refine byQ ?_;intro w hw;refine W_cond rfl (fun h5=>?_) (fun h5=>?_)
      · have h5:(decide (r.2+yr=yc)&&(decide (acc<0)||decide (r.1<acc)))=true:=h5
        rw[if_pos (by simpa using h5)]at hst
        repeat first|refine byW ?_|refine byV ?_;intro w hw
        exact⟨μ2-1,by omega,k+1,by omega,⟨rfl,rfl,rfl,rfl,rfl,by rw[hst];rfl,rfl,rfl,rfl,trivial⟩,hw.drop⟩
      · have h5:(decide (r.2+yr=yc)&&(decide (acc<0)||decide (r.1<acc)))=false:=h5
        rw [if_neg (fun hh => by have : (decide (r.2 + yr = yc) && (decide (acc < 0) || decide (r.1 < acc))) = true := by simpa using hh
                                 rw[h5]at this;cases this)]at hst
        repeat first|refine byW ?_|refine byV ?_;intro w hw
        exact⟨μ2-1,by omega,k+1,by omega,⟨rfl,rfl,rfl,rfl,rfl,by rw[hst];rfl,rfl,rfl,rfl,trivial⟩,hw.drop⟩
    · have hkn:¬k<na:=by have:=of_decide_eq_false h4;omega
      rw[List.take_of_length_le (by omega)]
      rw[show (nbrL H.Links c).foldl (stepF (dstI (nbrL H.Links) b) c) (-1)=q.1 from hq2];repeat first|refine byW ?_|refine byV ?_;intro w hw
      refine lBuildSlice [[.int .i64 q.1]] ?_
      intro ab w hw;refine lApp (i:=1) (rows2:=[[.int .i64 q.1]]) ?_ (Wd.own_rd (i:=0) hw rfl)
      intro v' w hw;obtain⟨q',m',d',rfl,-,-,-⟩:=hw.own_shape (i:=1) rfl
      have hw:Wd Γ1 [.own (.slice q' m' d') 3 1 (intRows (a::(P++[q.1]))),adjM bm l,.own (.slice ao no co) 3 1 (intRows O),.blk b1 (.cells #[.string H.Name,.slice a1 n1 c1,.slice a2 n2 c2,.slice a3 n3 c3,.slice a4 n4 c4,.slice a5 n5 c5] 30)] w:=by
        have e:intRows (a::(P++[q.1]))=intRows (a::P)++[[.int .i64 q.1]]:=by simp[intRows]
        rw[e];exact hw.drop
      repeat first|refine byW ?_|refine byV ?_;intro w hw
      refine⟨(dstI (nbrL H.Links) b q.1).toNat,by omega,q.1,q',m',d',P++[q.1],rfl,hq6,hq7,hq4,by simp;omega,fun t ht=>?_,⟨rfl,rfl,rfl,rfl,rfl,trivial⟩,hw⟩
      rw[List.append_assoc];refine hP _ ?_
      rw[←hq2]at ht ⊢
      exact .cons h3 ht
  · have h3:c=b:=by simpa using h3
    subst h3;repeat first|refine byW ?_|refine byV ?_;intro w hw
    refine⟨_,rfl,Γ1,_,a::P,0,hle,rfl,.inr (.inr ⟨h,by rw[hya];omega,rfl,P,rfl,?_⟩),hw.ds [1,1,1]⟩
    have:=hP [] .nil
    rwa [List.append_nil]at this
theorem Path_any{Γ:Gho}{u:Value}{H:HwT}[hh:HwR Γ u H](a b:Int){S:List Res}{w:World}(hw:Wd Γ S w) :
  Calls Tryz.prog 16 #[u,.int .i64 a,.int .i64 b] w fun e w'=>∃v p err,e=.returned (.tuple #[v,.int .i64 err])∧PathOut H a b p err∧Wd Γ (.own v 3 1 (intRows p)::S) w':=by
 haveI:HwR (hpG Γ w) u H:=hh.mono (hpG_le hw)
 refine(path_core (Γ:=hpG Γ w) a b (hpG_wd hw)).mono fun e w' hq=>?_
 obtain⟨Γ',v,p,err,hle,rfl,hp,hw'⟩:=hq;exact⟨v,p,err,rfl,hp,wd_keptG (R:=[_]) hw hle own_noimm hw'⟩
end Go.Proofs.YtfoggcgogafocaaGreat
end
section
open Go Mk
namespace Go.Proofs.YtfoggcgogafocaaGreat
def awH:HwT:=⟨⟨#[109]⟩,[⟨0,32,0,1⟩,⟨1,39,2,1⟩],[],[⟨0,1,5⟩,⟨1,2,7⟩],[],[]⟩
theorem aw_reach:Reach awH.Links 0 2:=.ab (l:=⟨1,2,7⟩) (by simp[awH]) (.ab (l:=⟨0,1,5⟩) (by simp[awH]) .refl)
theorem aw_valid:validS awH=0:=by
 have h1:namesB awH=true:=by decide +kernel
 have h2:countsB awH=true:=by decide +kernel
 have h3:(coresRB awH&&regionsRB awH)=true:=by decide +kernel
 have h4:alignRB awH=true:=by decide +kernel
 have h5:uniqueB awH=true:=by decide +kernel
 have h6:knownB awH=true:=by decide +kernel
 have h7:hierB awH=true:=decP_t ⟨fun c hc=>(by cases hc),fun i k a b ha=>(by cases ha)⟩
 have h8:disjB awH=true:=decP_t fun i k a b _ ha=>by simp[awH,regs]at ha
 have h9:connB awH=true:=decP_t fun n hn=>by
  have:n=0∨n=2:=by simpa[awH,usedN] using hn
  rcases this with rfl|rfl
  ·exact .refl
  ·exact aw_reach
 simp[validS,h1,h2,h3,h4,h5,h6,h7,h8,h9]
theorem aw_sz:HwSz awH:=by unfold HwSz maxS;decide
theorem aw_nb{x:Int}{q:Pl}(h:q∈nbrL awH.Links x):(x=0∧q=(1,5))∨(x=1∧(q=(0,5)∨q=(2,7)))∨(x=2∧q=(1,7)):=by
 simp only[nbrL,awH,List.flatMap_cons,List.flatMap_nil,List.append_nil,List.mem_append]at h
 rcases h with (h|h)|(h|h) <;> split at h <;> simp at h
 ·left;exact⟨by omega,h⟩
 ·right;left;exact⟨by omega,.inl h⟩
 ·right;left;exact⟨by omega,.inr h⟩
 ·right;right;exact⟨by omega,h⟩
def awPot(x:Int):Int:=if x=1 then 5 else if x=2 then 12 else 0
theorem aw_pot{x d:Int}(h:Way (nbrL awH.Links) 0 x d):awPot x≤d:=by
 induction h with
 | refl=>decide
 | @step x d q _ hq ih=>
  rcases aw_nb hq with⟨rfl,rfl⟩|⟨rfl,rfl|rfl⟩|⟨rfl,rfl⟩ <;> simp[awPot]at ih ⊢ <;> omega
theorem aw_pot2{x d:Int}(h:Way (nbrL awH.Links) 2 x d):12-awPot x≤d:=by
 induction h with
 | refl=>decide
 | @step x d q _ hq ih=>
  rcases aw_nb hq with⟨rfl,rfl⟩|⟨rfl,rfl|rfl⟩|⟨rfl,rfl⟩ <;> simp[awPot]at ih ⊢ <;> omega
theorem aw_m01:((1,5):Pl)∈nbrL awH.Links 0:=by decide
theorem aw_m12:((2,7):Pl)∈nbrL awH.Links 1:=by decide
theorem aw_m21:((1,7):Pl)∈nbrL awH.Links 2:=by decide
theorem aw_m10:((0,5):Pl)∈nbrL awH.Links 1:=by decide
theorem aw_02:dstI (nbrL awH.Links) 0 2=12:=Dst.eq (.inl ⟨by decide,(Way.step (q:=(2,7)) (Way.step (q:=(1,5)) .refl aw_m01) aw_m12:Way _ 0 2 (0+5+7)),fun d' h=>aw_pot h⟩)
theorem aw_20:dstI (nbrL awH.Links) 2 0=12:=Dst.eq (.inl ⟨by decide,(Way.step (q:=(0,5)) (Way.step (q:=(1,7)) .refl aw_m21) aw_m10:Way _ 2 0 (0+7+5)),fun d' h=>aw_pot2 h⟩)
theorem aw_21:dstI (nbrL awH.Links) 2 1=7:=Dst.eq (.inl ⟨by decide,(Way.step (q:=(1,7)) .refl aw_m21:Way _ 2 1 (0+7)),fun d' h=>aw_pot2 h⟩)
theorem aw_22:dstI (nbrL awH.Links) 2 2=0:=Dst.eq (.inl ⟨by decide,.refl,fun d' h=>aw_pot2 h⟩)
theorem aw_check{a b:Int}(ha:0≤a∧a<64)(hb:0≤b∧b<64):checkS awH a b=0:=by
 unfold checkS;rw[if_pos aw_valid,if_neg (by omega)]
theorem aw_dist:distS awH 0 2=(12,0):=by
 unfold distS;rw[if_pos (aw_check (by omega) (by omega)),aw_02,if_neg (by omega)]
theorem aw_next0:nextF (nbrL awH.Links) (dstI (nbrL awH.Links) 2) 0=1:=by
 have:nbrL awH.Links 0=[(1,5)]:=by decide
 unfold nextF;rw[this];simp[stepF,aw_20,aw_21]
theorem aw_next1:nextF (nbrL awH.Links) (dstI (nbrL awH.Links) 2) 1=2:=by
 have:nbrL awH.Links 1=[(0,5),(2,7)]:=by decide
 unfold nextF;rw[this];simp[stepF,aw_20,aw_21,aw_22]
theorem aw_path{p:List Int}{err:Int}(h:PathOut awH 0 2 p err):p=[0,1,2]∧err=0:=by
 rcases h with⟨h,-⟩|⟨-,h,-⟩|⟨-,-,he,l,rfl,hp⟩
 ·exact absurd (aw_check (by omega) (by omega)) h
 ·rw[aw_20]at h;omega
 ·cases hp with
  | cons hne hp=>
   rw[aw_next0]at hp ⊢
   cases hp with
   | cons hne hp=>
    rw[aw_next1]at hp ⊢
    cases hp with
    | nil=>exact⟨rfl,he⟩
    | cons hne hp=>exact absurd rfl hne
theorem aw_plan:PlanOk awH 0 [1]:=⟨aw_valid,by decide,by decide,by decide,by decide⟩
theorem aw_tree:planE awH 0 [1] 3=[(0,1)]:=by
 have hl:=planE_len (cost:=3) aw_plan
 have ht:=planE_tos (cost:=3) aw_plan
 have hp:=planE_proto (cost:=3) aw_plan
 match he:planE awH 0 [1] 3,hl with
 | [e],_=>
  rw[he]at ht hp
  have h2:e.2=1:=by simpa using ht.mem_iff (a:=e.2)
  have h1:e.1=0:=by simpa using (hp 0 e rfl).1
  rw[show e=(e.1,e.2) from rfl,h1,h2]
theorem aw_planS:planErr awH 0 [1] 3=0∧planS awH 0 [1] 3=(0,[(0,1)]):=by
 have h:=aw_plan.err (cost:=3) (by omega)
 refine⟨h,?_⟩
 unfold planS;rw[if_pos h,aw_tree]
theorem aw_comp:compS awH 0 [(0,1)] 3=15∧(arrS awH 0 [(0,1)] 3).2=0:=by
 have ht:treeErr awH 0 [(0,1)]=0:=by rw[←aw_tree];exact planE_tree aw_plan
 have hf:farI awH 0 1=12:=aw_02
 have ha:arrS awH 0 [(0,1)] 3=([15],0):=by
  unfold arrS;rw[if_pos ht,if_neg (by omega)]
  unfold arrF;rw[hf];rfl
 unfold compS;rw[ha];exact⟨rfl,rfl⟩
set_option maxHeartbeats 16000000
attribute [local irreducible] Calls
def chO(N:Int→List Int)(e:Int×Value):Res:=.own e.2 3 1 (intRows (N e.1))
abbrev plB(pb bb:Nat)(cost:Int)(bc:Nat):Res:=.blk pb (.cells #[.pointer (some ⟨bb,0,none⟩),.int .i64 cost,.map (some bc)] 160)
theorem zeroOr_eq{l:List (Int×Value)}{a:Int}{v v':Value}(h:zeroOr l a v)(h':zeroOr l a v'):v=v':=by
 rcases h with h|⟨h,rfl⟩ <;> rcases h' with h'|⟨h',rfl⟩
 ·rw[h]at h';cases h';rfl
 ·rw[h]at h';cases h'
 ·rw[h]at h';cases h'
 ·rfl
theorem ch_open{Γ:Gho}{A S:List Res}{N:Int→List Int}{w:World}{l:List (Int×Value)}(a:Int)(hn:(l.map (·.1)).Nodup)(h0:aGet l a=none→N a=[])(hw:Wd Γ (A++(l.map (chO N)++S)) w) :
  ∃v,zeroOr l a v∧Wd Γ (.own v 3 1 (intRows (N a))::(A++((restL l a).map (chO N)++S))) w:=by
 cases hg:aGet l a with
 | some v=>
  exact⟨v,.inl hg,hw.perm ((List.Perm.append_left A (((aGet_perm hn hg).map (chO N)).append_right S)).trans List.perm_middle)⟩
 | none=>
  refine⟨.slice none 0 0,.inr ⟨hg,rfl⟩,?_⟩
  have h1:=Wd.addNil (a:=none) (E:=3) (sz:=1) hw
  rw[h0 hg,show restL l a=l from aGet_none_filter hg];exact h1
theorem ch_close{Γ:Gho}{A S:List Res}{N N':Int→List Int}{w:World}{l:List (Int×Value)}{a:Int}{v:Value}(hn:(l.map (·.1)).Nodup)(hv:zeroOr l a v)(hN:∀x,x≠a→N' x=N x)(hw:Wd Γ (.own v 3 1 (intRows (N' a))::(A++((restL l a).map (chO N)++S))) w) :
  Wd Γ (A++(l.map (chO N')++S)) w:=by
 have hr:(restL l a).map (chO N)=(restL l a).map (chO N'):=List.map_congr_left fun e he=>by
  have:=(List.mem_filter.1 he).2
  unfold chO;rw[hN e.1 (by intro h;simp[h]at this)]
 rw[hr]at hw;rcases hv with hg|⟨hg,rfl⟩
 ·exact hw.perm ((List.Perm.append_left A (((aGet_perm hn hg).map (chO N')).append_right S)).trans List.perm_middle).symm
 ·rw[show restL l a=l from aGet_none_filter hg]at hw;exact hw.drop
theorem ints_len{v:Value}{Γ:Gho}{S:List Res}{w:World}{E i:Nat}{xs:List Int}(hw:Wd Γ S w)(hi:S[i]? = some (.own v E 1 (intRows xs))):∃a c,v=.slice a xs.length c∧xs.length≤c∧c≤9223372036854775807:=by
 obtain⟨a,n,c,rfl,hn,hnc,hc⟩:=hw.own_shape hi
 simp only[intRows,List.length_map]at hn
 subst hn;exact⟨a,c,rfl,hnc,hc⟩
theorem height_any{Γ:Gho}{H:HwT}{a1:Option Addr}{n1 c1:Nat}{a2:Option Addr}{n2 c2:Nat}{a3:Option Addr}{n3 c3:Nat}{a4:Option Addr}{n4 c4:Nat}{a5:Option Addr}{n5 c5:Nat}[hhw:HwR Γ (.agg #[.string H.Name,.slice a1 n1 c1,.slice a2 n2 c2,.slice a3 n3 c3,.slice a4 n4 c4,.slice a5 n5 c5]) H](hv:validS H=0){cost:Int}(hc:0≤cost∧cost≤1000000){ch:Int→List Int}{pb bb bc:Nat}{l:List (Int×Value)}(hl:(l.map (·.1)).Nodup)(h0:∀x,aGet l x=none→ch x=[])(hlen:∀x,(ch x).length≤1000) :
  ∀ {k:Nat} {core:Int},Dep ch k core→k≤4→(∀a,Rch ch core a→(findC H.Cores a).2=true)→∀ {cur:Int→List Int} {S:List Res} {w:World},(∀x,Rch ch core x→(cur x).Perm (ch x)) →
  Wd Γ (plB pb bb cost bc::btwP bb H a1 n1 c1 a2 n2 c2 a3 n3 c3 a4 n4 c4 a5 n5 c5::adjM bc l::(l.map (chO cur)++S)) w →
  Calls Tryz.prog 91 #[.pointer (some ⟨pb,0,none⟩),.int .i64 core] w fun e w'=>e=.returned (.int .i64 (hh (farI H) cost ch core))∧Wd Γ (plB pb bb cost bc::btwP bb H a1 n1 c1 a2 n2 c2 a3 n3 c3 a4 n4 c4 a5 n5 c5::adjM bc l::(l.map (chO (upS (farI H) cost ch (Rch ch core) cur))++S)) w'
 | 0,_,hd,_,_=>hd.elim
 | k+1,core,hd,hk,hkn=>by
  intro hp hw;rename_i cur S w
  have hd':∀d∈ch core,Dep ch k d:=hd
  have hpc:=hp core (.refl core)
  have hLlen:(cur core).length≤1000:=by rw[hpc.length_eq];exact hlen core
  have hfar:∀a b,Rch ch core a→b∈ch a→0≤farI H a b∧farI H a b≤63000000:=fun a b hr hb=>far_le hv (hkn a hr) (hkn b (hr.trans (.step hb (.refl b))))
  have htlb:∀d∈ch core,0≤farI H core d∧farI H core d≤63000000∧0≤hh (farI H) cost ch d∧hh (farI H) cost ch d≤4252000000:=fun d hdm=>by
   have h1:=hfar core d (.refl core) hdm
   have h2:=hh_bound (far:=farI H) hc (hd' d hdm) (by omega) (fun a b hr hb=>hfar a b (.step hdm hr) hb) (fun a _=>hlen a)
   omega
  refine calls_of_W Tryz.func91 rfl rfl ?_
  repeat first|refine byW ?_|refine byV ?_;intro w hw
  refine L_step rfl rfl (s_makeMap (K:=3) (α:=Int) (f:=fun n:Int=>Value.int .i64 n) hw fun bt w hw=>?_)
  repeat first|refine byW ?_|refine byV ?_;intro w hw
  refine lAlloc ?_;intro b5 w hw;refine lStore ?_;intro w hw;have hw:Wd Γ ([.blk b5 (.cells #[.map (some bt)] 218),Res.mpT Tryz.prog 3 (fun n:Int=>Value.int .i64 n) bt ([]:List (Int×Int)),plB pb bb cost bc,btwP bb H a1 n1 c1 a2 n2 c2 a3 n3 c3 a4 n4 c4 a5 n5 c5,adjM bc l]++(l.map (chO cur)++S)) w:=hw
  have hnone:aGet l core=none→cur core=[]:=fun hg=>by
   have:=hpc;rw[h0 core hg]at this;exact this.eq_nil
  obtain⟨vv,hz,hwo⟩:=ch_open core hl hnone hw
  obtain⟨a,c,rfl,hnc,hcc⟩:=ints_len hwo (i:=0) rfl
  clear hwo;generalize hn:(cur core).length=n at *
  repeat first|refine byW ?_|refine byV ?_;intro w hw
  refine lY (v:=.slice a n c) ?_ (hy:=y_lookupZ hw hz (i:=4) rfl rfl rfl)
  repeat first|refine byW ?_|refine byV ?_;intro w hw
  have hstart:upS (farI H) cost ch (fun x=>∃d∈(cur core).take 0,Rch ch d x) cur=cur:=by
   funext x;exact upS_out (fun⟨d,hd,_⟩=>by simp at hd)
  refine W_loop (fun μ ρ w=>∃(i:Nat) (lt:List (Int×Int)) (tf:Int→Int),μ+i=n∧MapF lt tf∧(∀d∈(cur core).take i,tf d=tl (farI H) cost ch core d)∧Has ρ [(0,.pointer (some ⟨pb,0,none⟩)),(1,.int .i64 core),(5,.pointer (some ⟨b5,0,none⟩)),(17,.slice a n c),(18,.int .i64 n),(19,.int .i64 i)]∧Wd Γ ([.blk b5 (.cells #[.map (some bt)] 218),Res.mpT Tryz.prog 3 (fun n:Int=>Value.int .i64 n) bt lt,plB pb bb cost bc,btwP bb H a1 n1 c1 a2 n2 c2 a3 n3 c3 a4 n4 c4 a5 n5 c5,adjM bc l]++(l.map (chO (upS (farI H) cost ch (fun x=>∃d∈(cur core).take i,Rch ch d x) cur))++S)) w) n ⟨0,[],fun _=>0,by omega,fun _=>rfl,fun d hd=>by simp at hd,⟨rfl,rfl,rfl,rfl,rfl,rfl,trivial⟩,by rw[hstart];exact hw⟩ ?_
  clear hw;rintro μ ρ w ⟨i,lt,tf,hi,hmf,htf,hρ,hw⟩
  rw[hρ.eq];clear hρ;have hDcore:∀j,¬ ∃d∈(cur core).take j,Rch ch d core:=fun j ⟨d,hdm,hr⟩=>no_cycle (hpc.mem_iff.1 (List.mem_of_mem_take hdm)) hr hd
  repeat first|refine byW ?_|refine byV ?_;intro w hw
  refine W_cond rfl (fun h=>?_) (fun h=>?_)
  ·have hin:i<n:=by have:=of_decide_eq_true h;omega
   obtain⟨x,hx⟩:=get_lt (l:=cur core) (k:=i) (by omega)
   have hxm:x∈ch core:=hpc.mem_iff.1 (List.mem_of_getElem? hx)
   obtain⟨v2,hz2,hw⟩:=ch_open core hl (fun hg=>by rw[upS_out (hDcore i)];exact hnone hg) hw
   have:=zeroOr_eq hz hz2
   subst this;rw[upS_out (hDcore i)]at hw;have hw:Wd Γ (.own (.slice a n c) 3 1 (intRows (cur core))::.blk b5 (.cells #[.map (some bt)] 218)::Res.mpT Tryz.prog 3 (fun n:Int=>Value.int .i64 n) bt lt::plB pb bb cost bc::btwP bb H a1 n1 c1 a2 n2 c2 a3 n3 c3 a4 n4 c4 a5 n5 c5::adjM bc l::((restL l core).map (chO (upS (farI H) cost ch (fun x=>∃d∈(cur core).take i,Rch ch d x) cur))++S)) w:=hw
   repeat first|refine byW ?_|refine byV ?_;intro w hw
   have hw:=ch_close (A:=[.blk b5 (.cells #[.map (some bt)] 218),Res.mpT Tryz.prog 3 (fun n:Int=>Value.int .i64 n) bt lt,plB pb bb cost bc,btwP bb H a1 n1 c1 a2 n2 c2 a3 n3 c3 a4 n4 c4 a5 n5 c5,adjM bc l]) (N':=upS (farI H) cost ch (fun x=>∃d∈(cur core).take i,Rch ch d x) cur) hl hz (fun _ _=>rfl) (by rw[upS_out (hDcore i)];exact hw)
   generalize hcur:upS (farI H) cost ch (fun x=>∃d∈(cur core).take i,Rch ch d x) cur=cur2 at hw
   have hw:Wd Γ ([.blk b5 (.cells #[.map (some bt)] 218),plB pb bb cost bc]++((btwP bb H a1 n1 c1 a2 n2 c2 a3 n3 c3 a4 n4 c4 a5 n5 c5::adjM bc l::l.map (chO cur2))++([Res.mpT Tryz.prog 3 (fun n:Int=>Value.int .i64 n) bt lt]++(S++[])))) w:=hw.perm byPM
   have hb:=htlb x hxm
   have hdx:=hd' x hxm
   have hcx1:=coreN_rng hv (hkn core (.refl core))
   have hcx2:=coreN_rng hv (hkn x (.step hxm (.refl x)))
   refine W_mixed [.blk b5 (.cells #[.map (some bt)] 218),plB pb bb cost bc] [fun _=>btwP bb H a1 n1 c1 a2 n2 c2 a3 n3 c3 a4 n4 c4 a5 n5 c5::adjM bc l::l.map (chO cur2),fun _=>[Res.mpT Tryz.prog 3 (fun n:Int=>Value.int .i64 n) bt lt],fun _=>S] [[],[],[],[],[],[],[],[],[0],[],[],[0],[],[1]] [[],[],[],[],[],[],[],[],[0],[],[],[0],[],[1]] [[],[],[]] (by exact hw) ?_
   refine byM ?_;refine mCallSK (c:=0) (X:=btwP bb H a1 n1 c1 a2 n2 c2 a3 n3 c3 a4 n4 c4 a5 n5 c5::adjM bc l::l.map (chO cur2)) (btwP bb H a1 n1 c1 a2 n2 c2 a3 n3 c3 a4 n4 c4 a5 n5 c5::adjM bc l::l.map (chO cur2)) (vs:=[.pointer (some ⟨bb,0,none⟩),.int .i64 core,.int .i64 x]) (v:=.int .i64 (farI H core x)) (fun R w hw=>coresP_any (valid_links hv) hcx1 hcx2 hw) ?_
   refine byM ?_;refine mCallSK (c:=0) (X:=btwP bb H a1 n1 c1 a2 n2 c2 a3 n3 c3 a4 n4 c4 a5 n5 c5::adjM bc l::l.map (chO cur2)) (btwP bb H a1 n1 c1 a2 n2 c2 a3 n3 c3 a4 n4 c4 a5 n5 c5::adjM bc l::l.map (chO (upS (farI H) cost ch (Rch ch x) cur2))) (vs:=[.pointer (some ⟨pb,0,none⟩),.int .i64 x]) (v:=.int .i64 (hh (farI H) cost ch x)) (fun R w hw=>?_) ?_
   ·refine(height_any (core:=x) hv hc hl h0 hlen hdx (by omega) (fun a hr=>hkn a (.step hxm hr)) (cur:=cur2) (S:=.blk b5 (.cells #[.map (some bt)] 218)::R) (fun y hr=>by rw[←hcur];exact upS_perm (hp y (.step hxm hr))) (hw.perm byPM)).mono ?_
    rintro e w' ⟨h1,h2⟩
    exact⟨h1,h2.perm byPM⟩
   refine byM ?_;refine mM (v:=undef) (fun _=>[Res.mpT Tryz.prog 3 (fun n:Int=>Value.int .i64 n) bt (aSet lt x (farI H core x+hh (farI H) cost ch x))]) (fun Y w g hw=>by
    rw[cells1 (c:=1) rfl]at hw;refine s_mapUpdate (P:=Tryz.prog) (K:=3) (α:=Int) (f:=fun n:Int=>Value.int .i64 n) (i:=2) (v:=farI H core x+hh (farI H) cost ch x) (a:=x) hw rfl rfl rfl rfl fun w hw=>⟨?_,fun _=>rfl⟩
    rw[cells1 (c:=1) rfl,setC_self];exact hw) ?_ rfl rfl
   refine mEnd fun w g hw=>?_
   have hmf':=mapF_set hmf x (farI H core x+hh (farI H) cost ch x)
   have hw:Wd Γ ([.blk b5 (.cells #[.map (some bt)] 218),plB pb bb cost bc]++((btwP bb H a1 n1 c1 a2 n2 c2 a3 n3 c3 a4 n4 c4 a5 n5 c5::adjM bc l::l.map (chO (upS (farI H) cost ch (Rch ch x) cur2)))++([Res.mpT Tryz.prog 3 (fun n:Int=>Value.int .i64 n) bt (aSet lt x (farI H core x+hh (farI H) cost ch x))]++(S++[])))) w:=hw
   have hcur3:upS (farI H) cost ch (Rch ch x) cur2=upS (farI H) cost ch (fun y=>∃d∈(cur core).take (i+1),Rch ch d y) cur:=by
    rw[←hcur,upS_upS];refine upS_congr fun y=>?_
    rw[take_succ_of hx];simp only[List.mem_append,List.mem_singleton]
    constructor
    ·rintro (⟨d,h1,h2⟩|h1)
     ·exact⟨d,.inl h1,h2⟩
     ·exact⟨x,.inr rfl,h1⟩
    ·rintro⟨d,h1|rfl,h2⟩
     ·exact .inl ⟨d,h1,h2⟩
     ·exact .inr h2
   rw[hcur3]at hw;have hw:Wd Γ ([.blk b5 (.cells #[.map (some bt)] 218),Res.mpT Tryz.prog 3 (fun n:Int=>Value.int .i64 n) bt (aSet lt x (farI H core x+hh (farI H) cost ch x)),plB pb bb cost bc,btwP bb H a1 n1 c1 a2 n2 c2 a3 n3 c3 a4 n4 c4 a5 n5 c5,adjM bc l]++(l.map (chO (upS (farI H) cost ch (fun y=>∃d∈(cur core).take (i+1),Rch ch d y) cur))++S)) w:=hw.perm byPM
   repeat first|refine byW ?_|refine byV ?_;intro w hw
   refine⟨μ-1,by omega,i+1,_,_,by omega,hmf',fun d hdm=>?_,⟨rfl,rfl,rfl,rfl,rfl,rfl,trivial⟩,hw⟩
   unfold updI;by_cases e:x=d
   ·rw[if_pos e,←e];rfl
   ·rw[if_neg e];rw[take_succ_of hx]at hdm;rcases List.mem_append.1 hdm with h1|h1
    ·exact htf d h1
    ·exact absurd (List.mem_singleton.1 h1).symm e
  ·have hin:¬i<n:=by have:=of_decide_eq_false h;omega
   rw[List.take_of_length_le (by omega)]at htf hw
   have hDc:¬ ∃d∈cur core,Rch ch d core:=by have:=hDcore n;rwa [List.take_of_length_le (by omega)]at this
   generalize hcur:upS (farI H) cost ch (fun x=>∃d∈cur core,Rch ch d x) cur=cur2 at hw
   have hc2:cur2 core=cur core:=by rw[←hcur];exact upS_out hDc
   obtain⟨v2,hz2,hw⟩:=ch_open core hl (fun hg=>by rw[hc2];exact hnone hg) hw
   have:=zeroOr_eq hz hz2
   subst this;rw[hc2]at hw;have hw:Wd Γ (.own (.slice a n c) 3 1 (intRows (cur core))::.blk b5 (.cells #[.map (some bt)] 218)::Res.mpT Tryz.prog 3 (fun n:Int=>Value.int .i64 n) bt lt::plB pb bb cost bc::btwP bb H a1 n1 c1 a2 n2 c2 a3 n3 c3 a4 n4 c4 a5 n5 c5::adjM bc l::((restL l core).map (chO cur2)++S)) w:=hw
   have hsrt:tsort tf (cur core)=srt (farI H) cost ch core:=(tsort_congr htf).trans (tsort_of_perm hpc)
   have hslen:(srt (farI H) cost ch core).length=n:=by rw[(srt_perm core).length_eq,←hpc.length_eq,hn]
   repeat first|refine byW ?_|refine byV ?_;intro w hw
   refine lY (v:=.slice a n c) ?_ (hy:=y_lookupZ hw hz (i:=5) rfl rfl rfl)
   repeat first|refine byW ?_|refine byV ?_;intro w hw
   refine lCall ((sortH_any (j:=0) (i:=1) hw rfl rfl hmf (by omega)).mono fun e w hq=>?_)
   obtain⟨rfl,hw⟩:=hq;rw[hsrt]at hw;refine⟨_,rfl,?_⟩;repeat first|refine byW ?_|refine byV ?_;intro w hw
   refine lY (v:=.slice a n c) ?_ (hy:=y_lookupZ hw hz (i:=5) rfl rfl rfl)
   repeat first|refine byW ?_|refine byV ?_;intro w hw
   rw[hh_eq hd hk];refine W_loop (fun μ ρ w=>∃(i:Nat) (m:Int),μ+i=n∧hmostF cost (tl (farI H) cost ch core) i m ((srt (farI H) cost ch core).drop i)=hmostF cost (tl (farI H) cost ch core) 0 0 (srt (farI H) cost ch core)∧Has ρ [(0,.pointer (some ⟨pb,0,none⟩)),(1,.int .i64 core),(5,.pointer (some ⟨b5,0,none⟩)),(8,.int .i64 m),(50,.slice a n c),(51,.int .i64 n),(52,.int .i64 i)]∧Wd Γ (.own (.slice a n c) 3 1 (intRows (srt (farI H) cost ch core))::.blk b5 (.cells #[.map (some bt)] 218)::Res.mpT Tryz.prog 3 (fun n:Int=>Value.int .i64 n) bt lt::plB pb bb cost bc::btwP bb H a1 n1 c1 a2 n2 c2 a3 n3 c3 a4 n4 c4 a5 n5 c5::adjM bc l::((restL l core).map (chO cur2)++S)) w) n ⟨0,0,by omega,rfl,⟨rfl,rfl,rfl,rfl,rfl,rfl,rfl,trivial⟩,hw⟩ ?_
   clear hw;rintro μ ρ w ⟨i,m,hi,hF,hρ,hw⟩
   rw[hρ.eq];clear hρ;repeat first|refine byW ?_|refine byV ?_;intro w hw
   refine W_cond rfl (fun h=>?_) (fun h=>?_)
   ·have hin:i<n:=by have:=of_decide_eq_true h;omega
    obtain⟨x,hx⟩:=get_lt (l:=srt (farI H) cost ch core) (k:=i) (by omega)
    have hxm:x∈ch core:=(srt_perm core).mem_iff.1 (List.mem_of_getElem? hx)
    have htx:tf x=tl (farI H) cost ch core x:=htf x (hpc.mem_iff.2 hxm)
    have hb:=htlb x hxm
    have htb:0≤tf x∧tf x≤4315000000:=by rw[htx];unfold tl;omega
    have hmul:0≤((i:Int)+1)*cost∧((i:Int)+1)*cost≤1000000000:=⟨Int.mul_nonneg (by omega) hc.1,Int.le_trans (Int.mul_le_mul (b:=cost) (d:=1000000) (show (i:Int)+1≤1000 by omega) hc.2 hc.1 (by omega)) (by omega)⟩
    have hdr:(srt (farI H) cost ch core).drop i=x::(srt (farI H) cost ch core).drop (i+1):=by
     obtain⟨q1,q2⟩:=List.getElem?_eq_some_iff.1 hx
     rw[List.drop_eq_getElem_cons q1,q2]
    rw[hdr]at hF;have hF:hmostF cost (tl (farI H) cost ch core) (i+1) (max m (((i:Int)+1)*cost+tf x)) ((srt (farI H) cost ch core).drop (i+1))=hmostF cost (tl (farI H) cost ch core) 0 0 (srt (farI H) cost ch core):=by rw[htx];exact hF
    rw[max_if]at hF;repeat first|refine byW ?_|refine byV ?_;intro w hw
    refine W_quiet (by kernel_rfl) (by kernel_rfl) hw ?_
    refine byQ ?_;refine qY (v:=.int .i64 (tf x)) ?_ (hy:=fun w hw=>y_lookupF hw hmf (i:=2) rfl rfl rfl)
    refine byQ ?_;intro w hw;repeat first|refine byW ?_|refine byV ?_;intro w hw
    exact⟨μ-1,by omega,i+1,_,by omega,hF,⟨rfl,rfl,rfl,rfl,rfl,rfl,rfl,trivial⟩,hw⟩
   ·have hin:¬i<n:=by have:=of_decide_eq_false h;omega
    rw[List.drop_eq_nil_of_le (by omega)]at hF
    have hF:m=hmostF cost (tl (farI H) cost ch core) 0 0 (srt (farI H) cost ch core):=hF
    have hN:∀x,x≠core→upS (farI H) cost ch (Rch ch core) cur x=cur2 x:=fun x hx=>by
     rw[←hcur];by_cases hr:Rch ch core x
     ·have:∃d∈cur core,Rch ch d x:=by
       cases hr with
       | refl=>exact absurd rfl hx
       | step hdm hr=>exact⟨_,hpc.mem_iff.2 hdm,hr⟩
      rw[upS_in hr,upS_in this]
     ·rw[upS_out hr,upS_out];rintro⟨d,h1,h2⟩;exact hr (.step (hpc.mem_iff.1 h1) h2)
    have hw:=ch_close (A:=[.blk b5 (.cells #[.map (some bt)] 218),Res.mpT Tryz.prog 3 (fun n:Int=>Value.int .i64 n) bt lt,plB pb bb cost bc,btwP bb H a1 n1 c1 a2 n2 c2 a3 n3 c3 a4 n4 c4 a5 n5 c5,adjM bc l]) (N':=upS (farI H) cost ch (Rch ch core) cur) hl hz hN (by rw[upS_in (.refl core)];exact hw)
    have hw:=hw.drop.drop
    repeat first|refine byW ?_|refine byV ?_;intro w hw
    exact⟨_,rfl,(by rw[←hF];rfl),hw⟩
theorem intRows_app(a b:List Int):intRows (a++b)=intRows a++intRows b:=by unfold intRows;rw[List.map_append]
def AdjP(bm:Nat)(N:Int→List Int):Res:=Res.pk (fun l:List (Int×Value)=>(l.map (·.1)).Nodup∧∀x,aGet l x=none→N x=[]) (fun l=>adjM bm l::l.map (chO N))
theorem adjP_new{Γ:Gho}{S:List Res}{w:World}{bm:Nat}(hw:Wd Γ (adjM bm []::S) w):Wd Γ (AdjP bm (fun _=>[])::S) w:=by
 unfold AdjP;exact Wd.pack ([]:List (Int×Value)) ⟨by simp,fun _ _=>rfl⟩ hw
theorem adjP_open{Γ:Gho}{S:List Res}{w:World}{bm:Nat}{N:Int→List Int}(a:Int)(hw:Wd Γ (AdjP bm N::S) w) :
  ∃(l:List (Int×Value)) (v:Value),(l.map (·.1)).Nodup∧(∀x,aGet l x=none→N x=[])∧zeroOr l a v∧Wd Γ (adjM bm l::.own v 3 1 (intRows (N a))::((restL l a).map (chO N)++S)) w:=by
 unfold AdjP at hw;obtain⟨l,⟨h1,h2⟩,hw⟩:=Wd.unpack hw
 obtain⟨v,h3,hw⟩:=ch_open (A:=[adjM bm l]) a h1 (h2 a) hw
 exact⟨l,v,h1,h2,h3,hw.perm (.swap _ _ _)⟩
theorem adjP_close{Γ:Gho}{S:List Res}{w:World}{bm:Nat}{N:Int→List Int}{a:Int}{l:List (Int×Value)}{v:Value}(hn:(l.map (·.1)).Nodup)(h0:∀x,aGet l x=none→N x=[])(hz:zeroOr l a v)(hw:Wd Γ (adjM bm l::.own v 3 1 (intRows (N a))::((restL l a).map (chO N)++S)) w):Wd Γ (AdjP bm N::S) w:=by
 have hw:=ch_close (A:=[adjM bm l]) (N:=N) (N':=N) hn hz (fun _ _=>rfl) (hw.perm (.swap _ _ _))
 unfold AdjP;exact Wd.pack l ⟨hn,h0⟩ hw
theorem adjP_set{Γ:Gho}{S:List Res}{w:World}{bm:Nat}{N:Int→List Int}{a:Int}{xs:List Int}{l:List (Int×Value)}{v:Value}(hn:(l.map (·.1)).Nodup)(h0:∀x,aGet l x=none→N x=[])(hw:Wd Γ (adjM bm (aSet l a v)::.own v 3 1 (intRows (N a++xs))::((restL l a).map (chO N)++S)) w):Wd Γ (AdjP bm (addI N a xs)::S) w:=by
 have h1:(restL l a).map (chO N)=(restL l a).map (chO (addI N a xs)):=List.map_congr_left fun e he=>by
  have:=(List.mem_filter.1 he).2
  unfold chO addI;rw[if_neg (by intro h;simp[h]at this)]
 have h2:Res.own v 3 1 (intRows (N a++xs))=chO (addI N a xs) (a,v):=by
  unfold chO addI;simp
 rw[h1,h2]at hw;unfold AdjP;refine Wd.pack (aSet l a v) ⟨aSet_keys hn a v,fun x hx=>?_⟩ (hw.perm (List.Perm.cons _ (((aSet_perm hn a v).map (chO (addI N a xs))).append_right S).symm))
 rw[aGet_aSet]at hx;by_cases e:a=x
 ·rw[if_pos e]at hx;cases hx
 ·rw[if_neg e]at hx;unfold addI;rw[if_neg e];exact h0 x hx
theorem mem_ok{H:HwT}{r:Int}{ms:List Int}(h:memErr H r ms=0):(findC H.Cores r).2=true∧(∀a∈ms,(findC H.Cores a).2=true)∧r∉ms∧ms.Nodup:=by
 unfold memErr at h;by_cases e1:(r::ms).all (fun id=>(findC H.Cores id).2)=false
 ·rw[if_pos e1]at h;cases h
 rw[if_neg e1]at h;by_cases e2:decP (r::ms).Nodup=false
 ·rw[if_pos e2]at h;cases h
 have e1:(r::ms).all (fun id=>(findC H.Cores id).2)=true:=by simpa using e1
 have e2:(r::ms).Nodup:=by
  by_cases hn:(r::ms).Nodup
  ·exact hn
  ·exact absurd (decP_f hn) e2
 have h1:=List.all_eq_true.1 e1
 rw[List.nodup_cons]at e2;exact⟨h1 r (by simp),fun a ha=>h1 a (by simp[ha]),e2.1,e2.2⟩
theorem plan_any{Γ:Gho}{u v:Value}{H:HwT}[hhw:HwR Γ u H]{ms:List Int}[hr:SlC Γ v 1 (intRows ms)][hsh:ShortL ms](r cost:Int){S:List Res}{w:World}(hw:Wd Γ S w) :
  Calls Tryz.prog 40 #[u,.int .i64 r,v,.int .i64 cost] w fun e w'=>∃vo,e=.returned (.tuple #[.agg #[.int .i64 (planS H r ms cost).1,vo],.int .i64 (planErr H r ms cost)])∧Wd Γ (.own vo 164 2 ((planS H r ms cost).2.map plV)::S) w':=by
 have hhw':=hhw
 obtain⟨a1,n1,c1,a2,n2,c2,a3,n3,c3,a4,n4,c4,a5,n5,c5,cs,rfl,-⟩:=hhw.h;have hrs:=hr.h
 obtain⟨am,nm,cm,rfl,hnm,hnmc,hcm⟩:=hr.h.shape;simp only[intRows,List.length_map]at hnm
 have hms:=hsh.h
 refine calls_of_WC Tryz.func40 rfl rfl ?_
 repeat first|refine byW ?_|refine byV ?_;intro w hw
 refine lBox ?_;intro b4 w hw;refine lAlloc ?_;intro b8 w hw;have hw:Wd Γ ([.blk b8 (.cells #[.int .i64 0,.slice none 0 0] 109),.blk b4 (.cells #[.string H.Name,.slice a1 n1 c1,.slice a2 n2 c2,.slice a3 n3 c3,.slice a4 n4 c4,.slice a5 n5 c5] 30)]++S) w:=hw
 unfold planS;have hE:∀ {e:Int} {w:World},planErr H r ms cost=e→e≠0→Wd Γ ([.blk b8 (.cells #[.int .i64 0,.slice none 0 0] 109),.blk b4 (.cells #[.string H.Name,.slice a1 n1 c1,.slice a2 n2 c2,.slice a3 n3 c3,.slice a4 n4 c4,.slice a5 n5 c5] 30)]++S) w→∃vo,Ending.returned (.tuple #[.agg #[.int .i64 0,.slice none 0 0],.int .i64 e])=.returned (.tuple #[.agg #[.int .i64 (if planErr H r ms cost=0 then (r,planE H r ms cost) else (0,[])).1,vo],.int .i64 (planErr H r ms cost)])∧Wd Γ (.own vo 164 2 ((if planErr H r ms cost=0 then (r,planE H r ms cost) else (0,[])).2.map plV)::S) w:=fun {e w} he hne hw=>by
  rw[he,if_neg hne];exact⟨_,rfl,Wd.addNil (hw.ds [0,0])⟩
 repeat first|refine byW ?_|refine byV ?_;intro w hw
 refine W_cond rfl (fun h=>?_) (fun h=>?_)
 ·have h:¬validS H=0:=by simpa using h
  have he:planErr H r ms cost=validS H:=by unfold planErr;rw[if_pos h]
  repeat first|refine byW ?_|refine byV ?_;intro w hw
  refine lStore ?_;intro w hw;have hw:Wd Γ ([.blk b8 (.cells #[.int .i64 0,.slice none 0 0] 109),.blk b4 (.cells #[.string H.Name,.slice a1 n1 c1,.slice a2 n2 c2,.slice a3 n3 c3,.slice a4 n4 c4,.slice a5 n5 c5] 30)]++S) w:=hw
  repeat first|refine byW ?_|refine byV ?_;intro w hw
  exact⟨[_,_],⟨resC (i:=0) hw rfl rfl rfl,rfl,trivial⟩,hE he h hw⟩
 have hv:validS H=0:=by simpa using h
 clear h;repeat first|refine byW ?_|refine byV ?_;intro w hw
 refine W_cond rfl (fun h=>?_) (fun h=>?_)
 ·have h:¬memErr H r ms=0:=by simpa using h
  have he:planErr H r ms cost=memErr H r ms:=by unfold planErr;rw[if_neg (by omega),if_pos h]
  repeat first|refine byW ?_|refine byV ?_;intro w hw
  refine lStore ?_;intro w hw;have hw:Wd Γ ([.blk b8 (.cells #[.int .i64 0,.slice none 0 0] 109),.blk b4 (.cells #[.string H.Name,.slice a1 n1 c1,.slice a2 n2 c2,.slice a3 n3 c3,.slice a4 n4 c4,.slice a5 n5 c5] 30)]++S) w:=hw
  repeat first|refine byW ?_|refine byV ?_;intro w hw
  exact⟨[_,_],⟨resC (i:=0) hw rfl rfl rfl,rfl,trivial⟩,hE he h hw⟩
 have hme:memErr H r ms=0:=by simpa using h
 clear h;repeat first|refine byW ?_|refine byV ?_;intro w hw
 refine W_cond rfl (fun h=>?_) (fun h=>?_)
 ·have h:(decide (cost<0)||decide (cost > 1000000))=true:=h
  have he:planErr H r ms cost=6:=by unfold planErr;rw[if_neg (by omega),if_neg (by omega),if_pos (by simp at h;omega)]
  repeat first|refine byW ?_|refine byV ?_;intro w hw
  refine lStore ?_;intro w hw;have hw:Wd Γ ([.blk b8 (.cells #[.int .i64 0,.slice none 0 0] 109),.blk b4 (.cells #[.string H.Name,.slice a1 n1 c1,.slice a2 n2 c2,.slice a3 n3 c3,.slice a4 n4 c4,.slice a5 n5 c5] 30)]++S) w:=hw
  repeat first|refine byW ?_|refine byV ?_;intro w hw
  exact⟨[_,_],⟨resC (i:=0) hw rfl rfl rfl,rfl,trivial⟩,hE he (by omega) hw⟩
 have h:(decide (cost<0)||decide (cost > 1000000))=false:=h
 have hc:0≤cost∧cost≤1000000:=by simp at h;omega
 have he0:planErr H r ms cost=0:=by unfold planErr;rw[if_neg (by omega),if_neg (by omega),if_neg (by omega)]
 clear h hE;rw[he0,if_pos rfl];obtain⟨hknr,hknm,hrm,hmnd⟩:=mem_ok hme
 have hcr:=coreN_rng hv hknr
 repeat first|refine byW ?_|refine byV ?_;intro w hw
 refine L_step rfl rfl (s_makeMap (K:=3) (α:=Int) (f:=(id:Value→Value)) hw fun bg w hw=>?_)
 have hw:=adjP_new hw
 repeat first|refine byW ?_|refine byV ?_;intro w hw
 have hg0:(fun _:Int=>([]:List Int))=grpL H (ms.take 0):=by funext n;rfl
 refine W_loop (fun μ ρ w=>∃(k:Nat),μ+k=nm∧Has ρ [(1,.int .i64 r),(2,.slice am nm cm),(3,.int .i64 cost),(4,.pointer (some ⟨b4,0,none⟩)),(8,.pointer (some ⟨b8,0,none⟩)),(9,.int .i64 0),(12,.map (some bg)),(52,.slice am nm cm),(53,.int .i64 nm),(54,.int .i64 k)]∧Wd Γ (AdjP bg (grpL H (ms.take k))::([.blk b8 (.cells #[.int .i64 0,.slice none 0 0] 109),.blk b4 (.cells #[.string H.Name,.slice a1 n1 c1,.slice a2 n2 c2,.slice a3 n3 c3,.slice a4 n4 c4,.slice a5 n5 c5] 30)]++S)) w) nm ⟨0,by omega,⟨rfl,rfl,rfl,rfl,rfl,rfl,rfl,rfl,rfl,rfl,trivial⟩,by rw[←hg0];exact hw⟩ ?_
 clear hw;rintro μ ρ w ⟨k,hk,hρ,hw⟩
 rw[hρ.eq];clear hρ;repeat first|refine byW ?_|refine byV ?_;intro w hw
 refine W_cond rfl (fun h=>?_) (fun h=>?_)
 ·have hkn:k<nm:=by have:=of_decide_eq_true h;omega
  obtain⟨x,hx⟩:=get_lt (l:=ms) (k:=k) (by omega)
  have hlen:(grpL H (ms.take k) (coreN H x)).length≤1000:=Nat.le_trans grpL_len (by simp;omega)
  repeat first|refine byW ?_|refine byV ?_;intro w hw
  refine lAlloc ?_;intro b15 w hw;refine lStore ?_;intro w hw;have hw:Wd Γ (AdjP bg (grpL H (ms.take k))::([.blk b15 (.cells (enc (findC H.Cores x).1).toArray 37),.blk b8 (.cells #[.int .i64 0,.slice none 0 0] 109),.blk b4 (.cells #[.string H.Name,.slice a1 n1 c1,.slice a2 n2 c2,.slice a3 n3 c3,.slice a4 n4 c4,.slice a5 n5 c5] 30)]++S)) w:=hw.ps [1]
  obtain⟨l,vv,hnl,hl0,hz,hw⟩:=adjP_open (coreN H x) hw
  obtain⟨a0,c0,rfl,hnc0,hcc0⟩:=ints_len hw (i:=1) rfl
  have hw:Wd Γ ([.blk b15 (.cells (enc (findC H.Cores x).1).toArray 37)]++(adjM bg l::.own (.slice a0 (grpL H (ms.take k) (coreN H x)).length c0) 3 1 (intRows (grpL H (ms.take k) (coreN H x)))::((restL l (coreN H x)).map (chO (grpL H (ms.take k)))++([.blk b8 (.cells #[.int .i64 0,.slice none 0 0] 109),.blk b4 (.cells #[.string H.Name,.slice a1 n1 c1,.slice a2 n2 c2,.slice a3 n3 c3,.slice a4 n4 c4,.slice a5 n5 c5] 30)]++S)))) w:=hw.perm byPM
  generalize hm0:(grpL H (ms.take k) (coreN H x)).length=m0 at hw hnc0 hcc0 hz
  repeat first|refine byW ?_|refine byV ?_;intro w hw
  refine W_mix2 [.blk b15 (.cells (enc (findC H.Cores x).1).toArray 37)] _ [[],[],[],[],[],[],[],[],[1],[0],[0]] [[],[],[],[],[],[],[0],[],[1],[0,1],[0]] [[73],[72]] hw ?_
  refine byM ?_;refine mY (v:=.slice a0 m0 c0) ?_ (hy:=fun Y w g hw=>y_lookupZ hw hz (i:=1) rfl rfl rfl)
  refine byM ?_;refine mBuild (cells:=[.int .i64 x]) [[.int .i64 x]] ?_
  refine mApp (j:=1) ?_
  refine mPutV (j:=0) ?_
  refine mEnd fun w g hw=>?_
  have hw:=Wd.dropEnd hw
  have hw:Wd Γ ([.blk b15 (.cells (enc (findC H.Cores x).1).toArray 37)]++(adjM bg (aSet l (coreN H x) (g 73))::.own (g 73) 3 1 (intRows (grpL H (ms.take k) (coreN H x))++intRows [x])::((restL l (coreN H x)).map (chO (grpL H (ms.take k)))++([.blk b8 (.cells #[.int .i64 0,.slice none 0 0] 109),.blk b4 (.cells #[.string H.Name,.slice a1 n1 c1,.slice a2 n2 c2,.slice a3 n3 c3,.slice a4 n4 c4,.slice a5 n5 c5] 30)]++S)))) w:=hw
  rw[←intRows_app]at hw;have hw:=adjP_set hnl hl0 (S:=([.blk b8 (.cells #[.int .i64 0,.slice none 0 0] 109),.blk b4 (.cells #[.string H.Name,.slice a1 n1 c1,.slice a2 n2 c2,.slice a3 n3 c3,.slice a4 n4 c4,.slice a5 n5 c5] 30)]++S)++[.blk b15 (.cells (enc (findC H.Cores x).1).toArray 37)]) (hw.perm byPM)
  generalize g 73=gg at hw
  clear hz hm0;rw[grpL_snoc hx]at hw;have hw:Wd Γ (AdjP bg (grpL H (ms.take (k+1)))::([.blk b8 (.cells #[.int .i64 0,.slice none 0 0] 109),.blk b4 (.cells #[.string H.Name,.slice a1 n1 c1,.slice a2 n2 c2,.slice a3 n3 c3,.slice a4 n4 c4,.slice a5 n5 c5] 30)]++S)) w:=(Wd.flip (A:=[.blk b15 (.cells (enc (findC H.Cores x).1).toArray 37)]) (hw.perm byPM)).left
  repeat first|refine byW ?_|refine byV ?_;intro w hw
  exact⟨μ-1,by omega,k+1,by omega,⟨rfl,rfl,rfl,rfl,rfl,rfl,rfl,rfl,rfl,rfl,trivial⟩,hw⟩
 have hkn:¬k<nm:=by have:=of_decide_eq_false h;omega
 rw[List.take_of_length_le (by omega)]at hw
 clear h hkn hk;repeat first|refine byW ?_|refine byV ?_;intro w hw
 refine L_step rfl rfl (s_makeMap (K:=3) (α:=Int) (f:=(id:Value→Value)) hw fun bm w hw=>?_)
 repeat first|refine byW ?_|refine byV ?_;intro w hw
 refine lBox ?_;intro bb w hw;have hw:=btwP_new (Γ:=Γ) (bb:=bb) (H:=H) (bm:=bm) (a1:=a1) (n1:=n1) (c1:=c1) (a2:=a2) (n2:=n2) (c2:=c2) (a3:=a3) (n3:=n3) (c3:=c3) (a4:=a4) (n4:=n4) (c4:=c4) (a5:=a5) (n5:=n5) (c5:=c5) hw
 repeat first|refine byW ?_|refine byV ?_;intro w hw
 refine L_step rfl rfl (s_makeMap (K:=3) (α:=Int) (f:=(id:Value→Value)) hw fun bc w hw=>?_)
 have hw:=adjP_new hw
 repeat first|refine byW ?_|refine byV ?_;intro w hw
 refine lBox ?_;intro pb w hw;have hw:Wd Γ (plB pb bb cost bc::AdjP bc (fun _=>[])::btwP bb H a1 n1 c1 a2 n2 c2 a3 n3 c3 a4 n4 c4 a5 n5 c5::AdjP bg (grpL H ms)::([.blk b8 (.cells #[.int .i64 0,.slice none 0 0] 109),.blk b4 (.cells #[.string H.Name,.slice a1 n1 c1,.slice a2 n2 c2,.slice a3 n3 c3,.slice a4 n4 c4,.slice a5 n5 c5] 30)]++S)) w:=hw
 repeat first|refine byW ?_|refine byV ?_;intro w hw
 refine lAlloc ?_;intro b18 w hw;refine lStore ?_;intro w hw;have hw:Wd Γ (.blk b18 (.cells (enc (findC H.Cores r).1).toArray 37)::plB pb bb cost bc::AdjP bc (fun _=>[])::btwP bb H a1 n1 c1 a2 n2 c2 a3 n3 c3 a4 n4 c4 a5 n5 c5::AdjP bg (grpL H ms)::([.blk b8 (.cells #[.int .i64 0,.slice none 0 0] 109),.blk b4 (.cells #[.string H.Name,.slice a1 n1 c1,.slice a2 n2 c2,.slice a3 n3 c3,.slice a4 n4 c4,.slice a5 n5 c5] 30)]++S)) w:=hw
 repeat first|refine byW ?_|refine byV ?_;intro w hw
 refine W_loop (fun μ ρ w=>∃(k:Nat),μ+k=64∧Has ρ [(1,.int .i64 r),(4,.pointer (some ⟨b4,0,none⟩)),(8,.pointer (some ⟨b8,0,none⟩)),(9,.int .i64 0),(12,.map (some bg)),(17,.pointer (some ⟨pb,0,none⟩)),(18,.pointer (some ⟨b18,0,none⟩)),(20,.int .i64 k)]∧Wd Γ (.blk b18 (.cells (enc (findC H.Cores r).1).toArray 37)::plB pb bb cost bc::AdjP bc (chK H r ms k)::btwP bb H a1 n1 c1 a2 n2 c2 a3 n3 c3 a4 n4 c4 a5 n5 c5::AdjP bg (grpL H ms)::([.blk b8 (.cells #[.int .i64 0,.slice none 0 0] 109),.blk b4 (.cells #[.string H.Name,.slice a1 n1 c1,.slice a2 n2 c2,.slice a3 n3 c3,.slice a4 n4 c4,.slice a5 n5 c5] 30)]++S)) w) 64 ⟨0,by omega,⟨rfl,rfl,rfl,rfl,rfl,rfl,rfl,rfl,trivial⟩,by rw[chK_zero];exact hw⟩ ?_
 clear hw;rintro μ ρ w ⟨k,hk,hρ,hw⟩
 rw[hρ.eq];clear hρ;repeat first|refine byW ?_|refine byV ?_;intro w hw
 refine W_cond rfl (fun h=>?_) (fun h=>?_)
 ·have hkn:k<64:=by have:=of_decide_eq_true h;omega
  clear h;obtain⟨lg,vg,hng,hg0,hzg,hw⟩:=adjP_open (k:Int) (hw.ps [4])
  obtain⟨av,cv,rfl,hncv,hccv⟩:=ints_len hw (i:=1) rfl
  have hglen:(grpL H ms (k:Int)).length≤1000:=Nat.le_trans grpL_len hms
  have hclen:(chK H r ms k r).length≤1000:=Nat.le_trans chK_len hms
  generalize hnv:(grpL H ms (k:Int)).length=nv at hw hzg hncv hglen
  have hw:Wd Γ (.own (.slice av nv cv) 3 1 (intRows (grpL H ms (k:Int)))::.blk b18 (.cells (enc (findC H.Cores r).1).toArray 37)::adjM bg lg::plB pb bb cost bc::AdjP bc (chK H r ms k)::btwP bb H a1 n1 c1 a2 n2 c2 a3 n3 c3 a4 n4 c4 a5 n5 c5::.blk b8 (.cells #[.int .i64 0,.slice none 0 0] 109)::.blk b4 (.cells #[.string H.Name,.slice a1 n1 c1,.slice a2 n2 c2,.slice a3 n3 c3,.slice a4 n4 c4,.slice a5 n5 c5] 30)::((restL lg (k:Int)).map (chO (grpL H ms))++S)) w:=hw.perm byPM
  repeat first|refine byW ?_|refine byV ?_;intro w hw
  refine lY (v:=.slice av nv cv) ?_ (hy:=y_lookupZ hw hzg (i:=2) rfl rfl rfl)
  repeat first|refine byW ?_|refine byV ?_;intro w hw
  have hend:∀ {N:Int→List Int} {w:World},N=chK H r ms (k+1)→Wd Γ (AdjP bc N::(([Res.own (.slice av nv cv) 3 1 (intRows (grpL H ms (k:Int))),.blk b18 (.cells (enc (findC H.Cores r).1).toArray 37),btwP bb H a1 n1 c1 a2 n2 c2 a3 n3 c3 a4 n4 c4 a5 n5 c5,.blk b8 (.cells #[.int .i64 0,.slice none 0 0] 109),.blk b4 (.cells #[.string H.Name,.slice a1 n1 c1,.slice a2 n2 c2,.slice a3 n3 c3,.slice a4 n4 c4,.slice a5 n5 c5] 30)]++(adjM bg lg::((restL lg (k:Int)).map (chO (grpL H ms))++S)))++[plB pb bb cost bc])) w→Wd Γ (.blk b18 (.cells (enc (findC H.Cores r).1).toArray 37)::plB pb bb cost bc::AdjP bc (chK H r ms (k+1))::btwP bb H a1 n1 c1 a2 n2 c2 a3 n3 c3 a4 n4 c4 a5 n5 c5::AdjP bg (grpL H ms)::([.blk b8 (.cells #[.int .i64 0,.slice none 0 0] 109),.blk b4 (.cells #[.string H.Name,.slice a1 n1 c1,.slice a2 n2 c2,.slice a3 n3 c3,.slice a4 n4 c4,.slice a5 n5 c5] 30)]++S)) w:=fun {N w} hN hw=>by
   subst hN;have hw:=adjP_close hng hg0 hzg (S:=.blk b18 (.cells (enc (findC H.Cores r).1).toArray 37)::plB pb bb cost bc::AdjP bc (chK H r ms (k+1))::btwP bb H a1 n1 c1 a2 n2 c2 a3 n3 c3 a4 n4 c4 a5 n5 c5::([.blk b8 (.cells #[.int .i64 0,.slice none 0 0] 109),.blk b4 (.cells #[.string H.Name,.slice a1 n1 c1,.slice a2 n2 c2,.slice a3 n3 c3,.slice a4 n4 c4,.slice a5 n5 c5] 30)]++S)) (hw.perm byPM)
   exact hw.perm byPM
  refine W_cond rfl (fun h=>?_) (fun h=>?_)
  ·have h:(decide ((k:Int)=(findC H.Cores r).1.Node)||decide ((nv:Int)=0))=true:=h
   have hcase:(k:Int)=coreN H r∨grpL H ms (k:Int)=[]:=by
    simp only[Bool.or_eq_true,decide_eq_true_eq]at h
    exact h.imp id fun h=>List.eq_nil_of_length_eq_zero (by omega)
   obtain⟨l,vv,hnl,hl0,hz,hw⟩:=adjP_open r (hw.ps [4])
   obtain⟨a0,c0,rfl,hnc0,hcc0⟩:=ints_len hw (i:=1) rfl
   have hw:Wd Γ ([.own (.slice av nv cv) 3 1 (intRows (grpL H ms (k:Int))),plB pb bb cost bc]++(adjM bc l::.own (.slice a0 (chK H r ms k r).length c0) 3 1 (intRows (chK H r ms k r))::((restL l r).map (chO (chK H r ms k))++([.blk b18 (.cells (enc (findC H.Cores r).1).toArray 37),btwP bb H a1 n1 c1 a2 n2 c2 a3 n3 c3 a4 n4 c4 a5 n5 c5,.blk b8 (.cells #[.int .i64 0,.slice none 0 0] 109),.blk b4 (.cells #[.string H.Name,.slice a1 n1 c1,.slice a2 n2 c2,.slice a3 n3 c3,.slice a4 n4 c4,.slice a5 n5 c5] 30)]++(adjM bg lg::((restL lg (k:Int)).map (chO (grpL H ms))++S)))))) w:=hw.perm byPM
   generalize hm0:(chK H r ms k r).length=m0 at hw hnc0 hcc0 hz hclen
   repeat first|refine byW ?_|refine byV ?_;intro w hw
   refine W_mix2 [.own (.slice av nv cv) 3 1 (intRows (grpL H ms (k:Int))),plB pb bb cost bc] _ [[],[],[],[],[],[],[],[],[],[],[],[],[0],[0]] [[],[],[],[],[],[],[],[],[],[],[0],[],[0],[0]] [[117],[]] hw ?_
   refine byM ?_;refine mY (v:=.slice a0 m0 c0) ?_ (hy:=fun Y w g hw=>y_lookupZ hw hz (i:=2) rfl rfl rfl)
   refine byM ?_;refine mAppK (j:=1) (m2:=nv) (rows2:=intRows (grpL H ms (k:Int))) ?_ (fun Y w hw=>hw.own_rd (i:=0) rfl) (by simp[intRows,hnv]) (fun u hu=>(List.all_eq_true.1 (ints1 _)) u hu)
   refine mPutV (j:=0) ?_
   refine mEnd fun w g hw=>?_
   have hw:=Wd.dropEnd hw
   have hw:Wd Γ ([.own (.slice av nv cv) 3 1 (intRows (grpL H ms (k:Int))),plB pb bb cost bc]++(adjM bc (aSet l r (g 117))::.own (g 117) 3 1 (intRows (chK H r ms k r)++intRows (grpL H ms (k:Int)))::((restL l r).map (chO (chK H r ms k))++([.blk b18 (.cells (enc (findC H.Cores r).1).toArray 37),btwP bb H a1 n1 c1 a2 n2 c2 a3 n3 c3 a4 n4 c4 a5 n5 c5,.blk b8 (.cells #[.int .i64 0,.slice none 0 0] 109),.blk b4 (.cells #[.string H.Name,.slice a1 n1 c1,.slice a2 n2 c2,.slice a3 n3 c3,.slice a4 n4 c4,.slice a5 n5 c5] 30)]++(adjM bg lg::((restL lg (k:Int)).map (chO (grpL H ms))++S)))))) w:=hw
   rw[←intRows_app]at hw;have hw:=adjP_set hnl hl0 (S:=([Res.own (.slice av nv cv) 3 1 (intRows (grpL H ms (k:Int))),.blk b18 (.cells (enc (findC H.Cores r).1).toArray 37),btwP bb H a1 n1 c1 a2 n2 c2 a3 n3 c3 a4 n4 c4 a5 n5 c5,.blk b8 (.cells #[.int .i64 0,.slice none 0 0] 109),.blk b4 (.cells #[.string H.Name,.slice a1 n1 c1,.slice a2 n2 c2,.slice a3 n3 c3,.slice a4 n4 c4,.slice a5 n5 c5] 30)]++(adjM bg lg::((restL lg (k:Int)).map (chO (grpL H ms))++S)))++[plB pb bb cost bc]) (hw.perm byPM)
   have hN:addI (chK H r ms k) r (grpL H ms (k:Int))=chK H r ms (k+1):=by rw[chK_succ hrm,if_pos hcase]
   have hw:=hend hN hw
   repeat first|refine byW ?_|refine byV ?_;intro w hw
   exact⟨μ-1,by omega,k+1,by omega,⟨rfl,rfl,rfl,rfl,rfl,rfl,rfl,rfl,trivial⟩,hw⟩
  have h:(decide ((k:Int)=(findC H.Cores r).1.Node)||decide ((nv:Int)=0))=false:=h
  have hcase:¬((k:Int)=coreN H r∨grpL H ms (k:Int)=[]):=by
   simp only[Bool.or_eq_false_iff,decide_eq_false_iff_not]at h
   rintro (e|e)
   ·exact h.1 e
   ·rw[e]at hnv;simp at hnv;omega
  clear h;obtain⟨g0,gs,hgs⟩:∃g0 gs,grpL H ms (k:Int)=g0::gs:=by
   cases hq:grpL H ms (k:Int) with
   | nil=>exact absurd (.inr hq) hcase
   | cons a b=>exact⟨a,b,rfl⟩
  repeat first|refine byW ?_|refine byV ?_;intro w hw
  refine lCall ((minF_any (x0:=g0) (xs:=gs) (v:=.slice av nv cv) (by rw[hgs]at hnv;simp at hnv;omega) (S:=.blk b18 (.cells (enc (findC H.Cores r).1).toArray 37)::adjM bg lg::plB pb bb cost bc::AdjP bc (chK H r ms k)::btwP bb H a1 n1 c1 a2 n2 c2 a3 n3 c3 a4 n4 c4 a5 n5 c5::.blk b8 (.cells #[.int .i64 0,.slice none 0 0] 109)::((restL lg (k:Int)).map (chO (grpL H ms))++S)) (by rw[←hgs];exact hw.ps [7])).mono fun e w hq=>?_)
  obtain⟨rfl,hw⟩:=hq;have hfw:minF (spdC H) g0 gs=fwdL H (grpL H ms (k:Int)):=by rw[hgs];rfl
  rw[←hgs,hfw] at *
  refine⟨_,rfl,?_⟩;repeat first|refine byW ?_|refine byV ?_;intro w hw
  have hw:=hw.ps [5]
  obtain⟨l,vv,hnl,hl0,hz,hw⟩:=adjP_open r hw
  obtain⟨a0,c0,rfl,hnc0,hcc0⟩:=ints_len hw (i:=1) rfl
  have hw:Wd Γ ([plB pb bb cost bc]++(adjM bc l::.own (.slice a0 (chK H r ms k r).length c0) 3 1 (intRows (chK H r ms k r))::((restL l r).map (chO (chK H r ms k))++([Res.own (.slice av nv cv) 3 1 (intRows (grpL H ms (k:Int))),.blk b18 (.cells (enc (findC H.Cores r).1).toArray 37),btwP bb H a1 n1 c1 a2 n2 c2 a3 n3 c3 a4 n4 c4 a5 n5 c5,.blk b8 (.cells #[.int .i64 0,.slice none 0 0] 109),.blk b4 (.cells #[.string H.Name,.slice a1 n1 c1,.slice a2 n2 c2,.slice a3 n3 c3,.slice a4 n4 c4,.slice a5 n5 c5] 30)]++(adjM bg lg::((restL lg (k:Int)).map (chO (grpL H ms))++S)))))) w:=hw.perm byPM
  generalize hm0:(chK H r ms k r).length=m0 at hw hnc0 hcc0 hz
  repeat first|refine byW ?_|refine byV ?_;intro w hw
  refine W_mix2 [plB pb bb cost bc] _ [[],[],[],[],[],[],[],[],[],[],[],[],[1],[0],[0]] [[],[],[],[],[],[],[],[],[],[],[0],[],[1],[0,1],[0]] [[134],[133]] hw ?_
  refine byM ?_;refine mY (v:=.slice a0 m0 c0) ?_ (hy:=fun Y w g hw=>y_lookupZ hw hz (i:=1) rfl rfl rfl)
  refine byM ?_;refine mBuild (cells:=[.int .i64 (fwdL H (grpL H ms (k:Int)))]) [[.int .i64 (fwdL H (grpL H ms (k:Int)))]] ?_
  refine mApp (j:=1) ?_
  refine mPutV (j:=0) ?_
  refine mEnd fun w g hw=>?_
  have hw:=Wd.dropEnd hw
  have hw:Wd Γ ([plB pb bb cost bc]++(adjM bc (aSet l r (g 134))::.own (g 134) 3 1 (intRows (chK H r ms k r)++intRows [(fwdL H (grpL H ms (k:Int)))])::((restL l r).map (chO (chK H r ms k))++([Res.own (.slice av nv cv) 3 1 (intRows (grpL H ms (k:Int))),.blk b18 (.cells (enc (findC H.Cores r).1).toArray 37),btwP bb H a1 n1 c1 a2 n2 c2 a3 n3 c3 a4 n4 c4 a5 n5 c5,.blk b8 (.cells #[.int .i64 0,.slice none 0 0] 109),.blk b4 (.cells #[.string H.Name,.slice a1 n1 c1,.slice a2 n2 c2,.slice a3 n3 c3,.slice a4 n4 c4,.slice a5 n5 c5] 30)]++(adjM bg lg::((restL lg (k:Int)).map (chO (grpL H ms))++S)))))) w:=hw
  rw[←intRows_app]at hw;have hw:=adjP_set hnl hl0 (S:=([Res.own (.slice av nv cv) 3 1 (intRows (grpL H ms (k:Int))),.blk b18 (.cells (enc (findC H.Cores r).1).toArray 37),btwP bb H a1 n1 c1 a2 n2 c2 a3 n3 c3 a4 n4 c4 a5 n5 c5,.blk b8 (.cells #[.int .i64 0,.slice none 0 0] 109),.blk b4 (.cells #[.string H.Name,.slice a1 n1 c1,.slice a2 n2 c2,.slice a3 n3 c3,.slice a4 n4 c4,.slice a5 n5 c5] 30)]++(adjM bg lg::((restL lg (k:Int)).map (chO (grpL H ms))++S)))++[plB pb bb cost bc]) (hw.perm byPM)
  generalize g 134=gg at hw
  clear hz hm0;repeat first|refine byW ?_|refine byV ?_;intro w hw
  generalize hN0:addI (chK H r ms k) r [fwdL H (grpL H ms (k:Int))]=N0 at hw
  refine W_loop (fun μ ρ w=>∃(j:Nat) (N:Int→List Int),μ+j=nv∧N=addI N0 (fwdL H (grpL H ms (k:Int))) (((grpL H ms (k:Int)).take j).filter fun y=>decide (y≠fwdL H (grpL H ms (k:Int))))∧Has ρ [(1,.int .i64 r),(4,.pointer (some ⟨b4,0,none⟩)),(8,.pointer (some ⟨b8,0,none⟩)),(9,.int .i64 0),(12,.map (some bg)),(17,.pointer (some ⟨pb,0,none⟩)),(18,.pointer (some ⟨b18,0,none⟩)),(20,.int .i64 k),(22,.int .i64 (fwdL H (grpL H ms (k:Int)))),(135,.slice av nv cv),(136,.int .i64 nv),(137,.int .i64 j)]∧Wd Γ (AdjP bc N::(([Res.own (.slice av nv cv) 3 1 (intRows (grpL H ms (k:Int))),.blk b18 (.cells (enc (findC H.Cores r).1).toArray 37),btwP bb H a1 n1 c1 a2 n2 c2 a3 n3 c3 a4 n4 c4 a5 n5 c5,.blk b8 (.cells #[.int .i64 0,.slice none 0 0] 109),.blk b4 (.cells #[.string H.Name,.slice a1 n1 c1,.slice a2 n2 c2,.slice a3 n3 c3,.slice a4 n4 c4,.slice a5 n5 c5] 30)]++(adjM bg lg::((restL lg (k:Int)).map (chO (grpL H ms))++S)))++[plB pb bb cost bc])) w) nv ⟨0,N0,by omega,by rw[List.take_zero,List.filter_nil,addI_nil],⟨rfl,rfl,rfl,rfl,rfl,rfl,rfl,rfl,rfl,rfl,rfl,rfl,trivial⟩,hw⟩ ?_
  clear hw;rintro μ2 ρ w ⟨j,N,hj,hN,hρ,hw⟩
  rw[hρ.eq];clear hρ;repeat first|refine byW ?_|refine byV ?_;intro w hw
  refine W_cond rfl (fun h=>?_) (fun h=>?_)
  ·have hjn:j<nv:=by have:=of_decide_eq_true h;omega
   obtain⟨y,hy⟩:=get_lt (l:=grpL H ms (k:Int)) (k:=j) (by omega)
   have hw:=hw.ps [1]
   repeat first|refine byW ?_|refine byV ?_;intro w hw
   refine W_cond rfl (fun h2=>?_) (fun h2=>?_)
   ·have h2:y≠fwdL H (grpL H ms (k:Int)):=by simpa using h2
    have hw:=hw.ps [1]
    have hNlen:(N (fwdL H (grpL H ms (k:Int)))).length≤3000:=by
     rw[hN,←hN0];unfold addI;rw[if_pos rfl];have h1:(chK H r ms k (fwdL H (grpL H ms (k:Int)))).length≤1000:=Nat.le_trans chK_len hms
     have h3:(((grpL H ms (k:Int)).take j).filter fun y=>decide (y≠fwdL H (grpL H ms (k:Int)))).length≤1000:=Nat.le_trans (List.length_filter_le _ _) (by simp;omega)
     split <;> simp only[List.length_append,List.length_cons,List.length_nil] <;> omega
    obtain⟨l,vv,hnl,hl0,hz,hw⟩:=adjP_open (fwdL H (grpL H ms (k:Int))) hw
    obtain⟨a0,c0,rfl,hnc0,hcc0⟩:=ints_len hw (i:=1) rfl
    have hw:Wd Γ ([plB pb bb cost bc]++(adjM bc l::.own (.slice a0 (N (fwdL H (grpL H ms (k:Int)))).length c0) 3 1 (intRows (N (fwdL H (grpL H ms (k:Int)))))::((restL l (fwdL H (grpL H ms (k:Int)))).map (chO (N))++([Res.own (.slice av nv cv) 3 1 (intRows (grpL H ms (k:Int))),.blk b18 (.cells (enc (findC H.Cores r).1).toArray 37),btwP bb H a1 n1 c1 a2 n2 c2 a3 n3 c3 a4 n4 c4 a5 n5 c5,.blk b8 (.cells #[.int .i64 0,.slice none 0 0] 109),.blk b4 (.cells #[.string H.Name,.slice a1 n1 c1,.slice a2 n2 c2,.slice a3 n3 c3,.slice a4 n4 c4,.slice a5 n5 c5] 30)]++(adjM bg lg::((restL lg (k:Int)).map (chO (grpL H ms))++S)))))) w:=hw.perm byPM
    generalize hm0:(N (fwdL H (grpL H ms (k:Int)))).length=m0 at hw hnc0 hcc0 hz
    repeat first|refine byW ?_|refine byV ?_;intro w hw
    refine W_mix2 [plB pb bb cost bc] _ [[],[],[],[],[],[],[],[],[],[],[],[],[1],[0],[0]] [[],[],[],[],[],[],[],[],[],[],[0],[],[1],[0,1],[0]] [[157],[156]] hw ?_
    refine byM ?_;refine mY (v:=.slice a0 m0 c0) ?_ (hy:=fun Y w g hw=>y_lookupZ hw hz (i:=1) rfl rfl rfl)
    refine byM ?_;refine mBuild (cells:=[.int .i64 y]) [[.int .i64 y]] ?_
    refine mApp (j:=1) ?_
    refine mPutV (j:=0) ?_
    refine mEnd fun w g hw=>?_
    have hw:=Wd.dropEnd hw
    have hw:Wd Γ ([plB pb bb cost bc]++(adjM bc (aSet l (fwdL H (grpL H ms (k:Int))) (g 157))::.own (g 157) 3 1 (intRows (N (fwdL H (grpL H ms (k:Int))))++intRows [y])::((restL l (fwdL H (grpL H ms (k:Int)))).map (chO (N))++([Res.own (.slice av nv cv) 3 1 (intRows (grpL H ms (k:Int))),.blk b18 (.cells (enc (findC H.Cores r).1).toArray 37),btwP bb H a1 n1 c1 a2 n2 c2 a3 n3 c3 a4 n4 c4 a5 n5 c5,.blk b8 (.cells #[.int .i64 0,.slice none 0 0] 109),.blk b4 (.cells #[.string H.Name,.slice a1 n1 c1,.slice a2 n2 c2,.slice a3 n3 c3,.slice a4 n4 c4,.slice a5 n5 c5] 30)]++(adjM bg lg::((restL lg (k:Int)).map (chO (grpL H ms))++S)))))) w:=hw
    rw[←intRows_app]at hw;have hw:=adjP_set hnl hl0 (S:=([Res.own (.slice av nv cv) 3 1 (intRows (grpL H ms (k:Int))),.blk b18 (.cells (enc (findC H.Cores r).1).toArray 37),btwP bb H a1 n1 c1 a2 n2 c2 a3 n3 c3 a4 n4 c4 a5 n5 c5,.blk b8 (.cells #[.int .i64 0,.slice none 0 0] 109),.blk b4 (.cells #[.string H.Name,.slice a1 n1 c1,.slice a2 n2 c2,.slice a3 n3 c3,.slice a4 n4 c4,.slice a5 n5 c5] 30)]++(adjM bg lg::((restL lg (k:Int)).map (chO (grpL H ms))++S)))++[plB pb bb cost bc]) (hw.perm byPM)
    generalize g 157=gg at hw
    clear hz hm0;have hN2:addI N (fwdL H (grpL H ms (k:Int))) [y]=addI N0 (fwdL H (grpL H ms (k:Int))) (((grpL H ms (k:Int)).take (j+1)).filter fun y=>decide (y≠fwdL H (grpL H ms (k:Int)))):=by
     rw[hN,addI_addI,take_succ_of hy,List.filter_append,List.filter_cons_of_pos (by simpa using h2)];rfl
    repeat first|refine byW ?_|refine byV ?_;intro w hw
    exact⟨μ2-1,by omega,j+1,_,by omega,hN2,⟨rfl,rfl,rfl,rfl,rfl,rfl,rfl,rfl,rfl,rfl,rfl,rfl,trivial⟩,hw⟩
   ·have h2:y=fwdL H (grpL H ms (k:Int)):=by simpa using h2
    have hw:=hw.ps [1]
    have hN2:N=addI N0 (fwdL H (grpL H ms (k:Int))) (((grpL H ms (k:Int)).take (j+1)).filter fun y=>decide (y≠fwdL H (grpL H ms (k:Int)))):=by
     rw[hN,take_succ_of hy,List.filter_append,List.filter_cons_of_neg (by simpa using h2),List.filter_nil,List.append_nil]
    repeat first|refine byW ?_|refine byV ?_;intro w hw
    exact⟨μ2-1,by omega,j+1,N,by omega,hN2,⟨rfl,rfl,rfl,rfl,rfl,rfl,rfl,rfl,rfl,rfl,rfl,rfl,trivial⟩,hw⟩
  ·have hjn:¬j<nv:=by have:=of_decide_eq_false h;omega
   rw[List.take_of_length_le (by omega)]at hN
   have hN2:N=chK H r ms (k+1):=by rw[hN,chK_succ hrm,if_neg hcase,hN0]
   have hw:=hend hN2 hw
   repeat first|refine byW ?_|refine byV ?_;intro w hw
   exact⟨μ-1,by omega,k+1,by omega,⟨rfl,rfl,rfl,rfl,rfl,rfl,rfl,rfl,trivial⟩,hw⟩
 have hkn:¬k<64:=by have:=of_decide_eq_false h;omega
 have hk64:k=64:=by omega
 subst hk64;clear h hkn hk;have hw:Wd Γ (AdjP bc (chP H r ms)::.blk b18 (.cells (enc (findC H.Cores r).1).toArray 37)::plB pb bb cost bc::btwP bb H a1 n1 c1 a2 n2 c2 a3 n3 c3 a4 n4 c4 a5 n5 c5::AdjP bg (grpL H ms)::([.blk b8 (.cells #[.int .i64 0,.slice none 0 0] 109),.blk b4 (.cells #[.string H.Name,.slice a1 n1 c1,.slice a2 n2 c2,.slice a3 n3 c3,.slice a4 n4 c4,.slice a5 n5 c5] 30)]++S)) w:=hw.ps [2]
 unfold AdjP at hw;obtain⟨l,⟨hnl,hl0⟩,hw⟩:=Wd.unpack hw
 have hrch:∀a,Rch (chP H r ms) r a→(findC H.Cores a).2=true:=fun a ha=>by
  rcases chP_rch ha with rfl|h
  ·exact hknr
  ·exact hknm a h
 repeat first|refine byW ?_|refine byV ?_;intro w hw
 refine lCall ((height_any (hhw:=hhw') (core:=r) (k:=3) hv hc hnl hl0 (fun x=>Nat.le_trans chK_len hms) (chP_dep hrm) (by omega) hrch (cur:=chP H r ms) (S:=.blk b18 (.cells (enc (findC H.Cores r).1).toArray 37)::AdjP bg (grpL H ms)::([.blk b8 (.cells #[.int .i64 0,.slice none 0 0] 109),.blk b4 (.cells #[.string H.Name,.slice a1 n1 c1,.slice a2 n2 c2,.slice a3 n3 c3,.slice a4 n4 c4,.slice a5 n5 c5] 30)]++S)) (fun _ _=>.refl _) (by unfold AdjP;exact hw.perm byPM)).mono fun e w hq=>?_)
 obtain⟨rfl,hw⟩:=hq;refine⟨_,rfl,?_⟩;generalize hN':upS (farI H) cost (chP H r ms) (Rch (chP H r ms) r) (chP H r ms)=N' at hw
 have hNs:∀a,Rch (chP H r ms) r a→N' a=srt (farI H) cost (chP H r ms) a:=fun a ha=>by rw[←hN'];exact upS_in ha
 have hw:Wd Γ (AdjP bc N'::plB pb bb cost bc::.blk b8 (.cells #[.int .i64 0,.slice none 0 0] 109)::S) w:=by
  have hw:Wd Γ ((adjM bc l::l.map (chO N'))++(plB pb bb cost bc::.blk b8 (.cells #[.int .i64 0,.slice none 0 0] 109)::S)) w:=by
   have h2:Wd Γ ([btwP bb H a1 n1 c1 a2 n2 c2 a3 n3 c3 a4 n4 c4 a5 n5 c5,.blk b18 (.cells (enc (findC H.Cores r).1).toArray 37),AdjP bg (grpL H ms),.blk b4 (.cells #[.string H.Name,.slice a1 n1 c1,.slice a2 n2 c2,.slice a3 n3 c3,.slice a4 n4 c4,.slice a5 n5 c5] 30)]++((adjM bc l::l.map (chO N'))++(plB pb bb cost bc::.blk b8 (.cells #[.int .i64 0,.slice none 0 0] 109)::S))) w:=hw.perm byPM
   exact h2.drop.drop.drop.drop
  have:=Wd.pack (φ:=fun l:List (Int×Value)=>(l.map (·.1)).Nodup∧∀x,aGet l x=none→N' x=[]) (R:=fun l=>adjM bc l::l.map (chO N')) l ⟨hnl,fun x hx=>?_⟩ hw
  ·unfold AdjP;exact this
  ·rw[←hN'];have:=upS_perm (far:=farI H) (cost:=cost) (ch:=chP H r ms) (D:=Rch (chP H r ms) r) (cur:=chP H r ms) (x:=x) (.refl _)
   rw[hl0 x hx]at this;exact this.eq_nil
 have hslen:(srt (farI H) cost (chP H r ms) r).length≤1000:=by rw[(srt_perm r).length_eq];exact Nat.le_trans chK_len hms
 repeat first|refine byW ?_|refine byV ?_;intro w hw
 refine lAlloc ?_;intro b25 w hw;refine lStore ?_;intro w hw;have hw:Wd Γ (.blk b25 (.cells #[.int .i64 r,.slice none 0 0] 109)::AdjP bc N'::plB pb bb cost bc::.blk b8 (.cells #[.int .i64 0,.slice none 0 0] 109)::S) w:=hw
 repeat first|refine byW ?_|refine byV ?_;intro w hw
 refine lBuildSlice [[.int .i64 r]] ?_
 intro ar w hw;obtain⟨l2,v2,hnl2,hl20,hz2,hw⟩:=adjP_open r (hw.ps [2])
 rw[hNs r (.refl r)]at hw;obtain⟨a2v,c2v,rfl,hnc2,hcc2⟩:=ints_len hw (i:=1) rfl
 have hw:Wd Γ (.own (.slice (some ar) 1 1) 3 1 (intRows [r])::adjM bc l2::.own (.slice a2v (srt (farI H) cost (chP H r ms) r).length c2v) 3 1 (intRows (srt (farI H) cost (chP H r ms) r))::plB pb bb cost bc::((restL l2 r).map (chO N')++(.blk b25 (.cells #[.int .i64 r,.slice none 0 0] 109)::.blk b8 (.cells #[.int .i64 0,.slice none 0 0] 109)::S))) w:=hw.perm byPM
 generalize hL:srt (farI H) cost (chP H r ms) r=L at *
 repeat first|refine byW ?_|refine byV ?_;intro w hw
 refine lY (v:=.slice a2v L.length c2v) ?_ (hy:=y_lookupZ hw hz2 (i:=1) rfl rfl rfl)
 repeat first|refine byW ?_|refine byV ?_;intro w hw
 refine lApp (i:=0) (rows2:=intRows L) ?_ (hw.own_rd (i:=2) rfl) rfl rfl hw rfl (ints1 _) (by simp[intRows])
 intro v' w hw;have hw:Wd Γ (.own v' 3 1 (intRows (r::L))::adjM bc l2::.own (.slice a2v L.length c2v) 3 1 (intRows L)::plB pb bb cost bc::((restL l2 r).map (chO N')++(.blk b25 (.cells #[.int .i64 r,.slice none 0 0] 109)::.blk b8 (.cells #[.int .i64 0,.slice none 0 0] 109)::S))) w:=hw
 have hw:=adjP_close (N:=N') hnl2 hl20 hz2 (S:=.own v' 3 1 (intRows (r::L))::plB pb bb cost bc::(.blk b25 (.cells #[.int .i64 r,.slice none 0 0] 109)::.blk b8 (.cells #[.int .i64 0,.slice none 0 0] 109)::S)) (by rw[hNs r (.refl r),hL];exact hw.perm byPM)
 have hw:=hw.ps [1]
 obtain⟨a0,c0,rfl,hnc0,hcc0⟩:=ints_len hw (i:=0) rfl
 have hn0:(r::L).length≤1001:=by simp;omega
 have hLs:∀x∈r::L,Rch (chP H r ms) r x:=fun x hx=>by
  rcases List.mem_cons.1 hx with rfl|hx
  ·exact .refl _
  ·rw[←hL]at hx;exact .step ((srt_perm r).mem_iff.1 hx) (.refl x)
 generalize hRL:r::L=RL at *
 generalize hnr:RL.length=nr at *
 have hw:Wd Γ (.own (.slice a0 nr c0) 3 1 (intRows RL)::AdjP bc N'::plB pb bb cost bc::.blk b8 (.cells #[.int .i64 0,.slice none 0 0] 109)::.blk b25 (.cells #[.int .i64 r,.slice none 0 0] 109)::.own (.slice none 0 0) 164 2 (([]:List Pl).map plV)::S) w:=((Wd.addNil (a:=none) (E:=164) (sz:=2) hw)).perm byPM
 repeat first|refine byW ?_|refine byV ?_;intro w hw
 refine W_loop (fun μ ρ w=>∃(i:Nat) (E:List Pl) (ve:Value),μ+i=nr∧E=(RL.take i).flatMap (fun f=>(srt (farI H) cost (chP H r ms) f).map fun t=>(f,t))∧E.length≤i*1000∧Has ρ [(8,.pointer (some ⟨b8,0,none⟩)),(9,.int .i64 0),(17,.pointer (some ⟨pb,0,none⟩)),(25,.pointer (some ⟨b25,0,none⟩)),(172,.slice a0 nr c0),(173,.int .i64 nr),(174,.int .i64 i)]∧Wd Γ (.own (.slice a0 nr c0) 3 1 (intRows RL)::AdjP bc N'::plB pb bb cost bc::.blk b8 (.cells #[.int .i64 0,.slice none 0 0] 109)::.blk b25 (.cells #[.int .i64 r,ve] 109)::.own ve 164 2 (E.map plV)::S) w) nr ⟨0,[],_,by omega,by simp,by simp,⟨rfl,rfl,rfl,rfl,rfl,rfl,rfl,trivial⟩,hw⟩ ?_
 clear hw;rintro μ ρ w ⟨i,E,ve,hi,hE,hEl,hρ,hw⟩
 rw[hρ.eq];clear hρ;repeat first|refine byW ?_|refine byV ?_;intro w hw
 refine W_cond rfl (fun h=>?_) (fun h=>?_)
 ·have hin:i<nr:=by have:=of_decide_eq_true h;omega
  obtain⟨x,hx⟩:=get_lt (l:=RL) (k:=i) (by omega)
  have hxs:=hNs x (hLs x (List.mem_of_getElem? hx))
  have hxlen:(srt (farI H) cost (chP H r ms) x).length≤1000:=by rw[(srt_perm x).length_eq];exact Nat.le_trans chK_len hms
  repeat first|refine byW ?_|refine byV ?_;intro w hw
  obtain⟨l3,v3,hnl3,hl30,hz3,hw⟩:=adjP_open x (hw.ps [1])
  rw[hxs]at hw;obtain⟨a3v,c3v,rfl,hnc3,hcc3⟩:=ints_len hw (i:=1) rfl
  have hw:Wd Γ (.own (.slice a3v (srt (farI H) cost (chP H r ms) x).length c3v) 3 1 (intRows (srt (farI H) cost (chP H r ms) x))::.own ve 164 2 (E.map plV)::.blk b25 (.cells #[.int .i64 r,ve] 109)::plB pb bb cost bc::adjM bc l3::.own (.slice a0 nr c0) 3 1 (intRows RL)::.blk b8 (.cells #[.int .i64 0,.slice none 0 0] 109)::((restL l3 x).map (chO N')++S)) w:=hw.perm byPM
  generalize hM:srt (farI H) cost (chP H r ms) x=M at *
  generalize hnx:M.length=nx at *
  repeat first|refine byW ?_|refine byV ?_;intro w hw
  refine lY (v:=.slice a3v nx c3v) ?_ (hy:=y_lookupZ hw hz3 (i:=4) rfl rfl rfl)
  repeat first|refine byW ?_|refine byV ?_;intro w hw
  refine W_loop (fun μ ρ w=>∃(j:Nat) (ve:Value),μ+j=nx∧Has ρ [(8,.pointer (some ⟨b8,0,none⟩)),(9,.int .i64 0),(17,.pointer (some ⟨pb,0,none⟩)),(25,.pointer (some ⟨b25,0,none⟩)),(27,.int .i64 x),(172,.slice a0 nr c0),(173,.int .i64 nr),(174,.int .i64 i),(183,.slice a3v nx c3v),(184,.int .i64 nx),(185,.int .i64 j)]∧Wd Γ (.own (.slice a3v nx c3v) 3 1 (intRows M)::.own ve 164 2 ((E++(M.take j).map fun t=>(x,t)).map plV)::.blk b25 (.cells #[.int .i64 r,ve] 109)::plB pb bb cost bc::adjM bc l3::.own (.slice a0 nr c0) 3 1 (intRows RL)::.blk b8 (.cells #[.int .i64 0,.slice none 0 0] 109)::((restL l3 x).map (chO N')++S)) w) nx ⟨0,ve,by omega,⟨rfl,rfl,rfl,rfl,rfl,rfl,rfl,rfl,rfl,rfl,rfl,trivial⟩,by rw[List.take_zero,List.map_nil,List.append_nil];exact hw⟩ ?_
  clear hw;rintro μ2 ρ w ⟨j,ve,hj,hρ,hw⟩
  rw[hρ.eq];clear hρ;repeat first|refine byW ?_|refine byV ?_;intro w hw
  refine W_cond rfl (fun h=>?_) (fun h=>?_)
  ·have hjn:j<nx:=by have:=of_decide_eq_true h;omega
   obtain⟨y,hy⟩:=get_lt (l:=M) (k:=j) (by omega)
   obtain⟨av,nv,cv,rfl,hnv,hncv,-⟩:=hw.own_shape (i:=1) rfl
   have hnv:nv=E.length+j:=by rw[hnv];simp;omega
   repeat first|refine byW ?_|refine byV ?_;intro w hw
   refine lBuildSlice [plV (x,y)] ?_
   intro asl w hw;have hw:=hw.ps [2]
   repeat first|refine byW ?_|refine byV ?_;intro w hw
   refine lApp (i:=0) (rows2:=[plV (x,y)]) ?_ (hw.own_rd (i:=1) rfl) rfl rfl hw rfl rfl rfl
   intro v' w hw;have hw:Wd Γ (.own v' 164 2 ((E++(M.take j).map fun t=>(x,t)).map plV++[plV (x,y)])::.own (.slice (some asl) 1 1) 164 2 [plV (x,y)]::.own (.slice a3v nx c3v) 3 1 (intRows M)::.blk b25 (.cells #[.int .i64 r,.slice av nv cv] 109)::plB pb bb cost bc::adjM bc l3::.own (.slice a0 nr c0) 3 1 (intRows RL)::.blk b8 (.cells #[.int .i64 0,.slice none 0 0] 109)::((restL l3 x).map (chO N')++S)) w:=hw
   obtain⟨av2,nv2,cv2,rfl,-⟩:=hw.own_shape (i:=0) rfl
   repeat first|refine byW ?_|refine byV ?_;intro w hw
   refine lStore ?_;intro w hw;have hw:Wd Γ (.own (.slice (some asl) 1 1) 164 2 [plV (x,y)]::.own (.slice a3v nx c3v) 3 1 (intRows M)::.own (.slice av2 nv2 cv2) 164 2 ((E++(M.take j).map fun t=>(x,t)).map plV++[plV (x,y)])::.blk b25 (.cells #[.int .i64 r,.slice av2 nv2 cv2] 109)::plB pb bb cost bc::adjM bc l3::.own (.slice a0 nr c0) 3 1 (intRows RL)::.blk b8 (.cells #[.int .i64 0,.slice none 0 0] 109)::((restL l3 x).map (chO N')++S)) w:=hw.ps [2,2]
   have hw:=hw.drop
   have e:(E++(M.take j).map fun t=>(x,t)).map plV++[plV (x,y)]=(E++(M.take (j+1)).map fun t=>(x,t)).map plV:=by
    rw[take_succ_of hy];simp
   rw[e]at hw;repeat first|refine byW ?_|refine byV ?_;intro w hw
   exact⟨μ2-1,by omega,j+1,_,by omega,⟨rfl,rfl,rfl,rfl,rfl,rfl,rfl,rfl,rfl,rfl,rfl,trivial⟩,hw⟩
  ·have hjn:¬j<nx:=by have:=of_decide_eq_false h;omega
   rw[List.take_of_length_le (by omega)]at hw
   have hw:=adjP_close (N:=N') hnl3 hl30 hz3 (S:=.own ve 164 2 ((E++M.map fun t=>(x,t)).map plV)::.blk b25 (.cells #[.int .i64 r,ve] 109)::plB pb bb cost bc::.own (.slice a0 nr c0) 3 1 (intRows RL)::.blk b8 (.cells #[.int .i64 0,.slice none 0 0] 109)::S) (by rw[hxs];exact hw.perm byPM)
   have hw:Wd Γ (.own (.slice a0 nr c0) 3 1 (intRows RL)::AdjP bc N'::plB pb bb cost bc::.blk b8 (.cells #[.int .i64 0,.slice none 0 0] 109)::.blk b25 (.cells #[.int .i64 r,ve] 109)::.own ve 164 2 ((E++M.map fun t=>(x,t)).map plV)::S) w:=hw.perm byPM
   repeat first|refine byW ?_|refine byV ?_;intro w hw
   refine⟨μ-1,by omega,i+1,_,ve,by omega,?_,?_,⟨rfl,rfl,rfl,rfl,rfl,rfl,rfl,trivial⟩,hw⟩
   ·rw[take_succ_of hx,List.flatMap_append,←hE];simp[hM]
   ·simp only[List.length_append,List.length_map];omega
 ·have hin:¬i<nr:=by have:=of_decide_eq_false h;omega
  rw[List.take_of_length_le (by omega)]at hE
  have hE:E=planE H r ms cost:=by rw[hE,←hRL];unfold planE;rw[hL]
  rw[hE]at hw;obtain⟨av,nv,cv,rfl,-⟩:=hw.own_shape (i:=5) rfl
  have hw:=hw.ps [5,5]
  repeat first|refine byW ?_|refine byV ?_;intro w hw
  refine lStore ?_;intro w hw;have hw:Wd Γ (.own (.slice av nv cv) 164 2 ((planE H r ms cost).map plV)::.blk b8 (.cells #[.int .i64 r,.slice av nv cv] 109)::S) w:=hw.ds [0,1,1,1]
  repeat first|refine byW ?_|refine byV ?_;intro w hw
  exact⟨[_,_],⟨resC (i:=1) hw rfl rfl rfl,rfl,trivial⟩,_,rfl,hw.ds [1]⟩
instance shortL_one{α:Type}{x:α}:ShortL [x]:=⟨by simp⟩
theorem awake_core{Γ:Gho}{w:World}(hw:Wd Γ [] w):Calls Tryz.prog 12 #[] w fun e w'=>∃Γ',Γ.le Γ'∧e=.returned (.bool true)∧Wd Γ' [] w':=by
 refine calls_of_W Tryz.func12 rfl rfl ?_
 repeat first|refine byW ?_|refine byV ?_;intro w hw
 refine lBuildSlice (awH.Cores.map enc) ?_
 intro a1 w hw;repeat first|refine byW ?_|refine byV ?_;intro w hw
 refine lBuildSlice (awH.Links.map enc) ?_
 intro a3 w hw;have hw:Wd Γ (.own (.slice (some a3) 2 2) 79 3 (awH.Links.map enc)::.own (.slice (some a1) 2 2) 37 4 (awH.Cores.map enc)::[]) w:=hw
 obtain⟨Γ1,e1,r3,hw⟩:=hw.freeze;obtain⟨Γ2,e2,r1,hw⟩:=hw.freeze;have hR:HwR Γ2 (.agg #[.string awH.Name,.slice (some a1) 2 2,.slice none 0 0,.slice (some a3) 2 2,.slice none 0 0,.slice none 0 0]) awH:=
  ⟨_,_,_,_,_,_,_,_,_,_,_,_,_,_,_,[],rfl,rfl,(by simp),aw_sz,r1,.nil,r3.mono e2,.nil,.nil⟩
 repeat first|refine byW ?_|refine byV ?_;intro w hw
 refine lAlloc ?_;intro b1 w hw;refine lStore ?_;intro w hw;have hw:Wd Γ2 (.blk b1 (.cells #[.string awH.Name,.slice (some a1) 2 2,.slice none 0 0,.slice (some a3) 2 2,.slice none 0 0,.slice none 0 0] 30)::[]) w:=hw
 have hd:=aw_dist
 repeat first|refine byW ?_|refine byV ?_;intro w hw
 refine lCall ((Path_any (hh:=hR) 0 2 hw).mono fun e w hq=>?_)
 obtain⟨vp,p,err,rfl,hp,hw⟩:=hq;obtain⟨rfl,rfl⟩:=aw_path hp
 refine⟨_,rfl,?_⟩;obtain⟨ap,np,cp,rfl,hnp,-⟩:=hw.own_shape (i:=0) rfl
 obtain⟨Γ3,e3,r4,hw⟩:=hw.freeze;haveI hR3:=hR.mono e3
 repeat first|refine byW ?_|refine byV ?_;intro w hw
 refine lBuildSlice (intRows [1]) ?_
 intro a5 w hw;obtain⟨Γ4,e4,r5,hw⟩:=hw.freeze;haveI hR4:=hR3.mono e4
 repeat first|refine byW ?_|refine byV ?_;intro w hw
 haveI hs5:SlC Γ4 (.slice (some a5) 1 1) 1 (intRows [1]):=⟨r5⟩
 refine lCall ((plan_any (hhw:=hR4) (hr:=hs5) 0 3 hw).mono fun e w hq=>?_)
 obtain⟨vo,rfl,hw⟩:=hq;rw[aw_planS.2,aw_planS.1] at *
 refine⟨_,rfl,?_⟩;obtain⟨ao,no,co,rfl,hno,-⟩:=hw.own_shape (i:=0) rfl
 have hno:no=1:=by simpa using hno
 subst hno;obtain⟨Γ5,e5,r6,hw⟩:=hw.freeze;haveI hR5:=hR4.mono e5
 haveI hs6:SlC Γ5 (.slice ao 1 co) 2 ([((0,1):Pl)].map plV):=⟨r6⟩
 repeat first|refine byW ?_|refine byV ?_;intro w hw
 refine lAlloc ?_;intro b6 w hw;refine lStore ?_;intro w hw;have hw:Wd Γ5 (.blk b6 (.cells #[.int .i64 0,.slice ao 1 co] 109)::.blk b1 (.cells #[.string awH.Name,.slice (some a1) 2 2,.slice none 0 0,.slice (some a3) 2 2,.slice none 0 0,.slice none 0 0] 30)::[]) w:=hw
 repeat first|refine byW ?_|refine byV ?_;intro w hw
 refine L_has (l:=[(4,.slice ap np cp),(5,.int .i64 0),(6,.pointer (some ⟨b6,0,none⟩)),(7,.int .i64 0),(8,.int .i64 15),(9,.int .i64 0),(45,.bool true),(46,.slice ap np cp)]) ⟨rfl,rfl,rfl,rfl,congrArg (Value.int .i64) aw_comp.1,congrArg (Value.int .i64) aw_comp.2,val_b rfl (by rw[aw_dist];rfl),gvT (by rw[aw_dist];rfl) rfl,trivial⟩ fun ρ' hρ'=>?_
 rw[hρ'.eq];clear hρ';repeat(first|(first|refine W_seq ?_|refine W_block ?_|refine W_region ?_|refine W_skip ?_|refine W_ret ?_|refine W_exit ?_)|((first|apply L_bin|apply L_notop);first|(refine lT ?_ ?_;(first|exact rfl|exact decide_eq_true rfl|(simp;done)))|(refine lF ?_ ?_;(first|exact rfl|exact decide_eq_true rfl|(simp;done))))|(first|refine L_nil ?_|(apply L_plain;first|(apply L_go;first|refine lP ?_|(refine lPg ?_;intro w hw))|(apply L_mf;refine lMakeFunc ?_)|refine lY ?_)|(apply L_guarded;first|refine lGT ?_|refine lGF ?_|(apply L_go;first|refine lPG ?_|(refine lPgG ?_;intro w hw))|refine lG ?_))|(refine lAlloc ?_;intro _ w hw)|(refine lBox ?_;intro _ w hw)|(refine lStore ?_;intro w hw))
 refine lBuildSlice (intRows [0,1,2]) ?_
 intro a7 w hw;obtain⟨Γ6,e6,r7,hw⟩:=hw.freeze;haveI hs7:SlC Γ6 (.slice (some a7) 3 3) 1 (intRows [0,1,2]):=⟨r7⟩
 haveI hs8:SlC Γ6 (.slice ap np cp) 1 (intRows [0,1,2]):=⟨r4.mono (e4.trans (e5.trans e6))⟩
 haveI hC:PG Tryz.prog Γ6 20 [.slice ap np cp,.slice (some a7) 3 3] (.bool true):=by
  have:=pg_SameInts (Γ:=Γ6) (v:=.slice ap np cp) (v2:=.slice (some a7) 3 3) (xs:=[0,1,2]) (ys:=[0,1,2])
  rwa [decide_eq_true rfl]at this
 repeat(first|(first|refine W_seq ?_|refine W_block ?_|refine W_region ?_|refine W_skip ?_|refine W_ret ?_|refine W_exit ?_)|((first|apply L_bin|apply L_notop);first|(refine lT ?_ ?_;(first|exact rfl|exact decide_eq_true rfl|(simp;done)))|(refine lF ?_ ?_;(first|exact rfl|exact decide_eq_true rfl|(simp;done))))|(first|refine L_nil ?_|(apply L_plain;first|(apply L_go;first|refine lP ?_|(refine lPg ?_;intro w hw))|(apply L_mf;refine lMakeFunc ?_)|refine lY ?_)|(apply L_guarded;first|refine lGT ?_|refine lGF ?_|(apply L_go;first|refine lPG ?_|(refine lPgG ?_;intro w hw))|refine lG ?_))|(refine lAlloc ?_;intro _ w hw)|(refine lBox ?_;intro _ w hw)|(refine lStore ?_;intro w hw))
 exact⟨_,rfl,Γ6,e1.trans (e2.trans (e3.trans (e4.trans (e5.trans e6)))),rfl,hw.ds [0,0]⟩
instance pg_awake{Γ:Gho}:PG Tryz.prog Γ 12 [] (.bool true):=⟨fun S w hw=>
 (awake_core (allG_wd w)).mono fun e w' ⟨Γ',hle,he,hw'⟩=>⟨he,wd_kept hw (wd_less hle hw')⟩⟩
end Go.Proofs.YtfoggcgogafocaaGreat
end
section
open Go Mk
namespace Go.Proofs.YtfoggcgogafocaaGreat
theorem lats_ok{ls:List LinkT}(h:LinksOk ls):∀l∈ls,0≤l.Latency∧l.Latency≤1000000:=fun l hl=>by
 have:=h.2 l hl;omega
theorem valid_keys{H:HwT}(h:validS H=0):(H.Links.map linkKey).Nodup:=by
 obtain⟨-,-,-,-,h5,-⟩:=valid_all h
 unfold uniqueB at h5;simp only[Bool.and_eq_true,decide_eq_true_eq]at h5
 exact h5.2.2
set_option maxHeartbeats 16000000
attribute [local irreducible] Calls
def matL(D:Mx):List Value:=(List.range 4096).map fun n=>.int .i64 (D ((n / 64:Nat):Int) ((n%64:Nat):Int))
theorem matL_len(D:Mx):(matL D).length=4096:=by simp[matL]
theorem matL_one(D:Mx):∀v∈matL D,v.oneCell'=true:=by simp[matL,Value.oneCell']
theorem matL_get(D:Mx){n:Nat}(h:n<4096):(matL D)[n]? = some (.int .i64 (D ((n / 64:Nat):Int) ((n%64:Nat):Int))):=by
 unfold matL;rw[List.getElem?_map,List.getElem?_range h];rfl
theorem matL_at(D:Mx){a b:Int}(ha:nIn a)(hb:nIn b):(matL D)[a.toNat*64+b.toNat]? = some (.int .i64 (D a b)):=by
 unfold nIn at ha hb;rw[matL_get D (by omega)]
 rw[show (((a.toNat*64+b.toNat) / 64:Nat):Int)=a by omega,show (((a.toNat*64+b.toNat)%64:Nat):Int)=b by omega]
theorem matL_set(D:Mx){a b v:Int}(ha:nIn a)(hb:nIn b):(matL D).set (a.toNat*64+b.toNat) (.int .i64 v)=matL (updM D a b v):=by
 unfold nIn at ha hb;refine List.ext_getElem? fun n=>?_
 rw[List.getElem?_set];by_cases h:n<4096
 ·rw[matL_get _ h,matL_get _ h];unfold updM;by_cases e:a.toNat*64+b.toNat=n
  ·rw[if_pos e,if_pos (by rw[matL_len];omega),if_pos (by omega)]
  ·rw[if_neg e,if_neg (by omega)]
 ·rw[List.getElem?_eq_none (by rw[matL_len];omega),List.getElem?_eq_none (by rw[matL_len];omega)]
  split
  ·rw[if_neg (by rw[matL_len];omega)]
  ·rfl
theorem getM(D:Mx){a b:Int}(ha:nIn a)(hb:nIn b):(matL D).toArray[0+a.toNat*64+b.toNat*1]? = some (.int .i64 (D a b)):=by
 rw[show 0+a.toNat*64+b.toNat*1=a.toNat*64+b.toNat by omega]
 simpa using matL_at D ha hb
theorem putM(D:Mx){a b v:Int}(ha:nIn a)(hb:nIn b):putCells (matL D).toArray (0+a.toNat*64+b.toNat*1) [.int .i64 v]=(matL (updM D a b v)).toArray:=by
 rw[←matL_set D ha hb];unfold putCells;have hl:a.toNat*64+b.toNat<(matL D).length:=by rw[matL_len];unfold nIn at ha hb;omega
 rw[show 0+a.toNat*64+b.toNat*1=a.toNat*64+b.toNat by omega,List.set_eq_take_append_cons_drop,if_pos hl]
 simp
theorem matL_congr{D D':Mx}(h:∀a b,nIn a→nIn b→D a b=D' a b):matL D=matL D':=by
 unfold matL;refine List.map_congr_left fun n hn=>?_
 have:n<4096:=by simpa using hn
 rw[h _ _ (by unfold nIn;omega) (by unfold nIn;omega)]
theorem matL_zero:List.replicate 4096 (.int .i64 0)=matL fun _ _=>0:=by
 refine List.ext_getElem? fun n=>?_
 rw[List.getElem?_replicate];by_cases h:n<4096
 ·rw[matL_get _ h,if_pos h]
 ·rw[List.getElem?_eq_none (by rw[matL_len];omega),if_neg h]
set_option maxRecDepth 100000 in
instance tz_mat:TZ Tryz.prog 116 (List.replicate 4096 (.int .i64 0)):=⟨by kernel_rfl⟩
end Go.Proofs.YtfoggcgogafocaaGreat
end
