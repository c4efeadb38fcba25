/- Texts of this proof, one behind another. -/
import Derived.Test.YtlimglpjpcfpdaaGreatM2
import Derived.Test.YtlimglpjpcfpdaaGreatRows
import Derived.ProofKit
import Derived.OpenShut
import Derived.Deep.Slices
import Derived.ReadAgain
import Derived.Laws.Externs
import Derived.Lib.Bytealg
set_option linter.unusedVariables false
set_option linter.unusedSimpArgs false
section
open Go Mk
namespace Go.Proofs.YtlimglpjpcfpdaaGreat
set_option maxHeartbeats 4000000
attribute [local irreducible] Calls
theorem Fq{Γ:B8}{g N:Nat}{fst cap:Array Value}{R:List A7}{V:List Service→Prop}{w:World}[B5 Tryz.prog g](hseq:SeqC Tryz.prog Γ g fst cap N (fun x:Service=>.agg (enc x).toArray) R V)(hN:N≤1000000)(hw:Wd Γ R w) :
  Calls Tryz.prog 151 #[.slice none 0 0,.func (.func g) fst cap] w fun e w'=>∃v' xs,e=.returned v'∧V xs∧Wd Γ (.own v' 37 4 (xs.map enc)::R) w':=by
 refine(callsIn_wide (n:=0)).1 (callsIn_of_wp_marks Tryz.func151 rfl trivial ?_)
 refine wpIn_seq (HH (n:=Tryz.f151.ntmps) (ds:=[]) ?_ rfl rfl)
 rw[Et (by rfl)]
 refine Y5 (Ud ?_)
 intro bs w hw;refine xY ?_
 refine Cs ?_
 rintro a0 hd0 hs0 hf0
 refine wpIn_seq (wpIn_seq (HH (n:=Tryz.f151.ntmps) (ds:=[]) ?_ hd0 hs0))
 rw[hf0];refine Y5 (xY ?_)
 refine Cs ?_
 rintro a1 hd1 hs1 hf1
 refine wpIn_block (HQ hw (f:=g) (fst:=fst) (cap:=cap) (by rw[N7,hf1];rfl) ?_)
 intro rc r l w hr1 hr2 hr3 hr4 hr5 hr6 hw;refine(hseq l (fun xs=>[.blk l (.loop rc),.blk r (.deferred (some [])),A7.ex fun sv:Value=>[.blk bs (.cells #[sv] 30),.own sv 37 4 (xs.map enc)]]) w ?_ ?_).mono ?_
 ·rintro xs x R' w hN' hw
  have hl:=hw.at_blk (i:=0) rfl
  refine⟨_,_,_,_,run_yield hl (by rw[hr4];rfl),?_⟩
  rw[hr3,hr4,hr5,hr6];rw[ND];refine MZ (n:=Tryz.f151.ntmps) hr1 hr2 (by simpa using hs1) hw ?_
  rw[Rc a1 7 _ (by rw[hs1];decide),hf1]
  refine Y5 (Se ?_)
  intro be w hw;refine OP ?_
  intro w hw;refine Cs ⟨rfl,_,hw.pull (i:=1) rfl,fun w hw=>?_⟩
  obtain⟨sv,hw⟩:=(hw.pull (i:=3) rfl).openEx
  obtain⟨a,n,c,rfl,hn,hnc,hc⟩:=hw.own_shape (i:=1) rfl
  simp only[List.length_map]at hn
  refine Np (Y5 ?_)
  refine xY (v:=.slice a n c) ?_
  refine xY ?_
  refine Io [enc x] ?_
  intro a2 w hw;refine Ue (rows2:=[enc x]) ?_ (Wd.own_rd (i:=0) hw rfl)
  intro v' w hw;obtain⟨a3,n3,c3,rfl,-,-,-⟩:=hw.own_shape (i:=2) rfl
  refine OP ?_
  intro w hw;refine Cs ⟨rfl,_,hw.pull (i:=3) rfl,fun w hw=>⟨rfl,?_⟩⟩
  have hw:=(((hw.dropAt 1).dropAt 3).pull (i:=2) rfl).pull (i:=2) rfl
  have hw:=Wd.closeEx (X:=fun sv:Value=>[.blk bs (.cells #[sv] 30),.own sv 37 4 ((xs++[x]).map enc)]) (.slice a3 n3 c3) (by rw[List.map_append];exact hw)
  exact(hw.pull (i:=2) rfl).pull (i:=2) rfl
 ·have hw:=(Wd.addNil (a:=none) (E:=37) (sz:=4) hw).pull (i:=3) rfl
  have hw:=Wd.closeEx (X:=fun sv:Value=>[.blk bs (.cells #[sv] 30),.own sv 37 4 (([]:List Service).map enc)]) (.slice none 0 0) hw
  exact(hw.pull (i:=2) rfl).pull (i:=2) rfl
 ·rintro e w ⟨he,xs,hV,hw⟩
  refine⟨he,_,hw,fun w hw=>?_⟩
  show Code.wpIn _ _ _ _ _ _ _
  obtain⟨sv,hw⟩:=(hw.pull (i:=1) rfl).openEx
  obtain⟨a,n,c,rfl,hn,hnc,hc⟩:=hw.own_shape (i:=1) rfl
  refine wpIn_seq (HH (n:=Tryz.f151.ntmps) (ds:=[{ target:=.collected r,args:=#[] }]) ?_ (by rw[hd1]) hs1)
  have hfa:C4 ({ tmps:=a1.tmps,defers:={ target:=.collected r,args:=#[] }::a1.defers }:Act)=C4 a1:=rfl
  rw[hfa,hf1];refine Y5 (xY (v:=.slice a n c) ?_)
  refine xY ?_
  refine Cs ?_
  rintro a2 hd2 hs2 hf2
  refine wpIn_ret ?_
  show LeavesInM _ _ _ _ _ _ _ _ _
  rw[hd2];have hr:=hw.at_blk (i:=2) rfl
  have hlt:r<w.heap.size:=(Array.getElem?_eq_some_iff.1 hr).1
  have hw2:=hw.set_blk (i:=2) (w':=w.putObj r (.deferred none)) rfl ⟨rfl,rfl,rfl,Nat.le_refl _,by simp⟩ (World.putObj_heap_same hlt) fun k _ hne=>World.putObj_heap_other hne
  refine⟨by simp,.inl ⟨r,_,rfl,run_takeDeferred hr,?_⟩⟩
  refine⟨.slice a n c,?_,_,xs,rfl,hV,(hw2.dropAt 0).dropAt 1⟩
  have h4:a2.tmps.getD 4 undef=.slice a n c:=by
   show C4 a2 4=_
   rw[hf2];rfl
  rw[←h4];exact results_tmp rfl _ _ _
theorem JP{Γ:B8}{g N:Nat}{fst cap:List Value}{R:List A7}{V:List Service→Prop}{w:World}[B5 Tryz.prog g](hseq:SeqC Tryz.prog Γ g fst.toArray cap.toArray N (fun x:Service=>.agg (enc x).toArray) R V)(hN:N≤1000000)(hw:Wd Γ R w) :
  Calls Tryz.prog 98 #[.func (.func g) fst.toArray cap.toArray] w fun e w'=>∃v' xs,e=.returned v'∧V xs∧Wd Γ (.own v' 37 4 (xs.map enc)::R) w':=by
 refine A3 Tryz.func98 rfl rfl ?_
 repeat first|refine B6 ?_|refine B7 ?_;intro w hw
 refine C5 ?_;refine(Fq hseq hN hw).mono ?_
 rintro e w ⟨v',xs,rfl,hV,hw⟩
 refine⟨_,rfl,?_⟩;repeat first|refine B6 ?_|refine B7 ?_;intro w hw
 exact⟨_,rfl,_,xs,rfl,hV,hw⟩
theorem JA{Γ:B8}{bx bm clock:Nat}{en:Array MapEntry}{R:List A7}{l:List (ByteArray×Service)}[Inhabited Service](he:en.toList.map (fun e=>(e.key,e.val))=l.map fun p=>(.string p.1,O3 p.2))(hb:(en.toList.map (·.born)).Nodup)(hc:∀e∈en.toList,e.born<clock) :
  SeqC Tryz.prog Γ 100 #[] #[.pointer (some ⟨bx,0,none⟩)] l.length (fun x:Service=>.agg (enc x).toArray) (.blk bx (.cells #[.map (some bm)] 79)::.blk bm (.map en clock)::R) (fun xs=>xs.Perm (l.map (·.2))):=by
 intro yl I w hY hw;have hsz:en.size=l.length:=by have:=congrArg List.length he;simpa using this
 refine A3 Tryz.func100 rfl rfl ?_
 have hw:Wd Γ (.blk bx (.cells #[.map (some bm)] 79)::.blk bm (.map en clock)::(I []++R)) w:=hw.perm ((List.perm_middle (l₁:=I [])).trans (List.Perm.cons _ List.perm_middle))
 repeat first|refine B6 ?_|refine B7 ?_;intro w hw
 refine TN ?_;intro r w hw;repeat first|refine B6 ?_|refine B7 ?_;intro w hw
 refine C8 (fun μ ρ w=>∃(seen:Array Nat) (idx:List Nat) (c0:Nat),Seen en seen idx∧μ+idx.length=l.length∧clock≤c0∧Has ρ [(0,.func (.yield yl) #[] #[]),(6,.pointer (some ⟨r,0,none⟩))]∧Wd Γ (.blk r (.mapIter (some bm) clock seen c0)::.blk bx (.cells #[.map (some bm)] 79)::.blk bm (.map en clock)::(I (idx.map fun i=>(l.getD i default).2)++R)) w) l.length ⟨#[],[],clock,Seen.nil,by simp,Nat.le_refl _,⟨rfl,rfl,trivial⟩,hw⟩ ?_
 rintro μ ρ w ⟨seen,idx,c0,hseen,hμ,hc0,hρ,hw⟩
 rw[hρ.eq];repeat first|refine B6 ?_|refine B7 ?_;intro w hw
 refine Tg (fun h0=>?_) (fun e w hmem hw=>?_) hc hc0
 ·repeat first|refine B6 ?_|refine B7 ?_;intro w hw
  refine F2 rfl ?_
  repeat first|refine B6 ?_|refine B7 ?_;intro w hw
  have hp:=hseen.all hb h0
  refine⟨_,rfl,⟨_,rfl⟩,idx.map fun i=>(l.getD i default).2,?_,hw.drop.perm ?_⟩
  ·have:=hp.map fun i=>(l.getD i default).2
   rw[hsz,range_map_get l default (·.2)]at this;exact this
  ·exact(((List.perm_middle (l₁:=I (idx.map fun i=>(l.getD i default).2))).trans (List.Perm.cons _ List.perm_middle))).symm
 ·obtain⟨i,hie,hin,hil,hseen'⟩:=hseen.next hmem
  have hem:e∈en.toList:=(FV.1 hmem).1
  obtain⟨⟨k,x⟩,hlx⟩:=C0 (l:=l) (k:=i) (by omega)
  have hev:e.val=O3 x:=by
   have h1:(en.toList.map (fun e=>(e.key,e.val)))[i]? = some (e.key,e.val):=by rw[List.getElem?_map,Array.getElem?_toList,hie];rfl
   rw[he,List.getElem?_map,hlx]at h1;simp at h1
   exact h1.2.symm
  have hxx:(l.getD i default).2=x:=by simp[List.getD_eq_getElem?_getD,hlx]
  have hlen:=hseen'.len
  repeat first|refine B6 ?_|refine B7 ?_;intro w hw
  refine E6 rfl ?_
  repeat first|refine B6 ?_|refine B7 ?_;intro w hw
  refine Sx ?_ hem hb
  rw[hev];repeat first|refine B6 ?_|refine B7 ?_;intro w hw
  refine B2 ?_;intro be w hw;refine B0 ?_;intro w hw;refine U5 ?_
  refine W7 ?_
  refine Le ?_
  refine xY ?_
  refine xY ?_
  refine Pn (x:=x) (xs:=idx.map fun i=>(l.getD i default).2) (R:=.blk be (.cells (enc x).toArray 37)::.blk r (.mapIter (some bm) clock (seen.push e.born) clock)::.blk bx (.cells #[.map (some bm)] 79)::.blk bm (.map en clock)::R) hY (by simp at *;omega) ?_ ?_
  ·exact Wd.swapApp (A:=[_,_,_,_]) (B:=I (idx.map fun i=>(l.getD i default).2)) (C:=R) hw
  intro w hw;refine xY ?_
  refine Cs ?_
  repeat first|refine B6 ?_|refine B7 ?_;intro w hw
  refine F2 rfl ?_
  repeat first|refine B6 ?_|refine B7 ?_;intro w hw
  refine⟨μ-1,by simp at *;omega,seen.push e.born,idx++[i],clock,hseen',by simp at *;omega,Nat.le_refl _,⟨rfl,rfl,trivial⟩,?_⟩
  rw[List.map_append,List.map_singleton,hxx];have hw:=Wd.swapApp (A:=I ((idx.map fun i=>(l.getD i default).2)++[x])) (B:=[_,_,_,_]) (C:=R) hw
  exact hw.drop
theorem JV{Γ:B8}{S:List A7}{w:World}{m:Value}(hw:Wd Γ S w) :
  Calls Tryz.prog 44 #[m] w fun e w'=>∃bx,e=.returned (.func (.func 100) #[] #[.pointer (some ⟨bx,0,none⟩)])∧Wd Γ (.blk bx (.cells m.cells 79)::S) w':=by
 refine A3 Tryz.func44 rfl rfl ?_
 repeat first|refine B6 ?_|refine B7 ?_;intro w hw
 refine E5 ?_;intro bx w hw;repeat first|refine B6 ?_|refine B7 ?_;intro w hw
 exact⟨_,rfl,bx,rfl,hw⟩
def IQ(a b:ByteArray):Int:=if V9 a b=true then -1 else if V9 b a=true then 1 else 0
instance (s:ByteArray):PC Tryz.prog 101 [.string s] (.bool false):=⟨fun w=>by
 refine A3 Tryz.func101 rfl rfl ?_
 refine A4 ?_;exact⟨_,rfl,G7 rfl (by simp),rfl⟩⟩
instance (a b:ByteArray):PC Tryz.prog 46 [.string a,.string b] (.int .i64 (IQ a b)):=⟨fun w=>by
 refine A3 Tryz.func46 rfl rfl ?_
 repeat first|refine B6 ?_|refine B7 ?_;intro w hw
 refine F2 rfl ?_
 repeat first|refine B6 ?_|refine B7 ?_;intro w hw
 refine F2 rfl ?_
 repeat first|refine B6 ?_|refine B7 ?_;intro w hw
 refine A0 rfl (fun h=>?_) (fun h=>?_)
 ·repeat first|refine B6 ?_|refine B7 ?_;intro w hw
  exact⟨_,rfl,C9 rfl (by simp[IQ,h]),rfl⟩
 repeat first|refine B6 ?_|refine B7 ?_;intro w hw
 refine A0 rfl (fun h2=>?_) (fun h2=>?_)
 ·repeat first|refine B6 ?_|refine B7 ?_;intro w hw
  exact⟨_,rfl,C9 rfl (by simp[IQ,h,h2]),rfl⟩
 ·repeat first|refine B6 ?_|refine B7 ?_;intro w hw
  exact⟨_,rfl,C9 rfl (by simp[IQ,h,h2]),rfl⟩⟩
theorem GA(Γ:B8)(S:List A7)(w:World)(a b:Service)(hw:Wd Γ S w):Calls Tryz.prog 45 #[.agg (enc a).toArray,.agg (enc b).toArray] w fun e w'=>e=.returned (.int .i64 (IQ a.Name b.Name))∧∃S',Wd Γ S' w':=by
 refine A3 Tryz.func45 rfl rfl ?_
 repeat first|refine B6 ?_|refine B7 ?_;intro w hw
 refine E5 ?_;intro b1 w hw;refine E5 ?_;intro b2 w hw;repeat first|refine B6 ?_|refine B7 ?_;intro w hw
 exact⟨_,rfl,rfl,_,hw⟩
theorem GI:Go.Proofs.ltOf (fun a b:Service=>IQ a.Name b.Name)=fun a b=>V9 a.Name b.Name:=by
 funext a b
 unfold Go.Proofs.ltOf IQ;cases h:V9 a.Name b.Name with
 | true=>simp[h]
 | false=>cases h2:V9 b.Name a.Name <;> simp[h,h2]
theorem HE{Γ:B8}{S:List A7}{w:World}{i:Nat}(xs:List Service)(v:Value)(hw:Wd Γ S w)(hi:S[i]? = some (.own v 37 4 (xs.map enc)))(hlen:xs.length≤1000000) :
  Calls Tryz.prog 99 #[v,.func (.func 45) #[] #[]] w fun e w'=>e=.returned (.tuple #[])∧∃ys:List Service,ys.Perm xs∧(ys.Pairwise fun a b=>V9 b.Name a.Name=false)∧Wd Γ (S.set i (.own v 37 4 (ys.map enc))) w':=by
 have:=Ep (enc:=(enc:Service→List Value)) Re (fun a b:Service=>IQ a.Name b.Name) 45 [] xs v hw hi (fun _=>rfl) (fun x u hu=>by simp[enc,EF.enc]at hu;rcases hu with rfl|rfl|rfl|rfl <;> rfl) (by show TA Tryz.prog 37 4;infer_instance)
  (by rw[GI];exact⟨fun x=>P2 _,fun x y z h k=>l9 h k,fun x y z h k=>by
   cases hh:V9 x.Name z.Name with
   | false=>rfl
   | true=>
    cases h2:V9 y.Name x.Name with
    | true=>have:=l9 h2 hh;rw[this]at k;cases k
    | false=>rw[l7 h h2]at hh;rw[hh]at k;cases k⟩)
  (by omega) (fun dk w' hw' x y=>GA (d9 w') [] w' x y (Cf w'))
 rw[GI]at this;exact this
structure H9(m:List (ByteArray×Service))(ys:List Service):Prop where
 perm:ys.Perm (m.map (·.2))
 asc:ys.Pairwise fun a b=>V9 b.Name a.Name=false
theorem X6(Γ:B8)(S:List A7)(w:World)(b bm:Nat)(vs:Value)(m:List (ByteArray×Service))(ws:List B4)(hm:m.length≤64)(hw:Wd Γ (D4 b bm vs m ws++S) w) :
  Calls Tryz.prog 11 #[.pointer (some ⟨b,0,none⟩)] w fun e w'=>∃v ys,e=.returned v∧H9 m ys∧Wd Γ (.own v 37 4 (ys.map enc)::(D4 b bm vs m ws++S)) w':=by
 unfold D4 at *
 refine A3 Tryz.func11 rfl rfl ?_
 repeat first|refine B6 ?_|refine B7 ?_;intro w hw
 refine C5 ?_;refine(JV hw).mono ?_
 rintro e w ⟨bx,rfl,hw⟩
 refine⟨_,rfl,?_⟩;repeat first|refine B6 ?_|refine B7 ?_;intro w hw
 refine C5 ?_;refine A3 Tryz.func43 rfl rfl ?_
 repeat first|refine B6 ?_|refine B7 ?_;intro w hw
 refine C5 ?_;obtain⟨en,clock,hw,he,hb,hc⟩:=Wd.openMp (hw.pull (i:=2) rfl)
 refine(JP (cap:=[.pointer (some ⟨bx,0,none⟩)]) (fst:=[]) (JA (bx:=bx) (bm:=bm) (l:=m) he hb hc) (by omega) (hw.pull (i:=1) rfl)).mono ?_
 rintro e w ⟨v',xs,rfl,hV,hw⟩
 refine⟨_,rfl,?_⟩;repeat first|refine B6 ?_|refine B7 ?_;intro w hw
 refine C5 ?_;refine(HE xs v' hw (i:=0) rfl (by have:=hV.length_eq;simp at this;omega)).mono ?_
 rintro e w ⟨rfl,ys,hp,hs,hw⟩
 refine⟨_,rfl,?_⟩;repeat first|refine B6 ?_|refine B7 ?_;intro w hw
 refine⟨_,rfl,_,rfl,?_⟩
 repeat first|refine B6 ?_|refine B7 ?_;intro w hw
 refine⟨_,rfl,v',ys,rfl,⟨hp.trans hV,hs⟩,?_⟩
 have hw:=Wd.closeMp (hw.pull (i:=2) rfl) he hb hc
 exact(((hw.pull (i:=1) rfl).dropAt 2).pull (i:=2) rfl).pull (i:=1) rfl
theorem LE(Γ:B8)(S:List A7)(w:World)(hw:Wd Γ S w) :
  Calls Tryz.prog 5 #[] w fun e w'=>∃b bm,e=.returned (.pointer (some ⟨b,0,none⟩))∧Wd Γ (D4 b bm (.slice none 0 0) [] []++S) w':=by
 refine A3 Tryz.func5 rfl rfl ?_
 refine A4 ?_;refine Me O3 ?_
 intro bm w hw;refine A4 ?_;refine E5 ?_;intro b w hw;refine A4 ?_;refine⟨_,rfl,b,bm,rfl,?_⟩
 have hw:=(Wd.addNil (a:=none) (E:=39) (sz:=3) hw).pull (i:=2) rfl
 exact hw.pull (i:=2) rfl
def X4(m:List (ByteArray×Service))(name:ByteArray)(core:Int):Int:=match D2 m name with|none=>17|some v=>if v.Core=core then 0 else 8
def Hc(m:List (ByteArray×Service))(name:ByteArray)(core:Int):List (ByteArray×Service):=if X4 m name core=0 then U9 m name else m
theorem FT(Γ:B8)(S:List A7)(w:World)(b bm:Nat)(vs:Value)(m:List (ByteArray×Service))(ws:List B4)(name:ByteArray)(core:Int)(hw:Wd Γ (D4 b bm vs m ws++S) w) :
  Calls Tryz.prog 28 #[.pointer (some ⟨b,0,none⟩),.string name,.int .i64 core] w fun e w'=>e=.returned (.int .i64 (X4 m name core))∧Wd Γ (D4 b bm vs (Hc m name core) ws++S) w':=by
 unfold D4 at *
 refine A3 Tryz.func28 rfl rfl ?_
 repeat first|refine B6 ?_|refine B7 ?_;intro w hw
 refine B2 ?_;intro be w hw;refine B0 ?_;intro w hw;repeat first|refine B6 ?_|refine B7 ?_;intro w hw
 refine A0 rfl (fun h1=>?_) (fun h1=>?_)
 ·repeat first|refine B6 ?_|refine B7 ?_;intro w hw
  have h2:D2 m name=none:=by cases hg:D2 m name <;> simp[hg]at h1 ⊢
  refine⟨_,rfl,C9 rfl (by simp[X4,h2]),?_⟩
  rw[show Hc m name core=m from by simp[Hc,X4,h2]]
  exact hw.drop
 obtain⟨v,hv⟩:∃v,D2 m name=some v:=by cases hg:D2 m name <;> simp[hg]at h1 ⊢
 rw[hv]at hw;repeat first|refine B6 ?_|refine B7 ?_;intro w hw
 refine A0 rfl (fun h2=>?_) (fun h2=>?_)
 ·repeat first|refine B6 ?_|refine B7 ?_;intro w hw
  have h2:¬v.Core=core:=of_decide_eq_true h2
  refine⟨_,rfl,C9 rfl (by simp[X4,hv,h2]),?_⟩
  rw[show Hc m name core=m from by simp[Hc,X4,hv,h2]]
  exact hw.drop
 have h2:v.Core=core:=by simpa using h2
 repeat first|refine B6 ?_|refine B7 ?_;intro w hw
 refine Ti ?_;intro w hw;repeat first|refine B6 ?_|refine B7 ?_;intro w hw
 refine⟨_,rfl,C9 rfl (by simp[X4,hv,h2]),?_⟩
 rw[show Hc m name core=U9 m name from by simp[Hc,X4,hv,h2]]
 exact hw.drop
def BW(m:List (ByteArray×Service))(name:ByteArray):Int:=if (D2 m name).isSome then 0 else 17
theorem Kd(Γ:B8)(S:List A7)(w:World)(b bm:Nat)(vs:Value)(m:List (ByteArray×Service))(ws:List B4)(name:ByteArray)(hw:Wd Γ (D4 b bm vs m ws++S) w) :
  Calls Tryz.prog 30 #[.pointer (some ⟨b,0,none⟩),.string name] w fun e w'=>e=.returned (.tuple #[O3 ((D2 m name).getD default),.int .i64 (BW m name)])∧Wd Γ (D4 b bm vs m ws++S) w':=by
 unfold D4 at *
 refine F8 Tryz.func30 rfl rfl ?_
 repeat(first|refine B6 ?_|(refine B7 ?_;intro w hw)|(refine B2 ?_;intro _ w hw)|(refine E5 ?_;intro _ w hw)|(refine B0 ?_;intro w hw))
 refine A0 rfl (fun h1=>?_) (fun h1=>?_)
 ·repeat(first|refine B6 ?_|(refine B7 ?_;intro w hw)|(refine B2 ?_;intro _ w hw)|(refine E5 ?_;intro _ w hw)|(refine B0 ?_;intro w hw))
  have h2:D2 m name=none:=by cases hg:D2 m name <;> simp[hg]at h1 ⊢
  refine⟨[O3 ((D2 m name).getD default),.int .i64 (BW m name)],⟨?_,?_,trivial⟩,rfl,hw.drop.drop⟩
  ·rw[h2];exact J6 (i:=1) hw rfl rfl rfl
  ·simp[BW,h2];rfl
 ·have h2:(D2 m name).isSome=true:=by simpa using h1
  repeat(first|refine B6 ?_|(refine B7 ?_;intro w hw)|(refine B2 ?_;intro _ w hw)|(refine E5 ?_;intro _ w hw)|(refine B0 ?_;intro w hw))
  refine⟨[O3 ((D2 m name).getD default),.int .i64 (BW m name)],⟨?_,?_,trivial⟩,rfl,hw.drop.drop⟩
  ·exact J6 (i:=1) hw rfl rfl rfl
  ·simp[BW,h2];rfl
def Q7(m:List (ByteArray×Service))(ws:List B4)(x:B4):Int:=
 if F9 x.Name=false then 63 else if (!BZ x.Core||decide (x.Token≤0))=true then 1 else if (ws.findIdx? (KJ x.Token x.Core)).isSome then 56 else if (D2 m x.Name).isNone∧ws.length=64 then 15 else 0
def JR(m:List (ByteArray×Service))(ws:List B4)(x:B4):List B4:=if Q7 m ws x=0∧(D2 m x.Name).isNone then ws++[x] else ws
def Ll(m:List (ByteArray×Service))(ws:List B4)(x:B4):Bool:=decide (Q7 m ws x=0)&&(D2 m x.Name).isSome
def Lr(m:List (ByteArray×Service))(ws:List B4)(x:B4):Service:=if Q7 m ws x=0 then (D2 m x.Name).getD default else default
theorem DL{o:Option Nat}:decide (0≤Hf o)=o.isSome:=by cases o <;> simp[Hf]
theorem GE(Γ:B8)(S:List A7)(w:World)(b bm:Nat)(vs:Value)(m:List (ByteArray×Service))(ws:List B4)(x:B4)[SB x.Name](hws:ws.length≤64)(hw:Wd Γ (D4 b bm vs m ws++S) w) :
  Calls Tryz.prog 22 #[.pointer (some ⟨b,0,none⟩),.agg (enc x).toArray] w fun e w'=>∃vs',e=.returned (.tuple #[O3 (Lr m ws x),.bool (Ll m ws x),.int .i64 (Q7 m ws x)])∧Wd Γ (D4 b bm vs' m (JR m ws x)++S) w':=by
 have hw0:=hw
 unfold D4 at hw;obtain⟨a,n,c,rfl,hn,hnc,hc⟩:=hw.own_shape (i:=2) rfl
 simp only[List.length_map]at hn
 refine F8 Tryz.func22 rfl rfl ?_
 repeat first|refine B6 ?_|refine B7 ?_;intro w hw
 refine E5 ?_;intro bx w hw;refine B2 ?_;intro br w hw;repeat first|refine B6 ?_|refine B7 ?_;intro w hw
 refine j6 _ [_] [[],[],[],[],[],[],[],[],[],[],[0],[]] [[],[],[],[],[],[],[],[],[],[],[0],[]] hw.toEnd ?_
 repeat(first|refine mY ?_|refine mP ?_|refine D9 ?_|refine G6 ?_|refine K3 ?_)
 refine Q2 ?_
 repeat(first|refine mY ?_|refine mP ?_|refine D9 ?_|refine G6 ?_|refine K3 ?_)
 intro w hw;have hw:=hw.toFront
 repeat first|refine B6 ?_|refine B7 ?_;intro w hw
 have fin:∀ {e:Int} {w} {S':List A7},Q7 m ws x=e→e≠0→Wd Γ (S'++(D4 b bm (.slice a n c) m ws++S)) w→Wd Γ (D4 b bm (.slice a n c) m (JR m ws x)++S) w∧Ll m ws x=false∧Lr m ws x=default:=fun h1 h2 h3=>by
  subst h1;exact⟨by rw[show JR m ws x=ws from by simp[JR,h2]];exact h3.right,by simp[Ll,h2],by simp[Lr,h2]⟩
 refine A0 rfl (fun h1=>?_) (fun h1=>?_)
 ·have hE:Q7 m ws x=63:=by simp[Q7,show F9 x.Name=false from by simpa using h1]
  repeat first|refine B6 ?_|refine B7 ?_;intro w hw
  refine E6 rfl ?_
  repeat(first|refine B6 ?_|(refine B7 ?_;intro w hw)|(refine B2 ?_;intro _ w hw)|(refine E5 ?_;intro _ w hw)|(refine B0 ?_;intro w hw))
  obtain⟨f1,f2,f3⟩:=fin (S':=[_,_]) hE (by decide) hw
  rw[f2,f3,hE];exact⟨[O3 default,.bool false,.int .i64 63],⟨J6 (i:=0) hw rfl rfl rfl,rfl,rfl,trivial⟩,_,rfl,f1⟩
 have h1:F9 x.Name=true:=by simpa using h1
 repeat first|refine B6 ?_|refine B7 ?_;intro w hw
 refine A0 rfl (fun h2=>?_) (fun h2=>?_)
 ·have h2:(!BZ x.Core||decide (x.Token≤0))=true:=h2
  have hE:Q7 m ws x=1:=by simp only[Q7,h1,h2];simp
  repeat first|refine B6 ?_|refine B7 ?_;intro w hw
  refine E6 rfl ?_
  repeat(first|refine B6 ?_|(refine B7 ?_;intro w hw)|(refine B2 ?_;intro _ w hw)|(refine E5 ?_;intro _ w hw)|(refine B0 ?_;intro w hw))
  obtain⟨f1,f2,f3⟩:=fin (S':=[_,_]) hE (by decide) hw
  rw[f2,f3,hE];exact⟨[O3 default,.bool false,.int .i64 1],⟨J6 (i:=0) hw rfl rfl rfl,rfl,rfl,trivial⟩,_,rfl,f1⟩
 have h2:(!BZ x.Core||decide (x.Token≤0))=false:=h2
 repeat first|refine B6 ?_|refine B7 ?_;intro w hw
 refine C5 ?_;refine(Ee Γ ([A7.blk br _,A7.blk bx _]++S) w b bm _ m ws x.Token x.Core (Wd.swapApp (A:=[_,_]) hw)).mono ?_
 rintro e w ⟨rfl,hw⟩
 have hw:=Wd.swapApp (B:=[_,_]) hw
 refine⟨_,rfl,?_⟩;repeat first|refine B6 ?_|refine B7 ?_;intro w hw
 refine A0 rfl (fun h3=>?_) (fun h3=>?_)
 ·rw[DL]at h3;have hE:Q7 m ws x=56:=by simp only[Q7,h1,h2,h3];simp
  repeat first|refine B6 ?_|refine B7 ?_;intro w hw
  refine E6 rfl ?_
  repeat(first|refine B6 ?_|(refine B7 ?_;intro w hw)|(refine B2 ?_;intro _ w hw)|(refine E5 ?_;intro _ w hw)|(refine B0 ?_;intro w hw))
  obtain⟨f1,f2,f3⟩:=fin (S':=[_,_]) hE (by decide) hw
  rw[f2,f3,hE];exact⟨[O3 default,.bool false,.int .i64 56],⟨J6 (i:=0) hw rfl rfl rfl,rfl,rfl,trivial⟩,_,rfl,f1⟩
 rw[DL]at h3;repeat first|refine B6 ?_|refine B7 ?_;intro w hw
 unfold D4 at hw;repeat first|refine B6 ?_|refine B7 ?_;intro w hw
 refine A0 rfl (fun h4=>?_) (fun h4=>?_)
 ·have h4:(!(D2 m x.Name).isSome&&decide ((n:Int)=64))=true:=h4
  have hE:Q7 m ws x=15:=by
   simp only[Bool.and_eq_true,Bool.not_eq_true',decide_eq_true_eq]at h4
   have h5:(D2 m x.Name).isNone=true:=by rw[←Option.not_isSome];simp[h4.1]
   simp only[Q7,h1,h2,h3]
   simp[h5];omega
  repeat first|refine B6 ?_|refine B7 ?_;intro w hw
  refine E6 rfl ?_
  repeat(first|refine B6 ?_|(refine B7 ?_;intro w hw)|(refine B2 ?_;intro _ w hw)|(refine E5 ?_;intro _ w hw)|(refine B0 ?_;intro w hw))
  obtain⟨f1,f2,f3⟩:=fin (S':=[_,_]) hE (by decide) hw
  rw[f2,f3,hE];exact⟨[O3 default,.bool false,.int .i64 15],⟨J6 (i:=0) hw rfl rfl rfl,rfl,rfl,trivial⟩,_,rfl,f1⟩
 have h4:(!(D2 m x.Name).isSome&&decide ((n:Int)=64))=false:=h4
 have hE:Q7 m ws x=0:=by
  simp only[Q7,h1,h2,h3]
  cases hg:(D2 m x.Name).isSome with
  | true=>have:(D2 m x.Name).isNone=false:=by rw[←Option.not_isSome,hg];rfl
          simp[this]
  | false=>
   rw[hg]at h4;have:¬(n:Int)=64:=by simpa using h4
   simp;intro;omega
 repeat first|refine B6 ?_|refine B7 ?_;intro w hw
 refine A0 rfl (fun h5=>?_) (fun h5=>?_)
 ·have h5:(D2 m x.Name).isSome=false:=by simpa using h5
  refine HW [_,_,_] _ [[],[],[],[],[],[],[1],[0],[],[],[0]] [[],[],[],[],[0],[],[1],[0,1],[],[],[0]] [[61],[60]] (hw.ps [3]) ?_
  repeat(first|refine mY ?_|refine mP ?_|refine D9 ?_|refine G6 ?_|refine K3 ?_)
  refine FW [enc x] ?_
  refine RQ ?_
  repeat(first|refine mY ?_|refine mP ?_|refine D9 ?_|refine G6 ?_|refine K3 ?_)
  refine EJ ?_
  refine K3 fun w g hw=>?_
  have hw:Wd Γ (A7.blk br _::A7.blk bx _::.blk b (.cells #[.map (some bm),g 61] 81)::A7.ms O3 bm m::.own (g 61) 39 3 (ws.map enc++[enc x])::S) w:=(Wd.dropEnd hw).ps [4,1,4,4,4]
  rw[show ws.map enc++[enc x]=(ws++[x]).map enc from by simp]at hw
  generalize g 61=vs' at hw
  repeat first|refine B6 ?_|refine B7 ?_;intro w hw
  refine F2 rfl ?_
  repeat(first|refine B6 ?_|(refine B7 ?_;intro w hw)|(refine B2 ?_;intro _ w hw)|(refine E5 ?_;intro _ w hw)|(refine B0 ?_;intro w hw))
  have h6:D2 m x.Name=none:=by simpa using h5
  refine⟨[O3 default,.bool false,.int .i64 0],⟨?_,by show Value.bool (D2 m x.Name).isSome=_;rw[h6];rfl,rfl,trivial⟩,vs',?_,?_⟩
  ·rw[h6]at hw;exact J6 (i:=0) hw rfl rfl rfl
  ·rw[show Lr m ws x=default from by simp[Lr,h6],show Ll m ws x=false from by simp[Ll,h6],hE];rfl
  ·rw[show JR m ws x=ws++[x] from by simp[JR,hE,h6]]
   exact hw.drop.drop
 ·have h5:(D2 m x.Name).isSome=true:=by simpa using h5
  repeat first|refine B6 ?_|refine B7 ?_;intro w hw
  refine F2 rfl ?_
  repeat(first|refine B6 ?_|(refine B7 ?_;intro w hw)|(refine B2 ?_;intro _ w hw)|(refine E5 ?_;intro _ w hw)|(refine B0 ?_;intro w hw))
  obtain⟨v,hv⟩:=Option.isSome_iff_exists.1 h5
  refine⟨[O3 v,.bool true,.int .i64 0],⟨?_,?_,rfl,trivial⟩,.slice a n c,?_,?_⟩
  ·rw[hv]at hw;exact J6 (i:=0) hw rfl rfl rfl
  ·show Value.bool (D2 m x.Name).isSome=_
   rw[h5]
  ·rw[show Lr m ws x=v from by simp[Lr,hE,hv],show Ll m ws x=true from by simp[Ll,hE,hv],hE];rfl
  ·rw[show JR m ws x=ws from by simp[JR,hv]]
   exact hw.drop.drop
theorem MB{Γ:B8}{S:List A7}{w:World}{v:Value}{xs:List B4}(hw:Wd Γ S w)(hr:O9 Γ S v 3 (xs.map enc))(hN:xs.length≤1000000) :
  Calls Tryz.prog 79 #[v] w fun e w'=>∃v',e=.returned v'∧Wd Γ (.own v' 39 3 (xs.map enc)::S) w':=by
 obtain⟨a,n,c,rfl,hn,hnc,hc⟩:=hr.shape;simp only[List.length_map]at hn
 refine A3 Tryz.func79 rfl rfl ?_
 repeat first|refine B6 ?_|refine B7 ?_;intro w hw
 refine A0 rfl (fun h=>?_) (fun h=>?_)
 ·repeat first|refine B6 ?_|refine B7 ?_;intro w hw
  have hx:xs=[]:=by
   cases a with
   | none=>
    cases xs with
    | nil=>rfl
    | cons x xs=>have:=(hr.rd hw).at_ (by simp);cases this
   | some a=>cases h
  subst hx;exact⟨_,rfl,_,rfl,Wd.addNil hw⟩
 ·repeat first|refine B6 ?_|refine B7 ?_;intro w hw
  refine D7 [] ?_
  intro a2 w hw;repeat first|refine B6 ?_|refine B7 ?_;intro w hw
  refine Bp (i:=0) (rows2:=xs.map enc) ?_ ((O9.cons hr).rd hw) rfl rfl hw rfl (CV xs) (by simpa using hn)
  intro v' w hw;repeat first|refine B6 ?_|refine B7 ?_;intro w hw
  exact⟨_,rfl,v',rfl,by simpa using hw⟩
theorem KB{Γ:B8}{S:List A7}{w:World}{v:Value}{xs:List B4}(k:Nat)(hw:Wd Γ (.own v 39 3 (xs.map enc)::S) w)(hk:k<xs.length)(hN:xs.length≤1000000) :
  Calls Tryz.prog 85 #[v,.int .i64 k,.int .i64 (k+1:Nat)] w fun e w'=>∃v',e=.returned v'∧Wd Γ (.own v' 39 3 ((xs.eraseIdx k).map enc)::S) w':=by
 obtain⟨a,n,c,rfl,hn,hnc,hc⟩:=hw.own_shape (i:=0) rfl
 simp only[List.length_map]at hn
 refine A3 Tryz.func85 rfl rfl ?_
 repeat first|refine B6 ?_|refine B7 ?_;intro w hw
 refine F2 (by simp[ev,C3,upd];omega) ?_
 repeat first|refine B6 ?_|refine B7 ?_;intro w hw
 refine j6 [] (.own (.slice a n c) 39 3 (xs.map enc)::S) [[],[],[],[],[],[],[0],[]] [[],[],[],[],[],[],[0],[]] hw ?_
 repeat(first|refine mY ?_|refine mP ?_|refine D9 ?_|refine G6 ?_|refine K3 ?_)
 refine mM (v:=.slice a (k+(n-(k+1))) c) (fun _=>.own (.slice a (k+(n-(k+1))) c) 39 3 ((xs.eraseIdx k).map enc)::S) (fun Y w g hw=>?_) ?_
 ·have hrd:=(Wd.own_rd (i:=0) hw rfl).cut (c:=c) (by simp;omega) (k+1) (by simp;omega)
  have hw2:=Wd.own_take (i:=0) (m:=k) hw rfl (by omega)
  refine BB (i:=0) hw2 rfl rfl rfl hrd (by simp;omega) (fun u hu=>?_) (by omega) (by omega) fun v' w' hfit hw'=>?_
  ·have:=List.all_eq_true.1 (CV (xs.drop (k+1))) u
   rw[List.map_drop]at this;exact this hu
  ·have hv:=hfit (by show k+(n-(k+1))≤c;omega)
   have hv:v'=.slice a (k+(n-(k+1))) c:=hv
   subst hv;refine⟨?_,fun _=>rfl⟩
   have he:(xs.map enc).take k++(xs.map enc).drop (k+1)=(xs.eraseIdx k).map enc:=by
    rw[←List.map_take,←List.map_drop,←List.map_append,List.eraseIdx_eq_take_drop_succ]
   rw[he]at hw';exact hw'
 repeat(first|refine mY ?_|refine mP ?_|refine D9 ?_|refine G6 ?_|refine K3 ?_)
 intro w hw;have hw:Wd Γ (.own (.slice a (k+(n-(k+1))) c) 39 3 ((xs.eraseIdx k).map enc)::S++[]) w:=hw
 rw[List.append_nil]at hw;repeat first|refine B6 ?_|refine B7 ?_;intro w hw
 refine HG ?_;intro w hw;repeat first|refine B6 ?_|refine B7 ?_;intro w hw
 exact⟨_,rfl,_,rfl,hw⟩
theorem Ht(Γ:B8)(S:List A7)(w:World)(b bm:Nat)(vs:Value)(m:List (ByteArray×Service))(ws:List B4)(hws:ws.length≤64)(hw:Wd Γ (D4 b bm vs m ws++S) w) :
  Calls Tryz.prog 24 #[.pointer (some ⟨b,0,none⟩)] w fun e w'=>∃v,e=.returned v∧Wd Γ (.own v 39 3 (ws.map enc)::(D4 b bm vs m ws++S)) w':=by
 unfold D4 at *
 obtain⟨a,n,c,rfl,hn,hnc,hc⟩:=hw.own_shape (i:=2) rfl
 refine A3 Tryz.func24 rfl rfl ?_
 repeat first|refine B6 ?_|refine B7 ?_;intro w hw
 refine C5 ?_;refine(MB hw (O9.own (i:=2) hw rfl) (by omega)).mono ?_
 rintro e w ⟨v,rfl,hw⟩
 refine⟨_,rfl,?_⟩;repeat first|refine B6 ?_|refine B7 ?_;intro w hw
 exact⟨_,rfl,_,rfl,hw⟩
def x9(ws:List B4)(token core:Int):Int:=if (ws.findIdx? (KJ token core)).isSome then 0 else 17
def Hj(ws:List B4)(token core:Int):List B4:=match ws.findIdx? (KJ token core) with|some k=>ws.eraseIdx k|none=>ws
theorem U8{α:Type}{p:α→Bool}{l:List α}{k:Nat}(h:l.findIdx? p=some k):k<l.length:=(List.findIdx?_eq_some_iff_getElem.1 h).1
theorem KO(Γ:B8)(S:List A7)(w:World)(b bm:Nat)(vs:Value)(m:List (ByteArray×Service))(ws:List B4)(token core:Int)(hws:ws.length≤64)(hw:Wd Γ (D4 b bm vs m ws++S) w) :
  Calls Tryz.prog 33 #[.pointer (some ⟨b,0,none⟩),.int .i64 token,.int .i64 core] w fun e w'=>∃vs',e=.returned (.int .i64 (x9 ws token core))∧Wd Γ (D4 b bm vs' m (Hj ws token core)++S) w':=by
 refine A3 Tryz.func33 rfl rfl ?_
 repeat first|refine B6 ?_|refine B7 ?_;intro w hw
 refine C5 ?_;refine(Ee Γ S w b bm vs m ws token core hw).mono ?_
 rintro e w ⟨rfl,hw⟩
 refine⟨_,rfl,?_⟩;unfold D4 at hw;obtain⟨a,n,c,rfl,hn,hnc,hc⟩:=hw.own_shape (i:=2) rfl
 simp only[List.length_map]at hn
 cases hf:ws.findIdx? (KJ token core) with
 | none=>
  repeat first|refine B6 ?_|refine B7 ?_;intro w hw
  refine E6 rfl ?_
  repeat first|refine B6 ?_|refine B7 ?_;intro w hw
  refine⟨_,rfl,.slice a n c,C9 rfl (by simp[x9,hf]),?_⟩
  rw[show Hj ws token core=ws from by simp[Hj,hf]]
  exact hw
 | some k=>
  have hk:=U8 hf
  have hz:Hf (some k)=(k:Int):=rfl
  repeat first|refine B6 ?_|refine B7 ?_;intro w hw
  refine A0 rfl (fun h=>absurd h (by simp[hz])) (fun _=>?_)
  repeat first|refine B6 ?_|refine B7 ?_;intro w hw
  refine C5 ?_;refine(KB k (hw.ps [2]) hk (by omega)).mono ?_
  rintro e w ⟨v',rfl,hw⟩
  obtain⟨a',n',c',rfl,-,-,-⟩:=hw.own_shape (i:=0) rfl
  refine⟨_,rfl,?_⟩;repeat(first|refine B6 ?_|(refine B7 ?_;intro w hw)|(refine B2 ?_;intro _ w hw)|(refine E5 ?_;intro _ w hw)|(refine B0 ?_;intro w hw))
  refine⟨_,rfl,.slice a' n' c',C9 rfl (by simp[x9,hf]),?_⟩
  rw[show Hj ws token core=ws.eraseIdx k from by simp[Hj,hf]]
  exact hw.ps [2,2]
def P8(c:Int)(x:B4):Bool:=decide (x.Core=c)
theorem Hu(Γ:B8)(S:List A7)(w:World)(bc:Nat)(core:Int)(x:B4)(hw:Wd Γ (.blk bc (.cells #[.int .i64 core] 3)::S) w) :
  Calls Tryz.prog 86 #[.agg (enc x).toArray,.pointer (some ⟨bc,0,none⟩)] w fun e w'=>e=.returned (.bool (P8 core x))∧Wd Γ (.blk bc (.cells #[.int .i64 core] 3)::S) w':=by
 refine A3 Tryz.func86 rfl rfl ?_
 repeat(first|refine B6 ?_|(refine B7 ?_;intro w hw)|(refine B2 ?_;intro _ w hw)|(refine E5 ?_;intro _ w hw)|(refine B0 ?_;intro w hw))
 exact⟨_,rfl,rfl,hw.drop⟩
def I4(c:Int)(x:Service):Bool:=decide (x.Core=c)
def U0(m:List (ByteArray×Service))(l:List Service):List (ByteArray×Service):=l.foldl (fun m v=>U9 m v.Name) m
theorem Jb(Γ:B8)(S:List A7)(w:World)(b bm:Nat)(vs:Value)(m:List (ByteArray×Service))(ws:List B4)(core:Int)(hm:m.length≤64)(hw:Wd Γ (D4 b bm vs m ws++S) w) :
  Calls Tryz.prog 36 #[.pointer (some ⟨b,0,none⟩),.int .i64 core] w fun e w'=>∃v ys vs',e=.returned v∧H9 m ys ∧
   Wd Γ (.own v 37 4 ((ys.filter (I4 core)).map enc)::(D4 b bm vs' (U0 m (ys.filter (I4 core))) (ws.filter fun x=>!P8 core x)++S)) w':=by
 unfold D4 at hw;obtain⟨a,n,c,rfl,hn,hnc,hc⟩:=hw.own_shape (i:=2) rfl
 refine A3 Tryz.func36 rfl rfl ?_
 refine A4 ?_;refine E5 ?_;intro bc w hw;refine A4 ?_;refine C5 ?_;refine(AV (fun _=>.blk bc (.cells #[.int .i64 core] 3)::.blk b (.cells #[.map (some bm),.slice a n c] 81)::A7.ms O3 bm m::S) Γ w _ ws 86 [] [.pointer (some ⟨bc,0,none⟩)] (P8 core) (hw.ps [3]) (fun R k x w hx hw=>?_)).mono ?_
 ·refine(Hu Γ (R++(.blk b (.cells #[.map (some bm),.slice a n c] 81)::A7.ms O3 bm m::S)) w bc core x ((Wd.swapApp (B:=[_]) hw))).mono ?_
  rintro e w' ⟨he,hw'⟩
  exact⟨he,Wd.swapApp (A:=[_]) hw'⟩
 rintro e w ⟨vs',rfl,hw⟩
 obtain⟨a',n',c',rfl,-,-,-⟩:=hw.own_shape (i:=0) rfl
 refine⟨_,rfl,?_⟩;repeat(first|refine B6 ?_|(refine B7 ?_;intro w hw)|(refine B2 ?_;intro _ w hw)|(refine E5 ?_;intro _ w hw)|(refine B0 ?_;intro w hw))
 refine C5 ?_;refine(X6 Γ (A7.blk bc _::S) w b bm _ m _ hm (hw.ps [1,1,3,3])).mono ?_
 rintro e w ⟨v,ys,rfl,hys,hw⟩
 refine⟨_,rfl,?_⟩;obtain⟨a2,n2,c2,rfl,hn2,hnc2,hc2⟩:=hw.own_shape (i:=0) rfl
 simp only[List.length_map]at hn2
 have hlen:ys.length≤64:=by have:=hys.perm.length_eq;simp at this;omega
 refine A4 ?_;unfold D4 at hw;refine C8 (fun μ ρ w=>∃(k:Nat) (g:Value),μ+k=n2∧Has ρ [(0,.pointer (some ⟨b,0,none⟩)),(3,.pointer (some ⟨bc,0,none⟩)),(5,g),(18,.slice a2 n2 c2),(19,.int .i64 n2),(20,.int .i64 k)] ∧
  Wd Γ (.own g 37 4 (((ys.take k).filter (I4 core)).map enc)::.own (.slice a2 n2 c2) 37 4 (ys.map enc)::.blk b (.cells #[.map (some bm),.slice a' n' c'] 81)::A7.ms O3 bm (U0 m ((ys.take k).filter (I4 core))) ::
   .own (.slice a' n' c') 39 3 ((ws.filter fun x=>!P8 core x).map enc)::.blk bc (.cells #[.int .i64 core] 3)::S) w) n2 ⟨0,.slice none 0 0,by omega,⟨rfl,rfl,rfl,rfl,rfl,rfl,trivial⟩,Wd.addNil hw⟩ ?_
 rintro μ ρ w ⟨k,g,hk,hρ,hw⟩
 rw[hρ.eq];obtain⟨a3,n3,c3,rfl,hn3,hnc3,hc3⟩:=hw.own_shape (i:=0) rfl
 have hl3:((ys.take k).filter (I4 core)).length≤ys.length:=Nat.le_trans (List.length_filter_le _ _) (by rw[List.length_take];omega)
 simp only[List.length_map]at hn3
 refine A4 ?_;refine A0 rfl (fun h=>?_) (fun h=>?_)
 ·have hkn:k<n2:=by simpa using h
  obtain⟨x,hx⟩:=C0 (l:=ys) (k:=k) (by omega)
  have hr:=O9.own (i:=1) hw rfl
  refine A4 ?_;refine B2 ?_;intro be w hw;refine B0 ?_;intro w hw;refine A4 ?_;refine A0 rfl (fun h2=>?_) (fun h2=>?_)
  ·have h2:I4 core x=true:=h2
   refine A4 ?_;refine D7 [enc x] ?_
   intro a4 w hw;refine Bp (rows2:=[enc x]) ?_ (Wd.own_rd (i:=0) hw rfl)
   intro v' w hw;refine A4 ?_;obtain⟨a5,n5,c5,rfl,-,-,-⟩:=hw.own_shape (i:=2) rfl
   refine j6 [] _ [[],[],[],[],[],[],[0]] [[0],[0],[0],[0],[0],[0],[0]] hw ?_
   repeat(first|refine mY ?_|refine mP ?_|refine D9 ?_|refine G6 ?_|refine K3 ?_)
   refine Tm ?_
   repeat(first|refine mY ?_|refine mP ?_|refine D9 ?_|refine G6 ?_|refine K3 ?_)
   intro w hw;have hw:=Wd.left (S:=A7.own _ _ _ _::_) hw
   refine A4 ?_;have htk:ys.take (k+1)=ys.take k++[x]:=by rw[List.take_add_one,hx];rfl
   have hfl:(ys.take (k+1)).filter (I4 core)=(ys.take k).filter (I4 core)++[x]:=by rw[htk,List.filter_append];simp[h2]
   refine⟨μ-1,by omega,k+1,.slice a5 n5 c5,by omega,⟨rfl,rfl,rfl,rfl,rfl,rfl,trivial⟩,?_⟩
   rw[hfl];have hw:=hw.ds [0,0]
   rw[List.map_append];unfold U0 at *
   rw[List.foldl_append];exact hw
  ·have h2:I4 core x=false:=h2
   refine A4 ?_;have htk:ys.take (k+1)=ys.take k++[x]:=by rw[List.take_add_one,hx];rfl
   have hfl:(ys.take (k+1)).filter (I4 core)=(ys.take k).filter (I4 core):=by rw[htk,List.filter_append];simp[h2]
   refine⟨μ-1,by omega,k+1,.slice a3 n3 c3,by omega,⟨rfl,rfl,rfl,rfl,rfl,rfl,trivial⟩,?_⟩
   rw[hfl];exact hw.drop
 ·have hkn:¬k<n2:=by simpa using h
  refine A4 ?_;have hk2:ys.take k=ys:=List.take_of_length_le (by omega)
  rw[hk2]at hw;exact⟨_,rfl,.slice a3 n3 c3,ys,.slice a' n' c',rfl,hys,(hw.ds [1,4])⟩
set_option maxHeartbeats 400000
def digits:ByteArray:=⟨#[48,49,50,51,52,53,54,55,56,57]⟩
def ED:ByteArray:=⟨#[100,105,115,107]⟩
instance:SB ED:=⟨by decide⟩
theorem Mm(Γ:B8)(S:List A7)(w:World)(hw:Wd Γ S w):Calls Tryz.prog 6 #[] w fun e w'=>e=.returned (.bool true)∧∃S',Wd Γ (S'++S) w':=by
 refine A3 Tryz.func6 rfl rfl ?_
 repeat first|refine B6 ?_|refine B7 ?_;intro w hw
 refine C5 ?_;refine(LE Γ S w hw).mono ?_
 rintro e w ⟨b,bm,rfl,hw⟩
 refine⟨_,rfl,?_⟩;repeat(first|(first|refine W7 ?_|refine i5 ?_|refine P5 ?_|refine k0 ?_|refine Dl ?_|refine Am ?_)|((first|apply FD|apply v7);first|(refine lT ?_ ?_;(first|exact rfl|exact decide_eq_true rfl|(simp;done)))|(refine lF ?_ ?_;(first|exact rfl|exact decide_eq_true rfl|(simp;done))))|(first|refine U5 ?_|(apply X9;first|(apply y8;first|refine lP ?_|(refine PN ?_;intro w hw))|(apply Ij;refine T7 ?_)|refine lY ?_)|(apply N9;first|refine Jg ?_|refine JK ?_|(apply y8;first|refine Rl ?_|(refine Hb ?_;intro w hw))|refine lG ?_))|(refine B2 ?_;intro _ w hw)|(refine E5 ?_;intro _ w hw)|(refine B0 ?_;intro w hw))
 refine F2 rfl ?_
 repeat(first|(first|refine W7 ?_|refine i5 ?_|refine P5 ?_|refine k0 ?_|refine Dl ?_|refine Am ?_)|((first|apply FD|apply v7);first|(refine lT ?_ ?_;(first|exact rfl|exact decide_eq_true rfl|(simp;done)))|(refine lF ?_ ?_;(first|exact rfl|exact decide_eq_true rfl|(simp;done))))|(first|refine U5 ?_|(apply X9;first|(apply y8;first|refine lP ?_|(refine PN ?_;intro w hw))|(apply Ij;refine T7 ?_)|refine lY ?_)|(apply N9;first|refine Jg ?_|refine JK ?_|(apply y8;first|refine Rl ?_|(refine Hb ?_;intro w hw))|refine lG ?_))|(refine B2 ?_;intro _ w hw)|(refine E5 ?_;intro _ w hw)|(refine B0 ?_;intro w hw))
 refine C5 ?_;have e1:Q7 [] [] ⟨4,1,ED⟩=0:=by kernel_rfl
 have e2:Lr [] [] ⟨4,1,ED⟩=default:=rfl
 have e3:Ll [] [] ⟨4,1,ED⟩=false:=by kernel_rfl
 have e4:JR [] [] ⟨4,1,ED⟩=[⟨4,1,ED⟩]:=by kernel_rfl
 refine(GE Γ S w b bm _ [] [] ⟨4,1,ED⟩ (by decide) hw).mono ?_
 rintro e w ⟨vs,rfl,hw⟩
 refine⟨_,rfl,?_⟩;rw[e1,e2,e3];rw[e4]at hw;repeat(first|(first|refine W7 ?_|refine i5 ?_|refine P5 ?_|refine k0 ?_|refine Dl ?_|refine Am ?_)|((first|apply FD|apply v7);first|(refine lT ?_ ?_;(first|exact rfl|exact decide_eq_true rfl|(simp;done)))|(refine lF ?_ ?_;(first|exact rfl|exact decide_eq_true rfl|(simp;done))))|(first|refine U5 ?_|(apply X9;first|(apply y8;first|refine lP ?_|(refine PN ?_;intro w hw))|(apply Ij;refine T7 ?_)|refine lY ?_)|(apply N9;first|refine Jg ?_|refine JK ?_|(apply y8;first|refine Rl ?_|(refine Hb ?_;intro w hw))|refine lG ?_))|(refine B2 ?_;intro _ w hw)|(refine E5 ?_;intro _ w hw)|(refine B0 ?_;intro w hw))
 refine C5 ?_;let v0:Service:=⟨ED,2,64,1⟩
 have r1:H7 [] v0=0:=by kernel_rfl
 have r2:V2 [] v0=[(ED,v0)]:=by kernel_rfl
 have r3:j9 [] [⟨4,1,ED⟩] v0=[]:=by kernel_rfl
 have r4:BL [] [⟨4,1,ED⟩] v0=[⟨4,1,v0⟩]:=by kernel_rfl
 haveI:SB v0.Name:=⟨by decide⟩
 refine(CG Γ (A7.blk _ _::S) w b bm _ [] [⟨4,1,ED⟩] v0 (by decide) (hw.ps [3,3,3])).mono ?_
 rintro e w ⟨fv,vs',rfl,hw⟩
 refine⟨_,rfl,?_⟩;rw[r1];rw[r2,r3,r4]at hw;obtain⟨af,nf,cf,rfl,hnf,hncf,hcf⟩:=hw.own_shape (i:=0) rfl
 have hnf:nf=1:=hnf
 subst hnf;have hr:=O9.own (i:=0) hw rfl
 have hx0:([⟨4,1,v0⟩]:List Found)[0]? = some ⟨4,1,v0⟩:=rfl
 repeat(first|(first|refine W7 ?_|refine i5 ?_|refine P5 ?_|refine k0 ?_|refine Dl ?_|refine Am ?_)|((first|apply FD|apply v7);first|(refine lT ?_ ?_;(first|exact rfl|exact decide_eq_true rfl|(simp;done)))|(refine lF ?_ ?_;(first|exact rfl|exact decide_eq_true rfl|(simp;done))))|(first|refine U5 ?_|(apply X9;first|(apply y8;first|refine lP ?_|(refine PN ?_;intro w hw))|(apply Ij;refine T7 ?_)|refine lY ?_)|(apply N9;first|refine Jg ?_|refine JK ?_|(apply y8;first|refine Rl ?_|(refine Hb ?_;intro w hw))|refine lG ?_))|(refine B2 ?_;intro _ w hw)|(refine E5 ?_;intro _ w hw)|(refine B0 ?_;intro w hw))
 refine C5 ?_;refine(Ht Γ (A7.own _ _ _ _::A7.blk _ _::S) w b bm _ _ _ (by decide) (hw.ps [3,3,3])).mono ?_
 rintro e w ⟨v1,rfl,hw⟩
 obtain⟨a1,n1,c1,rfl,hn1,hnc1,hc1⟩:=hw.own_shape (i:=0) rfl
 have hn1:n1=0:=hn1
 subst hn1;refine⟨_,rfl,?_⟩;repeat(first|(first|refine W7 ?_|refine i5 ?_|refine P5 ?_|refine k0 ?_|refine Dl ?_|refine Am ?_)|((first|apply FD|apply v7);first|(refine lT ?_ ?_;(first|exact rfl|exact decide_eq_true rfl|(simp;done)))|(refine lF ?_ ?_;(first|exact rfl|exact decide_eq_true rfl|(simp;done))))|(first|refine U5 ?_|(apply X9;first|(apply y8;first|refine lP ?_|(refine PN ?_;intro w hw))|(apply Ij;refine T7 ?_)|refine lY ?_)|(apply N9;first|refine Jg ?_|refine JK ?_|(apply y8;first|refine Rl ?_|(refine Hb ?_;intro w hw))|refine lG ?_))|(refine B2 ?_;intro _ w hw)|(refine E5 ?_;intro _ w hw)|(refine B0 ?_;intro w hw))
 refine C5 ?_;refine(X6 Γ (A7.own _ _ _ _::A7.own _ _ _ _::A7.blk _ _::S) w b bm _ _ _ (by decide) (hw.ps [3,3,3])).mono ?_
 rintro e w ⟨v2,ys,rfl,hys,hw⟩
 obtain⟨a2,n2,c2,rfl,hn2,hnc2,hc2⟩:=hw.own_shape (i:=0) rfl
 have hn2:n2=1:=by
  have:=hys.perm.length_eq
  simp only[List.length_map]at hn2
  rw[hn2,this];rfl
 subst hn2;refine⟨_,rfl,?_⟩;repeat(first|(first|refine W7 ?_|refine i5 ?_|refine P5 ?_|refine k0 ?_|refine Dl ?_|refine Am ?_)|((first|apply FD|apply v7);first|(refine lT ?_ ?_;(first|exact rfl|exact decide_eq_true rfl|(simp;done)))|(refine lF ?_ ?_;(first|exact rfl|exact decide_eq_true rfl|(simp;done))))|(first|refine U5 ?_|(apply X9;first|(apply y8;first|refine lP ?_|(refine PN ?_;intro w hw))|(apply Ij;refine T7 ?_)|refine lY ?_)|(apply N9;first|refine Jg ?_|refine JK ?_|(apply y8;first|refine Rl ?_|(refine Hb ?_;intro w hw))|refine lG ?_))|(refine B2 ?_;intro _ w hw)|(refine E5 ?_;intro _ w hw)|(refine B0 ?_;intro w hw))
 unfold D4 at hw;exact⟨_,rfl,rfl,[_,_,_,_,_,_,_],hw⟩
section
variable {β:Type}
theorem Az{m:List (ByteArray×β)}{a:ByteArray}:D2 m a=none↔a∉m.map (·.1):=by
 unfold D2;cases h:BY m a with
 | none=>
  simp only[Option.bind_none,true_iff]
  unfold BY at h;rw[List.findIdx?_eq_none_iff]at h;intro hm;obtain⟨p,hp,rfl⟩:=List.mem_map.1 hm
  have:=h p hp
  simp at this
 | some i=>
  obtain⟨v,hv⟩:=f0 h
  simp only[Option.bind_some,hv,Option.map_some,reduceCtorEq,false_iff,Classical.not_not]
  exact List.mem_map.2 ⟨_,List.mem_of_getElem? hv,rfl⟩
theorem CH{m:List (ByteArray×β)}{a:ByteArray}:(U9 m a).Sublist m:=by
 unfold U9;cases BY m a with
 | none=>exact List.Sublist.refl _
 | some i=>exact List.eraseIdx_sublist _ _
end
theorem Bl:∀(l:List Service) (m:List (ByteArray×Service)),(U0 m l).Sublist m
 | [],_=>List.Sublist.refl _
 | x::l,m=>(Bl l (U9 m x.Name)).trans CH
def other:ByteArray:=⟨#[111,116,104,101,114]⟩
set_option maxHeartbeats 2000000
def L1(b:Nat)(v1 v2:Value)(ss:List Service)(ws:List B4):List A7:=[.blk b (.cells #[v1,v2] 33),.own v1 37 4 (ss.map enc),.own v2 39 3 (ws.map enc)]
def He(name:ByteArray)(x:Service):Bool:=decide (x.Name=name)
theorem EO(Γ:B8)(S:List A7)(w:World)(b:Nat)(v1 v2:Value)(ss:List Service)(ws:List B4)(name:ByteArray)(hw:Wd Γ (L1 b v1 v2 ss ws++S) w) :
  Calls Tryz.prog 83 #[.pointer (some ⟨b,0,none⟩),.string name] w fun e w'=>e=.returned (.int .i64 (Hf (ss.findIdx? (He name))))∧Wd Γ (L1 b v1 v2 ss ws++S) w':=by
 unfold L1 at *
 obtain⟨a,n,c,rfl,hn,hnc,hc⟩:=hw.own_shape (i:=1) rfl
 simp only[List.length_map]at hn
 refine A3 Tryz.func83 rfl rfl ?_
 repeat first|refine B6 ?_|refine B7 ?_;intro w hw
 refine C8 (fun μ ρ w=>∃k:Nat,μ+k=n∧Has ρ [(0,.pointer (some ⟨b,0,none⟩)),(1,.string name),(5,.int .i64 k)]∧Wd Γ (.blk b (.cells #[.slice a n c,v2] 33)::.own (.slice a n c) 37 4 (ss.map enc)::.own v2 39 3 (ws.map enc)::S) w∧∀i x,i<k→ss[i]? = some x→He name x=false) n ⟨0,by omega,⟨rfl,rfl,rfl,trivial⟩,hw,fun i x h=>absurd h (Nat.not_lt_zero i)⟩ ?_
 rintro μ ρ w ⟨k,hk,hρ,hw,hi⟩
 rw[hρ.eq];repeat first|refine B6 ?_|refine B7 ?_;intro w hw
 refine A0 rfl (fun h=>?_) (fun h=>?_)
 ·have hkn:k<n:=by simpa using h
  obtain⟨x,hx⟩:=C0 (l:=ss) (k:=k) (by omega)
  repeat first|refine B6 ?_|refine B7 ?_;intro w hw
  refine A0 rfl (fun h2=>?_) (fun h2=>?_)
  ·repeat first|refine B6 ?_|refine B7 ?_;intro w hw
   have hf:=Bo (p:=He name) hx h2 hi
   rw[hf];exact⟨_,rfl,C9 rfl rfl,hw⟩
  ·repeat first|refine B6 ?_|refine B7 ?_;intro w hw
   refine⟨μ-1,by omega,k+1,by omega,⟨rfl,rfl,rfl,trivial⟩,hw,fun i y hi' hy=>?_⟩
   by_cases e:i=k
   ·subst e;rw[hx]at hy;cases hy;exact h2
   ·exact hi i y (by omega) hy
 ·repeat first|refine B6 ?_|refine B7 ?_;intro w hw
  have hkn:¬k<n:=by simpa using h
  have hf:ss.findIdx? (He name)=none:=List.findIdx?_eq_none_iff.2 (fun x hx=>by
   obtain⟨i,hil,rfl⟩:=List.getElem_of_mem hx
   exact hi i _ (by omega) (List.getElem?_eq_getElem hil))
  rw[hf];exact⟨_,rfl,C9 rfl rfl,hw⟩
theorem Dd(Γ:B8)(S:List A7)(w:World)(b:Nat)(v1 v2:Value)(ss:List Service)(ws:List B4)(token core:Int)(hw:Wd Γ (L1 b v1 v2 ss ws++S) w) :
  Calls Tryz.prog 84 #[.pointer (some ⟨b,0,none⟩),.int .i64 token,.int .i64 core] w fun e w'=>e=.returned (.int .i64 (Hf (ws.findIdx? (KJ token core))))∧Wd Γ (L1 b v1 v2 ss ws++S) w':=by
 unfold L1 at *
 obtain⟨a,n,c,rfl,hn,hnc,hc⟩:=hw.own_shape (i:=2) rfl
 simp only[List.length_map]at hn
 refine A3 Tryz.func84 rfl rfl ?_
 repeat first|refine B6 ?_|refine B7 ?_;intro w hw
 refine C8 (fun μ ρ w=>∃k:Nat,μ+k=n∧Has ρ [(0,.pointer (some ⟨b,0,none⟩)),(1,.int .i64 token),(2,.int .i64 core),(7,.int .i64 k)]∧Wd Γ (.blk b (.cells #[v1,.slice a n c] 33)::.own v1 37 4 (ss.map enc)::.own (.slice a n c) 39 3 (ws.map enc)::S) w∧∀i x,i<k→ws[i]? = some x→KJ token core x=false) n ⟨0,by omega,⟨rfl,rfl,rfl,rfl,trivial⟩,hw,fun i x h=>absurd h (Nat.not_lt_zero i)⟩ ?_
 rintro μ ρ w ⟨k,hk,hρ,hw,hi⟩
 rw[hρ.eq];repeat first|refine B6 ?_|refine B7 ?_;intro w hw
 refine A0 rfl (fun h=>?_) (fun h=>?_)
 ·have hkn:k<n:=by simpa using h
  obtain⟨x,hx⟩:=C0 (l:=ws) (k:=k) (by omega)
  repeat first|refine B6 ?_|refine B7 ?_;intro w hw
  refine A0 rfl (fun h2=>?_) (fun h2=>?_)
  ·repeat first|refine B6 ?_|refine B7 ?_;intro w hw
   have hf:=Bo (p:=KJ token core) hx h2 hi
   rw[hf];exact⟨_,rfl,C9 rfl rfl,hw⟩
  ·repeat first|refine B6 ?_|refine B7 ?_;intro w hw
   refine⟨μ-1,by omega,k+1,by omega,⟨rfl,rfl,rfl,rfl,trivial⟩,hw,fun i y hi' hy=>?_⟩
   by_cases e:i=k
   ·subst e;rw[hx]at hy;cases hy;exact h2
   ·exact hi i y (by omega) hy
 ·repeat first|refine B6 ?_|refine B7 ?_;intro w hw
  have hkn:¬k<n:=by simpa using h
  have hf:ws.findIdx? (KJ token core)=none:=List.findIdx?_eq_none_iff.2 (fun x hx=>by
   obtain⟨i,hil,rfl⟩:=List.getElem_of_mem hx
   exact hi i _ (by omega) (List.getElem?_eq_getElem hil))
  rw[hf];exact⟨_,rfl,C9 rfl rfl,hw⟩
def Y9(ss:List Service)(name:ByteArray):Option Service:=(ss.findIdx? (He name)).bind (ss[·]?)
def AR(ss:List Service)(name:ByteArray):Int:=if (Y9 ss name).isSome then 0 else 17
theorem IL(Γ:B8)(S:List A7)(w:World)(b:Nat)(v1 v2:Value)(ss:List Service)(ws:List B4)(name:ByteArray)(hw:Wd Γ (L1 b v1 v2 ss ws++S) w) :
  Calls Tryz.prog 31 #[.pointer (some ⟨b,0,none⟩),.string name] w fun e w'=>e=.returned (.tuple #[O3 ((Y9 ss name).getD default),.int .i64 (AR ss name)])∧Wd Γ (L1 b v1 v2 ss ws++S) w':=by
 refine F8 Tryz.func31 rfl rfl ?_
 repeat first|refine B6 ?_|refine B7 ?_;intro w hw
 refine B2 ?_;intro br w hw;repeat first|refine B6 ?_|refine B7 ?_;intro w hw
 refine C5 ?_;refine(EO Γ (.blk br _::S) w b v1 v2 ss ws name (hw.ps [3,3,3])).mono ?_
 rintro e w ⟨rfl,hw⟩
 refine⟨_,rfl,?_⟩;unfold L1 at hw;obtain⟨a,n,c,rfl,hn,hnc,hc⟩:=hw.own_shape (i:=1) rfl
 simp only[List.length_map]at hn
 cases hf:ss.findIdx? (He name) with
 | none=>
  have hg:Y9 ss name=none:=by simp[Y9,hf]
  repeat first|refine B6 ?_|refine B7 ?_;intro w hw
  refine A0 rfl (fun h=>absurd h (by simp[Hf])) (fun _=>?_)
  repeat(first|refine B6 ?_|(refine B7 ?_;intro w hw)|(refine B2 ?_;intro _ w hw)|(refine E5 ?_;intro _ w hw)|(refine B0 ?_;intro w hw))
  refine⟨[O3 default,.int .i64 17],⟨J6 (i:=3) hw rfl rfl rfl,rfl,trivial⟩,?_,(hw.dropAt 3)⟩
  rw[hg,show AR ss name=17 from by simp[AR,hg]];rfl
 | some k=>
  have hk:=U8 hf
  obtain⟨x,hx⟩:=C0 (l:=ss) (k:=k) (by omega)
  have hg:Y9 ss name=some x:=by simp[Y9,hf,hx]
  have hz:Hf (some k)=(k:Int):=rfl
  repeat first|refine B6 ?_|refine B7 ?_;intro w hw
  refine A0 rfl (fun _=>?_) (fun h=>absurd h (by simp[hz]))
  repeat(first|refine B6 ?_|(refine B7 ?_;intro w hw)|(refine B2 ?_;intro _ w hw)|(refine E5 ?_;intro _ w hw)|(refine B0 ?_;intro w hw))
  refine⟨[O3 x,.int .i64 0],⟨J6 (i:=3) hw rfl rfl rfl,rfl,trivial⟩,?_,(hw.dropAt 3)⟩
  rw[hg,show AR ss name=0 from by simp[AR,hg]];rfl
def AY(ss:List Service)(name:ByteArray)(core:Int):Int:=match Y9 ss name with|none=>17|some v=>if v.Core=core then 0 else 8
def Mu(ss:List Service)(name:ByteArray)(core:Int):List Service:=if AY ss name core=0 then match ss.findIdx? (He name) with|some k=>ss.eraseIdx k|none=>ss else ss
theorem EZ{α:Type}[EF α](xs:List α)(k:Nat):(xs.map enc).take k++(xs.map enc).drop (k+1)=(xs.eraseIdx k).map enc:=by
 rw[←List.map_take,←List.map_drop,←List.map_append,List.eraseIdx_eq_take_drop_succ]
theorem JD{α:Type}[EF α](xs:List α)(k:Nat):∀u∈((xs.map enc).drop k).flatten,u.oneCell'=true:=fun u hu=>by
 have:=List.all_eq_true.1 (CV (xs.drop k)) u
 rw[List.map_drop]at this;exact this hu
theorem EA(Γ:B8)(S:List A7)(w:World)(b:Nat)(v1 v2:Value)(ss:List Service)(ws:List B4)(name:ByteArray)(core:Int)(hss:ss.length≤64)(hw:Wd Γ (L1 b v1 v2 ss ws++S) w) :
  Calls Tryz.prog 29 #[.pointer (some ⟨b,0,none⟩),.string name,.int .i64 core] w fun e w'=>∃v1',e=.returned (.int .i64 (AY ss name core))∧Wd Γ (L1 b v1' v2 (Mu ss name core) ws++S) w':=by
 refine A3 Tryz.func29 rfl rfl ?_
 repeat first|refine B6 ?_|refine B7 ?_;intro w hw
 refine C5 ?_;refine(EO Γ S w b v1 v2 ss ws name hw).mono ?_
 rintro e w ⟨rfl,hw⟩
 refine⟨_,rfl,?_⟩;unfold L1 at hw;obtain⟨a,n,c,rfl,hn,hnc,hc⟩:=hw.own_shape (i:=1) rfl
 simp only[List.length_map]at hn
 cases hf:ss.findIdx? (He name) with
 | none=>
  have hE:AY ss name core=17:=by simp[AY,Y9,hf]
  repeat first|refine B6 ?_|refine B7 ?_;intro w hw
  refine A0 rfl (fun _=>?_) (fun h=>absurd h (by simp[Hf]))
  repeat first|refine B6 ?_|refine B7 ?_;intro w hw
  refine⟨_,rfl,.slice a n c,C9 rfl hE.symm,?_⟩
  rw[show Mu ss name core=ss from by simp[Mu,hE]]
  exact hw
 | some k=>
  have hk:=U8 hf
  obtain⟨x,hx⟩:=C0 (l:=ss) (k:=k) (by omega)
  have hz:Hf (some k)=(k:Int):=rfl
  repeat first|refine B6 ?_|refine B7 ?_;intro w hw
  refine A0 rfl (fun h=>absurd h (by simp[hz])) (fun _=>?_)
  rw[hz];repeat first|refine B6 ?_|refine B7 ?_;intro w hw
  refine A0 rfl (fun h=>?_) (fun h=>?_)
  ·have h:¬x.Core=core:=of_decide_eq_true h
   have hE:AY ss name core=8:=by simp[AY,Y9,hf,hx,h]
   repeat first|refine B6 ?_|refine B7 ?_;intro w hw
   refine⟨_,rfl,.slice a n c,C9 rfl hE.symm,?_⟩
   rw[show Mu ss name core=ss from by simp[Mu,hE]]
   exact hw
  ·have h:x.Core=core:=by simpa using h
   have hE:AY ss name core=0:=by simp[AY,Y9,hf,hx,h]
   repeat first|refine B6 ?_|refine B7 ?_;intro w hw
   refine j6 [] _ [[],[],[],[],[],[],[],[],[],[],[],[],[],[],[0],[],[],[0]] [[],[],[],[],[0],[],[],[],[],[],[0],[],[],[],[0],[],[],[0]] hw ?_
   repeat(first|refine mY ?_|refine mP ?_|refine D9 ?_|refine G6 ?_|refine K3 ?_)
   refine mM (v:=.slice a (k+(n-(k+1))) c) (fun _=>.blk b (.cells #[.slice a n c,v2] 33)::.own (.slice a (k+(n-(k+1))) c) 37 4 ((ss.eraseIdx k).map enc)::.own v2 39 3 (ws.map enc)::S) (fun Y w g hw=>?_) ?_
   ·have hrd:=(Wd.own_rd (i:=1) hw rfl).cut (c:=c) (by simp;omega) (k+1) (by simp;omega)
    have hw2:=Wd.own_take (i:=1) (m:=k) hw rfl (by omega)
    refine BB (i:=1) hw2 rfl rfl rfl hrd (by simp;omega) (JD ss (k+1)) (by omega) (by omega) fun v' w' hfit hw'=>?_
    have hv:v'=.slice a (k+(n-(k+1))) c:=hfit (by show k+(n-(k+1))≤c;omega)
    subst hv;rw[EZ]at hw';exact⟨hw',fun _=>rfl⟩
   repeat(first|refine mY ?_|refine mP ?_|refine D9 ?_|refine G6 ?_|refine K3 ?_)
   refine Q2 ?_
   repeat(first|refine mY ?_|refine mP ?_|refine D9 ?_|refine G6 ?_|refine K3 ?_)
   intro w hw;have hw:=Wd.left (S:=A7.blk _ _::_) hw
   repeat first|refine B6 ?_|refine B7 ?_;intro w hw
   refine⟨_,rfl,.slice a (k+(n-(k+1))) c,C9 rfl hE.symm,?_⟩
   rw[show Mu ss name core=ss.eraseIdx k from by simp[Mu,hE,hf]]
   exact hw
theorem JF(Γ:B8)(S:List A7)(w:World)(b:Nat)(v1 v2:Value)(ss:List Service)(ws:List B4)(token core:Int)(hws:ws.length≤64)(hw:Wd Γ (L1 b v1 v2 ss ws++S) w) :
  Calls Tryz.prog 34 #[.pointer (some ⟨b,0,none⟩),.int .i64 token,.int .i64 core] w fun e w'=>∃v2',e=.returned (.int .i64 (x9 ws token core))∧Wd Γ (L1 b v1 v2' ss (Hj ws token core)++S) w':=by
 refine A3 Tryz.func34 rfl rfl ?_
 repeat first|refine B6 ?_|refine B7 ?_;intro w hw
 refine C5 ?_;refine(Dd Γ S w b v1 v2 ss ws token core hw).mono ?_
 rintro e w ⟨rfl,hw⟩
 refine⟨_,rfl,?_⟩;unfold L1 at hw;obtain⟨a,n,c,rfl,hn,hnc,hc⟩:=hw.own_shape (i:=2) rfl
 simp only[List.length_map]at hn
 cases hf:ws.findIdx? (KJ token core) with
 | none=>
  have hE:x9 ws token core=17:=by simp[x9,hf]
  repeat first|refine B6 ?_|refine B7 ?_;intro w hw
  refine A0 rfl (fun _=>?_) (fun h=>absurd h (by simp[Hf]))
  repeat first|refine B6 ?_|refine B7 ?_;intro w hw
  refine⟨_,rfl,.slice a n c,C9 rfl hE.symm,?_⟩
  rw[show Hj ws token core=ws from by simp[Hj,hf]]
  exact hw
 | some k=>
  have hk:=U8 hf
  have hE:x9 ws token core=0:=by simp[x9,hf]
  have hz:Hf (some k)=(k:Int):=rfl
  repeat first|refine B6 ?_|refine B7 ?_;intro w hw
  refine A0 rfl (fun h=>absurd h (by simp[hz])) (fun _=>?_)
  rw[hz];repeat first|refine B6 ?_|refine B7 ?_;intro w hw
  refine j6 [] _ [[],[],[],[],[],[],[],[],[],[],[],[],[],[],[0],[],[],[0]] [[],[],[],[],[0],[],[],[],[],[],[0],[],[],[],[0],[],[],[0]] hw ?_
  repeat(first|refine mY ?_|refine mP ?_|refine D9 ?_|refine G6 ?_|refine K3 ?_)
  refine mM (v:=.slice a (k+(n-(k+1))) c) (fun _=>.blk b (.cells #[v1,.slice a n c] 33)::.own v1 37 4 (ss.map enc)::.own (.slice a (k+(n-(k+1))) c) 39 3 ((ws.eraseIdx k).map enc)::S) (fun Y w g hw=>?_) ?_
  ·have hrd:=(Wd.own_rd (i:=2) hw rfl).cut (c:=c) (by simp;omega) (k+1) (by simp;omega)
   have hw2:=Wd.own_take (i:=2) (m:=k) hw rfl (by omega)
   refine BB (i:=2) hw2 rfl rfl rfl hrd (by simp;omega) (JD ws (k+1)) (by omega) (by omega) fun v' w' hfit hw'=>?_
   have hv:v'=.slice a (k+(n-(k+1))) c:=hfit (by show k+(n-(k+1))≤c;omega)
   subst hv;rw[EZ]at hw';exact⟨hw',fun _=>rfl⟩
  repeat(first|refine mY ?_|refine mP ?_|refine D9 ?_|refine G6 ?_|refine K3 ?_)
  refine Q2 ?_
  repeat(first|refine mY ?_|refine mP ?_|refine D9 ?_|refine G6 ?_|refine K3 ?_)
  intro w hw;have hw:=Wd.left (S:=A7.blk _ _::_) hw
  repeat first|refine B6 ?_|refine B7 ?_;intro w hw
  refine⟨_,rfl,.slice a (k+(n-(k+1))) c,C9 rfl hE.symm,?_⟩
  rw[show Hj ws token core=ws.eraseIdx k from by simp[Hj,hf]]
  exact hw
theorem L0{α:Type}{p:α→Bool}{l:List α}{k:Nat}{x:α}(hx:l[k]? = some x):(l.take (k+1)).filter p=(l.take k).filter p++if p x=true then [x] else []:=by
 rw[List.take_add_one,hx,List.filter_append];cases h:p x <;> simp[h]
theorem Q0{α:Type}{p:α→Bool}{l:List α}{k:Nat}:((l.take k).filter p).length≤l.length:=
 Nat.le_trans (List.length_filter_le _ _) (by rw[List.length_take];omega)
theorem Ih(Γ:B8)(S:List A7)(w:World)(b:Nat)(v1 v2:Value)(ss:List Service)(ws:List B4)(core:Int)(hss:ss.length≤64)(hws:ws.length≤64)(hw:Wd Γ (L1 b v1 v2 ss ws++S) w) :
  Calls Tryz.prog 37 #[.pointer (some ⟨b,0,none⟩),.int .i64 core] w fun e w'=>∃v v1' v2',e=.returned v∧Wd Γ (.own v 37 4 ((ss.filter (I4 core)).map enc)::(L1 b v1' v2' (ss.filter fun x=>!I4 core x) (ws.filter fun x=>!P8 core x)++S)) w':=by
 unfold L1 at *
 obtain⟨a,n,c,rfl,hn,hnc,hc⟩:=hw.own_shape (i:=1) rfl
 obtain⟨a2,n2,c2,rfl,hn2,hnc2,hc2⟩:=hw.own_shape (i:=2) rfl
 simp only[List.length_map]at hn hn2
 refine A3 Tryz.func37 rfl rfl ?_
 refine A4 ?_;refine C8 (fun μ ρ w=>∃(k:Nat) (g g2:Value),μ+k=n∧Has ρ [(0,.pointer (some ⟨b,0,none⟩)),(1,.int .i64 core),(5,g),(6,g2),(7,.int .i64 k)]∧Wd Γ (.own g 37 4 (((ss.take k).filter (I4 core)).map enc)::.own g2 37 4 (((ss.take k).filter fun x=>!I4 core x).map enc)::.blk b (.cells #[.slice a n c,.slice a2 n2 c2] 33)::.own (.slice a n c) 37 4 (ss.map enc)::.own (.slice a2 n2 c2) 39 3 (ws.map enc)::S) w) n ⟨0,_,_,by omega,⟨rfl,rfl,rfl,rfl,rfl,trivial⟩,Wd.addNil (Wd.addNil hw)⟩ ?_
 ·clear hw;rintro μ ρ w ⟨k,g,g2,hk,hρ,hw⟩
  rw[hρ.eq];obtain⟨ag,ng,cg,rfl,hng,-,-⟩:=hw.own_shape (i:=0) rfl
  obtain⟨ah,nh,ch,rfl,hnh,-,-⟩:=hw.own_shape (i:=1) rfl
  have hl1:=Q0 (p:=I4 core) (l:=ss) (k:=k)
  have hl2:=Q0 (p:=fun x=>!I4 core x) (l:=ss) (k:=k)
  simp only[List.length_map]at hng hnh
  refine A4 ?_;refine A0 rfl (fun h=>?_) (fun h=>?_)
  ·have hkn:k<n:=by simpa using h
   obtain⟨x,hx⟩:=C0 (l:=ss) (k:=k) (by omega)
   refine A4 ?_;refine A0 rfl (fun h2=>?_) (fun h2=>?_)
   ·have h2:I4 core x=true:=h2
    refine A4 ?_;refine D7 [enc x] ?_
    intro a4 w hw;refine Bp (rows2:=[enc x]) ?_ (Wd.own_rd (i:=0) hw rfl)
    intro v' w hw;refine A4 ?_;refine⟨μ-1,by omega,k+1,v',.slice ah nh ch,by omega,⟨rfl,rfl,rfl,rfl,rfl,trivial⟩,?_⟩
    rw[L0 hx,L0 hx,h2];simpa using hw.drop
   ·have h2:I4 core x=false:=h2
    refine A4 ?_;refine D7 [enc x] ?_
    intro a4 w hw;refine Bp (i:=2) (rows2:=[enc x]) ?_ (Wd.own_rd (i:=0) hw rfl)
    intro v' w hw;refine A4 ?_;refine⟨μ-1,by omega,k+1,.slice ag ng cg,v',by omega,⟨rfl,rfl,rfl,rfl,rfl,trivial⟩,?_⟩
    rw[L0 hx,L0 hx,h2];simpa using hw.drop
  ·have hkn:¬k<n:=by simpa using h
   have hk2:ss.take k=ss:=List.take_of_length_le (by omega)
   rw[hk2]at hw;clear h hk hl1 hl2 hkn hng hnh;refine A4 ?_;refine C8 (fun μ ρ w=>∃(k:Nat) (g3:Value),μ+k=n2∧Has ρ [(0,.pointer (some ⟨b,0,none⟩)),(1,.int .i64 core),(5,.slice ag ng cg),(6,.slice ah nh ch),(8,g3),(9,.int .i64 k)]∧Wd Γ (.own g3 39 3 (((ws.take k).filter fun x=>!P8 core x).map enc)::.own (.slice a2 n2 c2) 39 3 (ws.map enc)::.own (.slice ag ng cg) 37 4 ((ss.filter (I4 core)).map enc)::.own (.slice ah nh ch) 37 4 ((ss.filter fun x=>!I4 core x).map enc)::.blk b (.cells #[.slice a n c,.slice a2 n2 c2] 33)::S) w) n2 ⟨0,_,by omega,⟨rfl,rfl,rfl,rfl,rfl,rfl,trivial⟩,Wd.addNil ((hw.ds [3]).ps [3])⟩ ?_
   clear hw hρ ρ;rintro μ ρ w ⟨k,g,hk,hρ,hw⟩
   rw[hρ.eq];obtain⟨ai,ni,ci,rfl,hni,-,-⟩:=hw.own_shape (i:=0) rfl
   have hl1:=Q0 (p:=fun x=>!P8 core x) (l:=ws) (k:=k)
   simp only[List.length_map]at hni
   refine A4 ?_;refine A0 rfl (fun h=>?_) (fun h=>?_)
   ·have hkn:k<n2:=by simpa using h
    obtain⟨x,hx⟩:=C0 (l:=ws) (k:=k) (by omega)
    refine A4 ?_;refine A0 rfl (fun h2=>?_) (fun h2=>?_)
    ·have h2:P8 core x=false:=by simpa[P8] using h2
     refine A4 ?_;refine D7 [enc x] ?_
     intro a4 w hw;refine Bp (rows2:=[enc x]) ?_ (Wd.own_rd (i:=0) hw rfl)
     intro v' w hw;refine A4 ?_;refine⟨μ-1,by omega,k+1,v',by omega,⟨rfl,rfl,rfl,rfl,rfl,rfl,trivial⟩,?_⟩
     rw[L0 hx,h2];simpa using hw.drop
    ·have h2:P8 core x=true:=by simpa[P8] using h2
     refine A4 ?_;refine⟨μ-1,by omega,k+1,.slice ai ni ci,by omega,⟨rfl,rfl,rfl,rfl,rfl,rfl,trivial⟩,?_⟩
     rw[L0 hx,h2];simpa using hw
   ·have hkn:¬k<n2:=by simpa using h
    have hk2:ws.take k=ws:=List.take_of_length_le (by omega)
    rw[hk2]at hw;repeat(first|refine B6 ?_|(refine B7 ?_;intro w hw)|(refine B2 ?_;intro _ w hw)|(refine E5 ?_;intro _ w hw)|(refine B0 ?_;intro w hw))
    exact⟨_,rfl,.slice ag ng cg,.slice ah nh ch,.slice ai ni ci,rfl,((hw.ds [1]).ps [0,2,3,3])⟩
def O8(ss:List Service)(v:Service):Int:=
 if F9 v.Name=false then 63 else if S6 v=true then 1 else if (ss.findIdx? (He v.Name)).isSome then 56 else if 64≤ss.length then 15 else 0
abbrev Asc(ss:List Service):Prop:=ss.Pairwise fun a b=>V9 b.Name a.Name=false
def m7(v:Service)(ss:List Service)(k:Nat):List Service:=ss.take k++v::ss.drop k
theorem Ed{v:Service}{ss:List Service}{k:Nat}:(m7 v ss k).length=ss.length+1:=by
 simp only[m7,List.length_append,List.length_take,List.length_cons,List.length_drop];omega
theorem Ra{v:Service}{ss:List Service}{k:Nat}(h:k≤ss.length):(m7 v ss k)[k]? = some v:=by
 unfold m7;rw[List.getElem?_append_right (by rw[List.length_take];omega)]
 simp[List.length_take,Nat.min_eq_left h]
theorem Nb{v:Service}{ss:List Service}{k:Nat}(h0:0<k)(h:k≤ss.length):(m7 v ss k)[k-1]? = ss[k-1]?:=by
 unfold m7;rw[List.getElem?_append_left (by rw[List.length_take];omega),List.getElem?_take_of_lt (by omega)]
theorem Ml{v y:Service}{ss:List Service}{k:Nat}(h0:0<k)(hy:ss[k-1]? = some y):((m7 v ss k).set k y).set (k-1) v=m7 v ss (k-1):=by
 obtain⟨hl,hye⟩:=List.getElem?_eq_some_iff.1 hy
 have h1:ss.take k=ss.take (k-1)++[y]:=by
  have:=List.take_add_one (l:=ss) (i:=k-1)
  rw[show k-1+1=k from by omega,hy]at this;exact this
 have h2:ss.drop (k-1)=y::ss.drop k:=by
  rw[List.drop_eq_getElem_cons hl,hye,show k-1+1=k from by omega]
 have hlen:(ss.take (k-1)).length=k-1:=by rw[List.length_take];omega
 unfold m7;rw[h1,h2,List.append_assoc];rw[List.set_append_right _ _ (by omega),List.set_append_right _ _ (by omega),hlen]
 rw[show k-(k-1)=1 from by omega,Nat.sub_self]
 rfl
theorem Lq{v:Service}{ss:List Service}{k:Nat}:(m7 v ss k).Perm (ss++[v]):=by
 unfold m7;refine List.perm_middle.trans ?_
 rw[List.take_append_drop];exact(List.perm_append_singleton v ss).symm
theorem NX{v:Service}{ss:List Service}{k:Nat}(ha:Asc ss)(hk:k≤ss.length)(hB:∀x∈ss.drop k,V9 v.Name x.Name=true)(hA:k=0∨∃y,ss[k-1]? = some y∧V9 v.Name y.Name=false):Asc (m7 v ss k):=by
 unfold m7 Asc;have hs:(ss.take k++ss.drop k).Pairwise fun a b=>V9 b.Name a.Name=false:=by rw[List.take_append_drop];exact ha
 rw[List.pairwise_append]at hs ⊢
 refine⟨hs.1,List.pairwise_cons.2 ⟨fun x hx=>BF (hB x hx),hs.2.1⟩,fun a haa b hb=>?_⟩
 rcases List.mem_cons.1 hb with rfl|hb
 ·rcases hA with rfl|⟨y,hy,hvy⟩
  ·simp at haa
  ·obtain⟨i,hi,hie⟩:=List.getElem_of_mem haa
   rw[List.length_take]at hi;obtain⟨hl,hye⟩:=List.getElem?_eq_some_iff.1 hy
   have hay:V9 y.Name a.Name=false:=by
    by_cases hik:i=k-1
    ·subst hik;have:a=y:=by rw[←hie,←hye,List.getElem_take]
     rw[this];exact P2 _
    ·have:=(List.pairwise_iff_getElem.1 ha) i (k-1) (by omega) (by omega) (by omega)
     rw[List.getElem_take]at hie;rw[hie,hye]at this;exact this
   cases hc:V9 b.Name a.Name with
   | false=>rfl
   | true=>
    cases hd:V9 y.Name b.Name with
    | true=>have:=l9 hd hc;rw[this]at hay;cases hay
    | false=>rw[l7 hvy hd]at hc;rw[hc]at hay;cases hay
 ·exact hs.2.2 a haa b hb
theorem Fl(Γ:B8)(S:List A7)(w:World)(b:Nat)(v1 v2:Value)(ss:List Service)(ws:List B4)(v:Service)[SB v.Name](hss:ss.length≤64)(hws:ws.length≤64)(ha:Asc ss)(hw:Wd Γ (L1 b v1 v2 ss ws++S) w) :
  Calls Tryz.prog 26 #[.pointer (some ⟨b,0,none⟩),.agg (enc v).toArray] w fun e w'=>∃fv v1' v2' ss',e=.returned (.tuple #[fv,.int .i64 (O8 ss v)])∧(O8 ss v≠0→ss'=ss)∧(O8 ss v=0→ss'.Perm (ss++[v])∧Asc ss') ∧
   Wd Γ (.own fv 88 6 ((if O8 ss v=0 then K1 v ws else []).map enc)::(L1 b v1' v2' ss' (if O8 ss v=0 then ws.filter (fun x=>!decide (x.Name=v.Name)) else ws)++S)) w':=by
 have e40:decide (1099511627776≤v.Object)=decide (1099511627775<v.Object):=by rw[decide_eq_decide];omega
 refine A3 Tryz.func26 rfl rfl ?_
 repeat first|refine B6 ?_|refine B7 ?_;intro w hw
 refine E5 ?_;intro bv w hw;repeat first|refine B6 ?_|refine B7 ?_;intro w hw
 have err:∀ {E:Int} {w},E≠0→O8 ss v=E→Wd Γ (A7.blk bv (.cells (enc v).toArray 37)::(L1 b v1 v2 ss ws++S)) w→∃fv v1' v2' ss',Ending.returned (.tuple #[.slice none 0 0,.int .i64 E])=.returned (.tuple #[fv,.int .i64 (O8 ss v)])∧(O8 ss v≠0→ss'=ss)∧(O8 ss v=0→ss'.Perm (ss++[v])∧Asc ss') ∧
   Wd Γ (.own fv 88 6 ((if O8 ss v=0 then K1 v ws else []).map enc)::(L1 b v1' v2' ss' (if O8 ss v=0 then ws.filter (fun x=>!decide (x.Name=v.Name)) else ws)++S)) w:=fun h0 hE hw=>by
  rw[hE];refine⟨.slice none 0 0,v1,v2,ss,rfl,fun _=>rfl,fun h=>absurd h h0,?_⟩
  rw[if_neg h0,if_neg h0];exact Wd.addNil hw.drop
 refine A0 rfl (fun h1=>?_) (fun h1=>?_)
 ·have hE:O8 ss v=63:=by simp[O8,show F9 v.Name=false from by simpa using h1]
  repeat first|refine B6 ?_|refine B7 ?_;intro w hw
  exact⟨_,rfl,err (by decide) hE hw⟩
 have h1:F9 v.Name=true:=by simpa using h1
 repeat first|refine B6 ?_|refine B7 ?_;intro w hw
 rw[e40];refine A0 rfl (fun h2=>?_) (fun h2=>?_)
 ·have h2:S6 v=true:=h2
  have hE:O8 ss v=1:=by simp[O8,h1,h2]
  repeat first|refine B6 ?_|refine B7 ?_;intro w hw
  exact⟨_,rfl,err (by decide) hE hw⟩
 have h2:S6 v=false:=h2
 repeat first|refine B6 ?_|refine B7 ?_;intro w hw
 refine C5 ?_;refine(EO Γ (.blk bv _::S) w b v1 v2 ss ws v.Name (hw.ps [3,3,3])).mono ?_
 rintro e w ⟨rfl,hw⟩
 have hw:=hw.ps [3]
 refine⟨_,rfl,?_⟩;repeat first|refine B6 ?_|refine B7 ?_;intro w hw
 refine A0 rfl (fun h3=>?_) (fun h3=>?_)
 ·rw[DL]at h3;have hE:O8 ss v=56:=by simp[O8,h1,h2,h3]
  repeat first|refine B6 ?_|refine B7 ?_;intro w hw
  exact⟨_,rfl,err (by decide) hE hw⟩
 rw[DL]at h3;have hw:Wd Γ (A7.blk bv (.cells (enc v).toArray 37)::(L1 b v1 v2 ss ws++S)) w:=hw
 unfold L1 at hw;obtain⟨a,n,c,rfl,hn,hnc,hc⟩:=hw.own_shape (i:=2) rfl
 obtain⟨a2,n2,c2,rfl,hn2,hnc2,hc2⟩:=hw.own_shape (i:=3) rfl
 simp only[List.length_map]at hn hn2
 repeat first|refine B6 ?_|refine B7 ?_;intro w hw
 refine A0 rfl (fun h4=>?_) (fun h4=>?_)
 ·have h4:64≤ss.length:=by have:=of_decide_eq_true h4;omega
  have hE:O8 ss v=15:=by simp[O8,h1,h2,h3,h4]
  repeat first|refine B6 ?_|refine B7 ?_;intro w hw
  exact⟨_,rfl,err (by decide) hE hw⟩
 have h4:¬64≤ss.length:=by have:=of_decide_eq_false h4;omega
 have hE:O8 ss v=0:=by simp[O8,h1,h2,h3,h4]
 clear err;repeat first|refine B6 ?_|refine B7 ?_;intro w hw
 refine HW [_,_] _ [[],[],[],[],[],[],[1],[0],[],[],[0]] [[],[],[],[],[0],[],[1],[0,1],[],[],[0]] [[62],[61]] (hw.ps [3,1]) ?_
 repeat(first|refine mY ?_|refine mP ?_|refine D9 ?_|refine G6 ?_|refine K3 ?_)
 refine FW [enc v] ?_
 refine RQ ?_
 repeat(first|refine mY ?_|refine mP ?_|refine D9 ?_|refine G6 ?_|refine K3 ?_)
 refine EJ ?_
 refine K3 fun w g hw=>?_
 have hw:=Wd.dropEnd hw
 rw[show ss.map enc++[enc v]=(m7 v ss n).map enc from by
  rw[m7,List.take_of_length_le (by omega),List.drop_of_length_le (by omega)];simp]at hw
 have hw:Wd Γ (.blk b (.cells #[g 62,.slice a2 n2 c2] 33)::.own (g 62) 37 4 ((m7 v ss n).map enc)::.own (.slice a2 n2 c2) 39 3 (ws.map enc)::.blk bv (.cells (enc v).toArray 37)::S) w:=hw.ps [1,3,3]
 generalize g 62=vv at hw
 obtain⟨ai,ni,ci,rfl,hni,-,-⟩:=hw.own_shape (i:=1) rfl
 rw[List.length_map,Ed]at hni;repeat first|refine B6 ?_|refine B7 ?_;intro w hw
 refine C8 (fun μ ρ w=>∃(k:Nat),μ=k∧k≤ss.length∧(∀x∈ss.drop k,V9 v.Name x.Name=true)∧Has ρ [(0,.pointer (some ⟨b,0,none⟩)),(3,.pointer (some ⟨bv,0,none⟩)),(6,.int .i64 k)]∧Wd Γ (.blk b (.cells #[.slice ai ni ci,.slice a2 n2 c2] 33)::.own (.slice ai ni ci) 37 4 ((m7 v ss k).map enc)::.own (.slice a2 n2 c2) 39 3 (ws.map enc)::.blk bv (.cells (enc v).toArray 37)::S) w) n ⟨n,rfl,by omega,fun x hx=>(by rw[List.drop_of_length_le (by omega)]at hx;exact absurd hx (by simp)),⟨rfl,rfl,by rw[show (n:Int)=ni-1 from by omega];rfl,trivial⟩,hw⟩ ?_
 clear hw h1 h2 h3;rintro k ρ w ⟨_,rfl,hk,hB,hρ,hw⟩
 rw[hρ.eq];have hni2:(m7 v ss k).length=ni:=by rw[Ed];omega
 have hxk:=Ra (v:=v) hk
 refine W7 ?_
 refine W7 ?_
 obtain⟨y,hy⟩:∃y:Service,0<k→ss[k-1]? = some y:=by
  by_cases h0:0<k
  ·obtain⟨y,hy⟩:=C0 (l:=ss) (k:=k-1) (by omega)
   exact⟨y,fun _=>hy⟩
  ·exact⟨default,fun h=>absurd h h0⟩
 have hyk:0<k→(m7 v ss k)[((k:Int)-1).toNat]? = some y:=fun h0=>by
  rw[←hy h0,show ((k:Int)-1).toNat=k-1 from by omega];exact Nb h0 hk
 refine L4 (by kernel_rfl) (by kernel_rfl) hw ?_
 iterate 19 (first|refine Al ?_|(apply O5;first|(apply U3;first|refine qP ?_|refine OD ?_)|refine qY ?_)|(apply J0;first|(apply U3;first|refine NG ?_|refine FX ?_)|refine qG ?_))
 apply J0
 refine qG ?_ (hy:=fun hc w hw=>by
  have h0:=hyk (by have:=of_decide_eq_true hc;omega)
  exact Nu)
 refine Hd ?_;intro w hw;refine A0 rfl (fun h=>?_) (fun h=>?_)
 ·simp only[Bool.and_eq_true,decide_eq_true_eq]at h
  have h0:0<k:=by omega
  replace hyk:=hyk h0
  replace hy:=hy h0
  have hlt:=h.2
  clear h;repeat first|refine B6 ?_|refine B7 ?_;intro w hw
  refine B2 ?_;intro bt w hw;refine B0 ?_;intro w hw;repeat first|refine B6 ?_|refine B7 ?_;intro w hw
  refine j6 [] _ [[],[],[],[],[],[],[],[],[],[],[],[],[],[],[0]] [[],[],[],[0],[],[],[],[],[0],[],[],[0],[0],[0],[0]] hw ?_
  repeat(first|refine mY ?_|refine mP ?_|refine D9 ?_|refine G6 ?_|refine K3 ?_)
  refine Kn (k:=k) (r:=enc y) ?_
  repeat(first|refine mY ?_|refine mP ?_|refine D9 ?_|refine G6 ?_|refine K3 ?_)
  intro w hw;have hw:=Wd.left (S:=A7.blk _ _::_) hw
  repeat first|refine B6 ?_|refine B7 ?_;intro w hw
  refine j6 [] _ [[],[],[],[],[],[],[],[],[0]] [[],[],[],[0],[],[],[0],[0],[0]] hw ?_
  repeat(first|refine mY ?_|refine mP ?_|refine D9 ?_|refine G6 ?_|refine K3 ?_)
  refine Kn (k:=((k:Int)-1).toNat) (r:=enc v) ?_
  repeat(first|refine mY ?_|refine mP ?_|refine D9 ?_|refine G6 ?_|refine K3 ?_)
  intro w hw;have hw:=Wd.left (S:=A7.blk _ _::_) hw
  repeat first|refine B6 ?_|refine B7 ?_;intro w hw
  refine⟨k-1,by omega,k-1,rfl,by omega,?_,⟨rfl,rfl,by rw[show ((k-1:Nat):Int)=(k:Int)-1 from by omega];rfl,trivial⟩,?_⟩
  ·obtain⟨hl,hye⟩:=List.getElem?_eq_some_iff.1 hy
   intro x hx;rw[List.drop_eq_getElem_cons hl,hye,show k-1+1=k from by omega]at hx
   rcases List.mem_cons.1 hx with rfl|hx
   ·exact hlt
   ·exact hB x hx
  ·have hw:=hw.drop
   rw[←List.map_set,←List.map_set,show ((k:Int)-1).toNat=k-1 from by omega,Ml h0 hy]at hw
   exact hw
 ·have hA:k=0∨∃y,ss[k-1]? = some y∧V9 v.Name y.Name=false:=by
   rcases Nat.eq_zero_or_pos k with h0|h0
   ·exact .inl h0
   ·exact .inr ⟨y,hy h0,by simpa[h0] using h⟩
  have hasc:=NX ha hk hB hA
  have hperm:=Lq (v:=v) (ss:=ss) (k:=k)
  have hsl:=Ed (v:=v) (ss:=ss) (k:=k)
  generalize m7 v ss k=cur at hw hasc hperm hsl
  clear hyk hxk hni2 h hA hB hy hρ;repeat first|refine B6 ?_|refine B7 ?_;intro w hw
  refine C8 (fun μ ρ w=>∃(k:Nat) (g g2:Value),μ+k=n2∧Has ρ [(0,.pointer (some ⟨b,0,none⟩)),(3,.pointer (some ⟨bv,0,none⟩)),(8,g),(9,g2),(10,.int .i64 k)]∧Wd Γ (.own g 88 6 ((K1 v (ws.take k)).map enc)::.own g2 39 3 (((ws.take k).filter fun x=>!decide (x.Name=v.Name)).map enc)::.own (.slice a2 n2 c2) 39 3 (ws.map enc)::.blk bv (.cells (enc v).toArray 37)::.blk b (.cells #[.slice ai ni ci,.slice a2 n2 c2] 33)::.own (.slice ai ni ci) 37 4 (cur.map enc)::S) w) n2 ⟨0,.slice none 0 0,.slice none 0 0,by omega,⟨rfl,rfl,rfl,rfl,rfl,trivial⟩,Wd.addNil (Wd.addNil (hw.ps [1,1,3,3]))⟩ ?_
  clear hw;rintro μ ρ w ⟨k,g,g2,hk,hρ,hw⟩
  rw[hρ.eq];obtain⟨ag,ng,cg,rfl,hng,-,-⟩:=hw.own_shape (i:=0) rfl
  obtain⟨ah,nh,ch,rfl,hnh,-,-⟩:=hw.own_shape (i:=1) rfl
  have hl1:=Q0 (p:=fun x=>decide (x.Name=v.Name)) (l:=ws) (k:=k)
  have hl2:=Q0 (p:=fun x=>!decide (x.Name=v.Name)) (l:=ws) (k:=k)
  simp only[List.length_map,K1]at hng hnh
  repeat first|refine B6 ?_|refine B7 ?_;intro w hw
  refine A0 rfl (fun h=>?_) (fun h=>?_)
  ·have hkn:k<n2:=by simpa using h
   obtain⟨x,hx⟩:=C0 (l:=ws) (k:=k) (by omega)
   repeat(first|refine B6 ?_|(refine B7 ?_;intro w hw)|(refine B2 ?_;intro _ w hw)|(refine E5 ?_;intro _ w hw)|(refine B0 ?_;intro w hw))
   refine A0 rfl (fun h2=>?_) (fun h2=>?_)
   ·repeat first|refine B6 ?_|refine B7 ?_;intro w hw
    refine D7 [enc (SH v x)] ?_
    intro a4 w hw;have h2:decide (x.Name=v.Name)=true:=by simpa using h2
    refine Bp (i:=2) (rows2:=[enc (SH v x)]) ?_ (Wd.own_rd (i:=0) hw rfl)
    intro v' w hw;repeat first|refine B6 ?_|refine B7 ?_;intro w hw
    refine⟨μ-1,by omega,k+1,v',.slice ah nh ch,by omega,⟨rfl,rfl,rfl,rfl,rfl,trivial⟩,?_⟩
    unfold K1;rw[L0 hx,L0 hx,h2];simpa[K1] using hw.drop.drop
   ·have h2:decide (x.Name=v.Name)=false:=by simpa using h2
    repeat first|refine B6 ?_|refine B7 ?_;intro w hw
    refine D7 [enc x] ?_
    intro a4 w hw;refine Bp (i:=3) (rows2:=[enc x]) ?_ (Wd.own_rd (i:=0) hw rfl)
    intro v' w hw;repeat first|refine B6 ?_|refine B7 ?_;intro w hw
    refine⟨μ-1,by omega,k+1,.slice ag ng cg,v',by omega,⟨rfl,rfl,rfl,rfl,rfl,trivial⟩,?_⟩
    unfold K1;rw[L0 hx,L0 hx,h2];simpa[K1] using hw.drop.drop
  ·have hkn:¬k<n2:=by simpa using h
   have hk2:ws.take k=ws:=List.take_of_length_le (by omega)
   rw[hk2]at hw;repeat(first|refine B6 ?_|(refine B7 ?_;intro w hw)|(refine B2 ?_;intro _ w hw)|(refine E5 ?_;intro _ w hw)|(refine B0 ?_;intro w hw))
   rw[hE];refine⟨_,rfl,.slice ag ng cg,.slice ai ni ci,.slice ah nh ch,cur,rfl,fun h=>absurd rfl h,fun _=>⟨hperm,hasc⟩,?_⟩
   rw[if_pos rfl,if_pos rfl];exact((hw.ds [2,2]).ps [3,3,2])
set_option maxHeartbeats 4000000
def M7(ss:List Service)(ws:List B4)(x:B4):Int:=
 if F9 x.Name=false then 63 else if (!BZ x.Core||decide (x.Token≤0))=true then 1 else if (ws.findIdx? (KJ x.Token x.Core)).isSome then 56 else if (Y9 ss x.Name).isNone∧64≤ws.length then 15 else 0
def FF(ss:List Service)(ws:List B4)(x:B4):List B4:=if M7 ss ws x=0∧(Y9 ss x.Name).isNone then ws++[x] else ws
def Fi(ss:List Service)(ws:List B4)(x:B4):Bool:=decide (M7 ss ws x=0)&&(Y9 ss x.Name).isSome
def Fg(ss:List Service)(ws:List B4)(x:B4):Service:=if M7 ss ws x=0 then (Y9 ss x.Name).getD default else default
theorem Ju(Γ:B8)(S:List A7)(w:World)(b:Nat)(v1 v2:Value)(ss:List Service)(ws:List B4)(x:B4)[SB x.Name](hws:ws.length≤64)(hw:Wd Γ (L1 b v1 v2 ss ws++S) w) :
  Calls Tryz.prog 32 #[.pointer (some ⟨b,0,none⟩),.agg (enc x).toArray] w fun e w'=>∃v2',e=.returned (.tuple #[O3 (Fg ss ws x),.bool (Fi ss ws x),.int .i64 (M7 ss ws x)])∧Wd Γ (L1 b v1 v2' ss (FF ss ws x)++S) w':=by
 unfold L1 at hw;obtain⟨a,n,c,rfl,hn,hnc,hc⟩:=hw.own_shape (i:=1) rfl
 obtain⟨a2,n2,c2,rfl,hn2,hnc2,hc2⟩:=hw.own_shape (i:=2) rfl
 simp only[List.length_map]at hn hn2
 refine F8 Tryz.func32 rfl rfl ?_
 repeat first|refine B6 ?_|refine B7 ?_;intro w hw
 refine E5 ?_;intro bx w hw;refine B2 ?_;intro br w hw;have fin:∀ {e:Int} {w} {S':List A7},M7 ss ws x=e→e≠0→Wd Γ (S'++(L1 b (.slice a n c) (.slice a2 n2 c2) ss ws++S)) w→Wd Γ (L1 b (.slice a n c) (.slice a2 n2 c2) ss (FF ss ws x)++S) w∧Fi ss ws x=false∧Fg ss ws x=default:=fun h1 h2 h3=>by
  subst h1;exact⟨by rw[show FF ss ws x=ws from by simp[FF,h2]];exact h3.right,by simp[Fi,h2],by simp[Fg,h2]⟩
 repeat first|refine B6 ?_|refine B7 ?_;intro w hw
 refine A0 rfl (fun h1=>?_) (fun h1=>?_)
 ·have hE:M7 ss ws x=63:=by simp[M7,show F9 x.Name=false from by simpa using h1]
  repeat(first|refine B6 ?_|(refine B7 ?_;intro w hw)|(refine B2 ?_;intro _ w hw)|(refine E5 ?_;intro _ w hw)|(refine B0 ?_;intro w hw))
  obtain⟨f1,f2,f3⟩:=fin (S':=[_,_]) hE (by decide) hw
  rw[f2,f3,hE];exact⟨[O3 default,.bool false,.int .i64 63],⟨J6 (i:=0) hw rfl rfl rfl,rfl,rfl,trivial⟩,_,rfl,f1⟩
 have h1:F9 x.Name=true:=by simpa using h1
 repeat first|refine B6 ?_|refine B7 ?_;intro w hw
 refine A0 rfl (fun h2=>?_) (fun h2=>?_)
 ·have h2:(!BZ x.Core||decide (x.Token≤0))=true:=h2
  have hE:M7 ss ws x=1:=by simp only[M7,h1,h2];simp
  repeat(first|refine B6 ?_|(refine B7 ?_;intro w hw)|(refine B2 ?_;intro _ w hw)|(refine E5 ?_;intro _ w hw)|(refine B0 ?_;intro w hw))
  obtain⟨f1,f2,f3⟩:=fin (S':=[_,_]) hE (by decide) hw
  rw[f2,f3,hE];exact⟨[O3 default,.bool false,.int .i64 1],⟨J6 (i:=0) hw rfl rfl rfl,rfl,rfl,trivial⟩,_,rfl,f1⟩
 have h2:(!BZ x.Core||decide (x.Token≤0))=false:=h2
 repeat first|refine B6 ?_|refine B7 ?_;intro w hw
 refine C5 ?_;refine(Dd Γ ([A7.blk br _,A7.blk bx _]++S) w b _ _ ss ws x.Token x.Core (Wd.swapApp (A:=[_,_]) hw)).mono ?_
 rintro e w ⟨rfl,hw⟩
 have hw:=Wd.swapApp (B:=[_,_]) hw
 refine⟨_,rfl,?_⟩;repeat first|refine B6 ?_|refine B7 ?_;intro w hw
 refine A0 rfl (fun h3=>?_) (fun h3=>?_)
 ·rw[DL]at h3;have hE:M7 ss ws x=56:=by simp only[M7,h1,h2,h3];simp
  repeat(first|refine B6 ?_|(refine B7 ?_;intro w hw)|(refine B2 ?_;intro _ w hw)|(refine E5 ?_;intro _ w hw)|(refine B0 ?_;intro w hw))
  obtain⟨f1,f2,f3⟩:=fin (S':=[_,_]) hE (by decide) hw
  rw[f2,f3,hE];exact⟨[O3 default,.bool false,.int .i64 56],⟨J6 (i:=0) hw rfl rfl rfl,rfl,rfl,trivial⟩,_,rfl,f1⟩
 rw[DL]at h3;repeat first|refine B6 ?_|refine B7 ?_;intro w hw
 refine C5 ?_;refine(EO Γ ([A7.blk br _,A7.blk bx _]++S) w b _ _ ss ws x.Name (Wd.swapApp (A:=[_,_]) hw)).mono ?_
 rintro e w ⟨rfl,hw⟩
 have hw:=Wd.swapApp (B:=[_,_]) hw
 refine⟨_,rfl,?_⟩;unfold L1 at hw;cases hf:ss.findIdx? (He x.Name) with
 | some k=>
  have hk:=U8 hf
  obtain⟨y,hy⟩:=C0 (l:=ss) (k:=k) (by omega)
  have hg:Y9 ss x.Name=some y:=by simp[Y9,hf,hy]
  have hE:M7 ss ws x=0:=by simp only[M7,h1,h2,h3,hg];simp
  have hz:Hf (some k)=(k:Int):=rfl
  clear fin;repeat first|refine B6 ?_|refine B7 ?_;intro w hw
  refine A0 rfl (fun _=>?_) (fun h=>absurd h (by simp[hz]))
  repeat(first|refine B6 ?_|(refine B7 ?_;intro w hw)|(refine B2 ?_;intro _ w hw)|(refine E5 ?_;intro _ w hw)|(refine B0 ?_;intro w hw))
  refine⟨[O3 y,.bool true,.int .i64 0],⟨J6 (i:=0) hw rfl rfl rfl,rfl,rfl,trivial⟩,.slice a2 n2 c2,?_,?_⟩
  ·rw[show Fg ss ws x=y from by simp[Fg,hE,hg],show Fi ss ws x=true from by simp[Fi,hE,hg],hE];rfl
  ·rw[show FF ss ws x=ws from by simp[FF,hg]]
   exact hw.drop.drop
 | none=>
  have hg:Y9 ss x.Name=none:=by simp[Y9,hf]
  repeat first|refine B6 ?_|refine B7 ?_;intro w hw
  refine A0 rfl (fun h=>absurd h (by simp[Hf])) (fun _=>?_)
  repeat first|refine B6 ?_|refine B7 ?_;intro w hw
  refine A0 rfl (fun h4=>?_) (fun h4=>?_)
  ·have h4:64≤ws.length:=by have:=of_decide_eq_true h4;omega
   have hE:M7 ss ws x=15:=by simp only[M7,h1,h2,h3,hg];simp[h4]
   repeat(first|refine B6 ?_|(refine B7 ?_;intro w hw)|(refine B2 ?_;intro _ w hw)|(refine E5 ?_;intro _ w hw)|(refine B0 ?_;intro w hw))
   obtain⟨f1,f2,f3⟩:=fin (S':=[_,_]) hE (by decide) hw
   rw[f2,f3,hE];exact⟨[O3 default,.bool false,.int .i64 15],⟨J6 (i:=0) hw rfl rfl rfl,rfl,rfl,trivial⟩,_,rfl,f1⟩
  have h4:¬64≤ws.length:=by have:=of_decide_eq_false h4;omega
  have hE:M7 ss ws x=0:=by simp only[M7,h1,h2,h3,hg];simp;omega
  clear fin;repeat first|refine B6 ?_|refine B7 ?_;intro w hw
  refine HW [_,_,_] _ [[],[],[],[],[],[],[1],[0],[],[],[0]] [[],[],[],[],[0],[],[1],[0,1],[],[],[0]] [[61],[60]] (hw.ps [3,2,2]) ?_
  repeat(first|refine mY ?_|refine mP ?_|refine D9 ?_|refine G6 ?_|refine K3 ?_)
  refine FW [enc x] ?_
  refine RQ ?_
  repeat(first|refine mY ?_|refine mP ?_|refine D9 ?_|refine G6 ?_|refine K3 ?_)
  refine EJ ?_
  refine K3 fun w g hw=>?_
  have hw:Wd Γ (A7.blk br _::A7.blk bx _::.blk b (.cells #[.slice a n c,g 61] 33)::.own (.slice a n c) 37 4 (ss.map enc)::.own (g 61) 39 3 (ws.map enc++[enc x])::S) w:=(Wd.dropEnd hw).ps [2,3,3,3]
  rw[show ws.map enc++[enc x]=(ws++[x]).map enc from by simp]at hw
  generalize g 61=vs' at hw
  repeat(first|refine B6 ?_|(refine B7 ?_;intro w hw)|(refine B2 ?_;intro _ w hw)|(refine E5 ?_;intro _ w hw)|(refine B0 ?_;intro w hw))
  refine⟨[O3 default,.bool false,.int .i64 0],⟨J6 (i:=0) hw rfl rfl rfl,rfl,rfl,trivial⟩,vs',?_,?_⟩
  ·rw[show Fg ss ws x=default from by simp[Fg,hg],show Fi ss ws x=false from by simp[Fi,hg],hE];rfl
  ·rw[show FF ss ws x=ws++[x] from by simp[FF,hE,hg]]
   exact hw.drop.drop
set_option maxHeartbeats 2000000
theorem Ct(Γ:B8)(S:List A7)(w:World)(va vb:Value)(xs ys:List Service)(hw:Wd Γ (.own va 37 4 (xs.map enc)::.own vb 37 4 (ys.map enc)::S) w) :
  Calls Tryz.prog 35 #[va,vb] w fun e w'=>e=.returned (.bool (decide (xs=ys)))∧Wd Γ (.own va 37 4 (xs.map enc)::.own vb 37 4 (ys.map enc)::S) w':=by
 obtain⟨a,n,c,rfl,hn,hnc,hc⟩:=hw.own_shape (i:=0) rfl
 obtain⟨b,m,c',rfl,hm,hmc,hc'⟩:=hw.own_shape (i:=1) rfl
 simp only[List.length_map]at hn hm
 refine A3 Tryz.func35 rfl rfl ?_
 repeat first|refine B6 ?_|refine B7 ?_;intro w hw
 refine A0 rfl (fun h=>?_) (fun h=>?_)
 ·repeat first|refine B6 ?_|refine B7 ?_;intro w hw
  refine⟨_,rfl,G7 rfl ?_,hw⟩
  have:xs≠ys:=fun e=>by subst e;simp at h;omega
  simp[this]
 ·repeat first|refine B6 ?_|refine B7 ?_;intro w hw
  have hnm:n=m:=by simp at h;omega
  refine C8 (fun μ ρ w=>∃k:Nat,μ+k=n∧Has ρ [(0,.slice a n c),(1,.slice b m c'),(5,.int .i64 k)]∧Wd Γ (.own (.slice a n c) 37 4 (xs.map enc)::.own (.slice b m c') 37 4 (ys.map enc)::S) w∧∀i,i<k→xs[i]? = ys[i]?) n ⟨0,rfl,⟨rfl,rfl,rfl,trivial⟩,hw,fun i h=>absurd h (Nat.not_lt_zero i)⟩ ?_
  rintro μ ρ w ⟨k,hk,hρ,hw,hi⟩
  rw[hρ.eq];repeat first|refine B6 ?_|refine B7 ?_;intro w hw
  refine A0 rfl (fun h=>?_) (fun h=>?_)
  ·have hkn:k<n:=by simpa using h
   obtain⟨x,hx⟩:=C0 (l:=xs) (k:=k) (by omega)
   obtain⟨y,hy⟩:=C0 (l:=ys) (k:=k) (by omega)
   repeat first|refine B6 ?_|refine B7 ?_;intro w hw
   refine L4 (by kernel_rfl) (by kernel_rfl) hw ?_
   refine Hd ?_;intro w hw;refine A0 rfl (fun h2=>?_) (fun h2=>?_)
   ·repeat first|refine B6 ?_|refine B7 ?_;intro w hw
    refine⟨_,rfl,G7 rfl ?_,hw⟩
    have:xs≠ys:=fun e=>by subst e;rw[hx]at hy;cases hy;simp at h2
    simp[this]
   ·repeat first|refine B6 ?_|refine B7 ?_;intro w hw
    refine⟨μ-1,by omega,k+1,by omega,⟨rfl,rfl,rfl,trivial⟩,hw,fun i hi'=>?_⟩
    by_cases e:i=k
    ·subst e;rw[hx,hy];simpa using h2
    ·exact hi i (by omega)
  ·repeat first|refine B6 ?_|refine B7 ?_;intro w hw
   refine⟨_,rfl,G7 rfl ?_,hw⟩
   have:xs=ys:=List.ext_getElem? fun i=>by
    by_cases e:i<k
    ·exact hi i e
    ·have:¬k<n:=by simpa using h
     rw[List.getElem?_eq_none (by omega),List.getElem?_eq_none (by omega)]
   simp[this]
theorem Ft(Γ:B8)(S:List A7)(w:World)(va vb:Value)(xs ys:List Found)(hw:Wd Γ (.own va 88 6 (xs.map enc)::.own vb 88 6 (ys.map enc)::S) w) :
  Calls Tryz.prog 27 #[va,vb] w fun e w'=>e=.returned (.bool (decide (xs=ys)))∧Wd Γ (.own va 88 6 (xs.map enc)::.own vb 88 6 (ys.map enc)::S) w':=by
 obtain⟨a,n,c,rfl,hn,hnc,hc⟩:=hw.own_shape (i:=0) rfl
 obtain⟨b,m,c',rfl,hm,hmc,hc'⟩:=hw.own_shape (i:=1) rfl
 simp only[List.length_map]at hn hm
 refine A3 Tryz.func27 rfl rfl ?_
 repeat first|refine B6 ?_|refine B7 ?_;intro w hw
 refine A0 rfl (fun h=>?_) (fun h=>?_)
 ·repeat first|refine B6 ?_|refine B7 ?_;intro w hw
  refine⟨_,rfl,G7 rfl ?_,hw⟩
  have:xs≠ys:=fun e=>by subst e;simp at h;omega
  simp[this]
 ·repeat first|refine B6 ?_|refine B7 ?_;intro w hw
  have hnm:n=m:=by simp at h;omega
  refine C8 (fun μ ρ w=>∃k:Nat,μ+k=n∧Has ρ [(0,.slice a n c),(1,.slice b m c'),(5,.int .i64 k)]∧Wd Γ (.own (.slice a n c) 88 6 (xs.map enc)::.own (.slice b m c') 88 6 (ys.map enc)::S) w∧∀i,i<k→xs[i]? = ys[i]?) n ⟨0,rfl,⟨rfl,rfl,rfl,trivial⟩,hw,fun i h=>absurd h (Nat.not_lt_zero i)⟩ ?_
  rintro μ ρ w ⟨k,hk,hρ,hw,hi⟩
  rw[hρ.eq];repeat first|refine B6 ?_|refine B7 ?_;intro w hw
  refine A0 rfl (fun h=>?_) (fun h=>?_)
  ·have hkn:k<n:=by simpa using h
   obtain⟨x,hx⟩:=C0 (l:=xs) (k:=k) (by omega)
   obtain⟨y,hy⟩:=C0 (l:=ys) (k:=k) (by omega)
   repeat first|refine B6 ?_|refine B7 ?_;intro w hw
   refine L4 (by kernel_rfl) (by kernel_rfl) hw ?_
   refine Hd ?_;intro w hw;refine A0 rfl (fun h2=>?_) (fun h2=>?_)
   ·repeat first|refine B6 ?_|refine B7 ?_;intro w hw
    refine⟨_,rfl,G7 rfl ?_,hw⟩
    have:xs≠ys:=fun e=>by subst e;rw[hx]at hy;cases hy;simp at h2
    simp[this]
   ·repeat first|refine B6 ?_|refine B7 ?_;intro w hw
    refine⟨μ-1,by omega,k+1,by omega,⟨rfl,rfl,rfl,trivial⟩,hw,fun i hi'=>?_⟩
    by_cases e:i=k
    ·subst e;rw[hx,hy];simpa using h2
    ·exact hi i (by omega)
  ·repeat first|refine B6 ?_|refine B7 ?_;intro w hw
   refine⟨_,rfl,G7 rfl ?_,hw⟩
   have:xs=ys:=List.ext_getElem? fun i=>by
    by_cases e:i<k
    ·exact hi i e
    ·have:¬k<n:=by simpa using h
     rw[List.getElem?_eq_none (by omega),List.getElem?_eq_none (by omega)]
   simp[this]
end Go.Proofs.YtlimglpjpcfpdaaGreat
end
section
open Go
namespace Mk
theorem OL{P:Program}{d:Option Tmp}{T ty:TypeId}{x y:Operand}{pos:String}{es:Array Edge}{g:Option (Nat×Bool)}{ρ:Fr}{w:World}{n E:Nat}{cs:Array Value}{i:Int}{k:IntKind}{v:Value}[hT:UF P T n E 1][hE:TS P E](hx:ev ρ x=.agg cs)(hy:ev ρ y=.int k i)(h0:0≤i)(h1:i<n)(hv:cs[i.toNat]? = some v):Yields P ⟨d,.index T x y,ty,pos,es,g⟩ ρ w v:=by
 have hT1:=hT.h
 have hT2:=hT.s
 have hE:=hE.h
 unfold Yields;simp[execOp,go_sem,hx,hy,h0,h1,hT1,Instr.index,part,run_underlying hT1,x0 hE,MP hE,hv]
end Mk
open Mk
namespace Go.Proofs.YtlimglpjpcfpdaaGreat
set_option maxHeartbeats 4000000
attribute [local irreducible] Calls
structure Step where
 What:Int
 Name:Int
 Core:Int
 V:Int
 Raw:Bool
 S:Service
 W:B4
instance:EF Step where
 enc a:=[.int .i64 a.What,.int .i64 a.Name,.int .i64 a.Core,.int .i64 a.V,.bool a.Raw,.string a.S.Name,.int .i64 a.S.Core,.int .i64 a.S.Object,.int .i64 a.S.Kind,.int .i64 a.W.Token,.int .i64 a.W.Core,.string a.W.Name]
 inj a b h:=by
  obtain⟨_,_,_,_,_,⟨_,_,_,_⟩,⟨_,_,_⟩⟩:=a;obtain⟨_,_,_,_,_,⟨_,_,_,_⟩,⟨_,_,_⟩⟩:=b;simp at h;simp[h]
 ks:=[5,5,5,5,0,1,5,5,5,5,5,1]
 kinds a:=rfl
instance:TBA Tryz.prog 232 1 (List.replicate 8 (.string ⟨#[]⟩)):=⟨by kernel_rfl,by kernel_rfl⟩
def TY:List ByteArray:=[⟨#[97]⟩,⟨#[98]⟩,⟨#[99]⟩,⟨#[100,105,115,107]⟩,⟨#[110,101,116]⟩,⟨#[95,120]⟩,⟨#[84,105,109,101,114]⟩,⟨#[57]⟩]
def nm(v:Int):ByteArray:=TY.getD (v%8).toNat ⟨#[]⟩
instance (v:Int):PC Tryz.prog 80 [.int .i64 v] (.string (nm v)):=⟨fun w=>by
 have h0:0≤v%8:=Int.emod_nonneg v (by decide)
 have h1:v%8<8:=Int.emod_lt_of_pos v (by decide)
 have hv:(TY.map Value.string).toArray[(v%8).toNat]? = some (.string (nm v)):=by
  have hl:(v%8).toNat<TY.length:=by show _<8;omega
  unfold nm;simp[List.getD,List.getElem?_eq_getElem hl]
 refine A3 Tryz.func80 rfl rfl ?_
 refine A4 ?_;refine lY ?_ (hy:=OL (n:=8) (E:=9) rfl rfl h0 h1 hv)
 refine A4 ?_;exact⟨_,rfl,rfl,rfl⟩⟩
def Cq(x:Step):Bool:=x.Raw&&decide ((x.S.Name.size:Int)≤60)&&decide ((x.W.Name.size:Int)≤60)
def Mv(x:Step):Service:=if Cq x=true then x.S else ⟨nm x.Name,x.Core%4,64*(x.V%100),x.V%3⟩
def Mq(x:Step):B4:=if Cq x=true then x.W else ⟨1+x.V%5,x.Core%4,nm x.Name⟩
theorem Ln(Γ:B8)(S:List A7)(w:World)(x:Step)(hw:Wd Γ S w) :
  Calls Tryz.prog 25 #[.agg (enc x).toArray] w fun e w'=>e=.returned (.tuple #[O3 (Mv x),.agg (enc (Mq x)).toArray])∧Wd Γ S w':=by
 refine F8 Tryz.func25 rfl rfl ?_
 repeat first|refine B6 ?_|refine B7 ?_;intro w hw
 refine E5 ?_;intro b1 w hw;refine B2 ?_;intro b2 w hw;refine B2 ?_;intro b3 w hw;repeat first|refine B6 ?_|refine B7 ?_;intro w hw
 refine A0 rfl (fun h=>?_) (fun h=>?_)
 ·have h:Cq x=true:=h
  repeat first|refine B6 ?_|refine B7 ?_;intro w hw
  refine j6 [_] _ [[],[],[],[],[0],[0]] [[],[],[],[],[0],[0]] (hw.ps [2]) ?_
  repeat(first|refine mY ?_|refine mP ?_|refine D9 ?_|refine G6 ?_|refine K3 ?_)
  refine Q2 (j:=1) ?_
  repeat(first|refine mY ?_|refine mP ?_|refine D9 ?_|refine G6 ?_|refine K3 ?_)
  refine Q2 (j:=0) ?_
  repeat(first|refine mY ?_|refine mP ?_|refine D9 ?_|refine G6 ?_|refine K3 ?_)
  intro w hw;have hw:=Wd.dropEnd (A:=[_]) hw
  repeat first|refine B6 ?_|refine B7 ?_;intro w hw
  refine⟨[O3 (Mv x),.agg (enc (Mq x)).toArray],⟨?_,?_,trivial⟩,rfl,hw.drop.drop.drop⟩
  ·rw[show Mv x=x.S from by simp[Mv,h]]
   exact J6 (i:=2) hw rfl rfl rfl
  ·rw[show Mq x=x.W from by simp[Mq,h]]
   exact J6 (i:=1) hw rfl rfl rfl
 ·have h:Cq x=false:=h
  repeat first|refine B6 ?_|refine B7 ?_;intro w hw
  refine j6 [_] _ [[],[],[],[],[],[],[],[],[],[],[],[],[],[],[],[],[],[],[],[],[],[0],[0]] [[],[],[],[],[],[],[],[],[],[],[],[],[],[],[],[],[],[],[],[],[],[0],[0]] (hw.ps [2]) ?_
  repeat(first|refine mY ?_|refine mP ?_|refine D9 ?_|refine G6 ?_|refine K3 ?_)
  refine mY (v:=.agg (enc (⟨nm x.Name,x.Core%4,64*(x.V%100),x.V%3⟩:Service)).toArray) ?_ rfl rfl rfl (fun Y w g hw=>Cc rfl)
  repeat(first|refine mY ?_|refine mP ?_|refine D9 ?_|refine G6 ?_|refine K3 ?_)
  refine mY (v:=.agg (enc (⟨1+x.V%5,x.Core%4,nm x.Name⟩:B4)).toArray) ?_ rfl rfl rfl (fun Y w g hw=>Cc rfl)
  repeat(first|refine mY ?_|refine mP ?_|refine D9 ?_|refine G6 ?_|refine K3 ?_)
  refine Q2 (j:=1) ?_
  repeat(first|refine mY ?_|refine mP ?_|refine D9 ?_|refine G6 ?_|refine K3 ?_)
  refine Q2 (j:=0) ?_
  repeat(first|refine mY ?_|refine mP ?_|refine D9 ?_|refine G6 ?_|refine K3 ?_)
  intro w hw;have hw:=Wd.dropEnd (A:=[_]) hw
  repeat first|refine B6 ?_|refine B7 ?_;intro w hw
  refine⟨[O3 (Mv x),.agg (enc (Mq x)).toArray],⟨?_,?_,trivial⟩,rfl,hw.drop.drop.drop⟩
  ·rw[show Mv x=⟨nm x.Name,x.Core%4,64*(x.V%100),x.V%3⟩ from by simp[Mv,h]]
   exact J6 (i:=2) hw rfl rfl rfl
  ·rw[show Mq x=⟨1+x.V%5,x.Core%4,nm x.Name⟩ from by simp[Mq,h]]
   exact J6 (i:=1) hw rfl rfl rfl
def woK(token core:Int)(all:Bool)(x:B4):Bool:=decide (x.Core≠core)||(!all&&decide (x.Token≠token))
end Go.Proofs.YtlimglpjpcfpdaaGreat
end
section
open Go Mk
namespace Go.Proofs.YtlimglpjpcfpdaaGreat
set_option maxHeartbeats 400000
attribute [local irreducible] Calls
structure Inv(m:List (ByteArray×Service))(ws:List B4):Prop where
 key:∀p∈m,p.1=p.2.Name
 nd:(m.map (·.1)).Nodup
 ml:m.length≤64
 wl:ws.length≤64
 wu:ws.Pairwise fun a b=>¬(a.Token=b.Token∧a.Core=b.Core)
 fr:∀x∈ws,x.Name∉m.map (·.1)
 gd:∀p∈m,F9 p.2.Name=true∧S6 p.2=false
theorem RB:Inv [] []:=⟨fun _ h=>by simp at h,by simp,by simp,by simp,by simp,fun _ h=>by simp at h,fun _ h=>by simp at h⟩
theorem Gx{m m':List (ByteArray×Service)}{ws ws':List B4}(h:Inv m ws)(h1:m'.Sublist m)(h2:ws'.Sublist ws):Inv m' ws':=
 ⟨fun p hp=>h.key p (h1.subset hp),h.nd.sublist (h1.map _),Nat.le_trans h1.length_le h.ml,Nat.le_trans h2.length_le h.wl,h.wu.sublist h2,fun x hx hm=>h.fr x (h2.subset hx) ((h1.map _).subset hm),fun p hp=>h.gd p (h1.subset hp)⟩
theorem FN{m:List (ByteArray×Service)}{a:ByteArray}{v:Service}(h:D2 m a=none):AA m a v=m++[(a,v)]:=by
 unfold D2 at h;unfold AA;cases hi:BY m a with
 | none=>rfl
 | some i=>
  obtain⟨u,hu⟩:=f0 hi
  rw[hi]at h;simp[hu]at h
theorem RG{m:List (ByteArray×Service)}{ws:List B4}(h:Inv m ws)(v:Service):Inv (V2 m v) (j9 m ws v):=by
 by_cases hE:H7 m v=0
 ·have hg:D2 m v.Name=none:=by
   unfold H7 at hE;cases hg:D2 m v.Name with
   | none=>rfl
   | some u=>
    rw[hg]at hE;split at hE
    ·simp at hE
    split at hE
    ·simp at hE
    simp at hE
  have hl:m.length≠64:=by
   intro hl;unfold H7 at hE;rw[hg,if_pos hl]at hE;split at hE
   ·simp at hE
   split at hE
   ·simp at hE
   simp at hE
  have h1:V2 m v=m++[(v.Name,v)]:=by unfold V2;rw[if_pos hE,FN hg]
  have h2:j9 m ws v=ws.filter fun x=>!decide (x.Name=v.Name):=by unfold j9;rw[if_pos hE]
  rw[h1,h2];have hs:(ws.filter fun x=>!decide (x.Name=v.Name)).Sublist ws:=List.filter_sublist
  refine⟨fun p hp=>?_,?_,?_,Nat.le_trans hs.length_le h.wl,h.wu.sublist hs,fun x hx hm=>?_,fun p hp=>?_⟩
  ·rcases List.mem_append.1 hp with hp|hp
   ·exact h.key p hp
   ·simp at hp;subst hp;rfl
  ·rw[List.map_append,List.nodup_append];refine⟨h.nd,by simp,fun a ha b hb=>?_⟩
   simp only[List.map_cons,List.map_nil,List.mem_singleton]at hb
   subst hb;intro he;subst he;exact Az.1 hg ha
  ·have:=h.ml
   simp;omega
  ·rw[List.mem_filter]at hx;rw[List.map_append,List.mem_append]at hm;rcases hm with hm|hm
   ·exact h.fr x hx.1 hm
   ·simp at hm;simp[hm]at hx
  ·rcases List.mem_append.1 hp with hp|hp
   ·exact h.gd p hp
   ·simp at hp;subst hp
    unfold H7 at hE;split at hE
    ·simp at hE
    rename_i q1
    split at hE
    ·simp at hE
    rename_i q2
    exact⟨by simpa using q1,by simpa using q2⟩
 ·rw[show V2 m v=m from by simp[V2,hE],show j9 m ws v=ws from by simp[j9,hE]];exact h
theorem Sa{m:List (ByteArray×Service)}{ws:List B4}(h:Inv m ws)(name:ByteArray)(core:Int):Inv (Hc m name core) ws:=by
 unfold Hc;split
 ·exact Gx h CH (List.Sublist.refl _)
 ·exact h
theorem Sy{m:List (ByteArray×Service)}{ws:List B4}(h:Inv m ws)(x:B4):Inv m (JR m ws x):=by
 unfold JR;split
 ·rename_i hE
  obtain⟨hE,hg⟩:=hE;have hg:D2 m x.Name=none:=by simpa using hg
  unfold Q7 at hE;rw[hg]at hE;split at hE
  ·simp at hE
  split at hE
  ·simp at hE
  split at hE
  ·simp at hE
  rename_i hf
  split at hE
  ·simp at hE
  rename_i hl
  have hl:ws.length≠64:=fun hh=>hl ⟨rfl,hh⟩
  have hf:ws.findIdx? (KJ x.Token x.Core)=none:=by simpa using hf
  rw[List.findIdx?_eq_none_iff]at hf;refine⟨h.key,h.nd,h.ml,by have:=h.wl;simp;omega,?_,fun y hy hm=>?_,h.gd⟩
  ·rw[List.pairwise_append];refine⟨h.wu,by simp,fun a ha b hb=>?_⟩
   simp at hb;subst hb
   have:=hf a ha
   simpa[KJ] using this
  ·rcases List.mem_append.1 hy with hy|hy
   ·exact h.fr y hy hm
   ·simp at hy;subst hy;exact Az.1 hg hm
 ·exact h
theorem Sd{m:List (ByteArray×Service)}{ws:List B4}(h:Inv m ws)(token core:Int):Inv m (Hj ws token core):=by
 unfold Hj;split
 ·exact Gx h (List.Sublist.refl _) (List.eraseIdx_sublist _ _)
 ·exact h
theorem RU{m:List (ByteArray×Service)}{ws:List B4}(h:Inv m ws)(l:List Service)(p:B4→Bool):Inv (U0 m l) (ws.filter p):=Gx h (Bl _ _) List.filter_sublist
theorem GT{m:List (ByteArray×Service)}{ws:List B4}{ys:List Service}(h:Inv m ws)(hs:H9 m ys):(ys.map (·.Name)).Perm (m.map (·.1)):=by
 have h1:=hs.perm.map (·.Name)
 rw[List.map_map]at h1;have h2:m.map ((·.Name) ∘ (·.2))=m.map (·.1):=List.map_congr_left fun p hp=>(h.key p hp).symm
 rw[h2]at h1;exact h1
theorem O0{m:List (ByteArray×Service)}{ws:List B4}{ys:List Service}(h:Inv m ws)(hs:H9 m ys):ys.Pairwise fun a b=>V9 a.Name b.Name=true:=by
 have h1:(ys.map (·.Name)).Nodup:=(GT h hs).nodup_iff.2 h.nd
 rw[List.Nodup,List.pairwise_map]at h1;refine(List.Pairwise.and hs.asc h1).imp fun {a b} hab=>?_
 cases hc:V9 a.Name b.Name with
 | true=>rfl
 | false=>exact absurd (l7 hc hab.1) hab.2
theorem u5{α:Type}{p:α→Bool}:∀ {l:List α} {k:Nat},l.Pairwise (fun a b=>¬(p a=true∧p b=true))→l.findIdx? p=some k→l.eraseIdx k=l.filter fun x=>!p x
 | [],k,_,h=>by simp at h
 | a::l,k,hw,h=>by
  rw[List.findIdx?_cons]at h;rw[List.pairwise_cons]at hw;cases hp:p a with
  | true=>
   rw[hp]at h;simp at h;subst h
   rw[List.filter_cons];simp only[hp,Bool.not_true,Bool.false_eq_true,if_false,List.eraseIdx_zero,List.tail_cons]
   refine(List.filter_eq_self.2 fun b hb=>?_).symm
   have:=hw.1 b hb
   rw[hp]at this;simpa using this
  | false=>
   rw[hp]at h;simp at h
   obtain⟨j,hj,rfl⟩:=h;rw[List.eraseIdx_cons_succ,List.filter_cons,hp];simp only[Bool.not_false,if_true]
   rw[u5 hw.2 hj]
def left(v:Service)(ws:List B4)(k:Nat):List B4:=ws.filter fun x=>decide (x∉(ws.filter fun x=>decide (x.Name=v.Name)).take k)
end Go.Proofs.YtlimglpjpcfpdaaGreat
end
section
open Go
open Mk
namespace Go.Proofs.YtlimglpjpcfpdaaGreat
set_option maxHeartbeats 4000000
attribute [local irreducible] Calls H7 V2 j9 BL Q7 JR Ll Lr X4 Hc x9 Hj K1 U0 BW
theorem IT(v:Int):(nm v).size≤60:=by
 have h0:0≤v%8:=Int.emod_nonneg v (by decide)
 have h1:v%8<8:=Int.emod_lt_of_pos v (by decide)
 have h2:∀s∈TY,s.size≤60:=by
  intro s hs;have:=List.all_eq_true.1 (show TY.all (fun s=>decide (s.size≤60))=true from by kernel_rfl) s hs
  exact of_decide_eq_true this
 have hl:(v%8).toNat<TY.length:=by show _<8;omega
 unfold nm;rw[List.getD_eq_getElem?_getD,List.getElem?_eq_getElem hl];exact h2 _ (List.getElem_mem hl)
theorem Dk{x:Step}(h:Cq x=true):x.S.Name.size≤60∧x.W.Name.size≤60:=by
 simp[Cq]at h;omega
instance (x:Step):SB (Mv x).Name:=⟨by
 unfold Mv;split
 ·rename_i h;have:=Dk h;omega
 ·have:=IT x.Name;show (nm x.Name).size≤_;omega⟩
instance (x:Step):SB (Mq x).Name:=⟨by
 unfold Mq;split
 ·rename_i h;have:=Dk h;omega
 ·have:=IT x.Name;show (nm x.Name).size≤_;omega⟩
theorem OX{m:List (ByteArray×Service)}{a:ByteArray}{v:Service}(h:D2 m a=some v):(a,v)∈m:=by
 unfold D2 at h;cases hi:BY m a with
 | none=>rw[hi]at h;simp at h
 | some i=>
  obtain⟨u,hu⟩:=f0 hi
  rw[hi]at h;simp only[Option.bind_some,hu,Option.map_some,Option.some.injEq]at h
  subst h;exact List.mem_of_getElem? hu
end Go.Proofs.YtlimglpjpcfpdaaGreat
end
section
open Go Mk
open Go.ChangeShapes Go.WideShapes Go.ChangeAt Go.RowKit
namespace Go.Proofs.YtlimglpjpcfpdaaGreat
theorem Od:ownKnob Tryz.prog.godebug=none:=by kernel_rfl
theorem Jo{W W':World}{S:List A7}(h:Wd (d9 W) S W')(may:MemPlace→Prop):W.keptBut W' may:=by
 refine⟨h.os,h.out,fun i hi=>?_⟩
 have h1:W.heap[i]? = some W.heap[i]:=Array.getElem?_eq_getElem hi
 have h2:=h.imm i W.heap[i] h1
 rw[h1,h2];cases W.heap[i] <;> simp
theorem Qe{H:Type}{enc:TypeId×Value→H}{f:Func}{s:ChangeSpec}{W W':World}{S:List A7}{args:Array Value}{v:Value}{ds gs:List (DataW H)}{before pa pv:List MemPlace}{apart:Bool}
  (hW:DataW.Whole enc Tryz.prog f.params.toList s.vars apart W args.toList ds gs before)
  (hres:∀(b:Nat) (sp:Nat→Bool) (hd:Bool),DataW.TrodAll enc Tryz.prog W' b sp hd f.resultTypes.toList (v.resultList f.resultTypes.size) (s.fn H (ds++gs)).results [])
  (hargs:∀sp:Nat→Bool,(∀p∈before,sp p.block=true)→DataW.TrodAll enc Tryz.prog W' 0 sp true f.params.toList args.toList (s.fn H (ds++gs)).args pa)
  (hvars:∀sp:Nat→Bool,(∀p∈before,sp p.block=true)→DataW.TrodVars enc Tryz.prog W' sp s.vars (s.fn H (ds++gs)).vars pv)
  (hps:before=pa++pv) (hk:Wd (d9 W) S W'):s.post enc Tryz.prog f apart true false false W args v W':=by
 have hold:∀p∈before,(fun b=>decide (b<W.heap.size)) p.block=true:=fun p hp=>by simpa using hW.lt p hp
 exact⟨ds,gs,before,[],pa,pv,hW,hres _ _ _,hargs _ hold,hvars _ hold,Jo hk _,fun h=>by cases h⟩
section
variable {H:Type}{en:TypeId×Value→H}{W W':World}{base:Nat}{sp:Nat→Bool}{held:Bool}{S:List A7}
theorem AE{t:TypeId}{fs:Array Field}{n:Nat}{cs:List Value}{y:DataW H×List MemPlace}(ht:Tryz.prog.underlying t=some (.struct fs))(h:DataW.trod en Tryz.prog W base sp held n t cs=some y)(i:Nat){f:Field}(hi:fs[i]? = some f) :
  ∃m z,DataW.trod en Tryz.prog W base sp held m f.type ((cs.drop f.offset).take (Tryz.prog.cellsOf f.type))=some z:=by
 obtain⟨xs,k,-,-,-,hx,hf⟩:=DataW.trod_struct ht h
 have h1:=hf i f hi
 have hil:i<xs.length:=by rw[hx];exact(Array.getElem?_eq_some_iff.1 hi).1
 exact⟨k,_,h1.trans (List.getElem?_eq_getElem hil)⟩
theorem NA{cs:List Value}{o:Nat}{v:Value}(h:(cs.drop o).take 1=[v]):cs[o]? = some v:=by
 have h1:=congrArg (fun l:List Value=>l[0]?) h
 simpa using h1
theorem t6{t:TypeId}{fs:Array Field}{n:Nat}{cs:List Value}{y:DataW H×List MemPlace}(ht:Tryz.prog.underlying t=some (.struct fs))(h:DataW.trod en Tryz.prog W base sp held n t cs=some y)(i:Nat){f:Field}(hi:fs[i]? = some f)(hf:f.type=3):∃v:Int,cs[f.offset]? = some (.int .i64 v):=by
 obtain⟨m,z,h1⟩:=AE ht h i hi
 rw[hf,show Tryz.prog.cellsOf 3=1 from by kernel_rfl]at h1
 obtain⟨v,h2,-⟩:=DataW.trod_int Tryz.underlying3 h1
 exact⟨v,NA h2⟩
theorem QG{t:TypeId}{fs:Array Field}{n:Nat}{cs:List Value}{y:DataW H×List MemPlace}(ht:Tryz.prog.underlying t=some (.struct fs))(h:DataW.trod en Tryz.prog W base sp held n t cs=some y)(i:Nat){f:Field}(hi:fs[i]? = some f)(hf:f.type=4):∃v:Bool,cs[f.offset]? = some (.bool v):=by
 obtain⟨m,z,h1⟩:=AE ht h i hi
 rw[hf,show Tryz.prog.cellsOf 4=1 from by kernel_rfl]at h1
 obtain⟨v,h2,-⟩:=DataW.trod_bool Tryz.underlying4 h1
 exact⟨v,NA h2⟩
theorem GN{t:TypeId}{fs:Array Field}{n:Nat}{cs:List Value}{y:DataW H×List MemPlace}(ht:Tryz.prog.underlying t=some (.struct fs))(h:DataW.trod en Tryz.prog W base sp held n t cs=some y)(i:Nat){f:Field}(hi:fs[i]? = some f)(hf:f.type=9):∃v:ByteArray,cs[f.offset]? = some (.string v):=by
 obtain⟨m,z,h1⟩:=AE ht h i hi
 rw[hf,show Tryz.prog.cellsOf 9=1 from by kernel_rfl]at h1
 obtain⟨v,h2,-⟩:=DataW.trod_string Tryz.underlying9 h1
 exact⟨v,NA h2⟩
theorem Ph{n:Nat}{cs:List Value}{y:DataW H×List MemPlace}(hl:cs.length=4)(h:DataW.trod en Tryz.prog W base sp held n 37 cs=some y):∃s:Service,cs=enc s:=by
 obtain⟨a0,h0⟩:=GN Tryz.underlying37 h 0 rfl rfl
 obtain⟨a1,h1⟩:=t6 Tryz.underlying37 h 1 rfl rfl
 obtain⟨a2,h2⟩:=t6 Tryz.underlying37 h 2 rfl rfl
 obtain⟨a3,h3⟩:=t6 Tryz.underlying37 h 3 rfl rfl
 refine⟨⟨a0,a1,a2,a3⟩,?_⟩
 clear h;match cs,hl with
 | [c0,c1,c2,c3],_=>
  cases h0;cases h1;cases h2;cases h3;rfl
theorem OZ{n:Nat}{cs:List Value}{y:DataW H×List MemPlace}(hl:cs.length=3)(h:DataW.trod en Tryz.prog W base sp held n 39 cs=some y):∃s:B4,cs=enc s:=by
 obtain⟨a0,h0⟩:=t6 Tryz.underlying39 h 0 rfl rfl
 obtain⟨a1,h1⟩:=t6 Tryz.underlying39 h 1 rfl rfl
 obtain⟨a2,h2⟩:=GN Tryz.underlying39 h 2 rfl rfl
 refine⟨⟨a0,a1,a2⟩,?_⟩
 clear h;match cs,hl with
 | [c0,c1,c2],_=>
  cases h0;cases h1;cases h2;rfl
set_option maxRecDepth 100000 in
theorem Lo{n:Nat}{cs:List Value}{y:DataW H×List MemPlace}(hl:cs.length=12)(h:DataW.trod en Tryz.prog W base sp held n 41 cs=some y):∃s:Step,cs=enc s:=by
 obtain⟨a0,h0⟩:=t6 Tryz.underlying41 h 0 rfl rfl
 obtain⟨a1,h1⟩:=t6 Tryz.underlying41 h 1 rfl rfl
 obtain⟨a2,h2⟩:=t6 Tryz.underlying41 h 2 rfl rfl
 obtain⟨a3,h3⟩:=t6 Tryz.underlying41 h 3 rfl rfl
 obtain⟨a4,h4⟩:=QG Tryz.underlying41 h 4 rfl rfl
 obtain⟨m5,z5,h5⟩:=AE Tryz.underlying41 h 5 rfl
 obtain⟨m6,z6,h6⟩:=AE Tryz.underlying41 h 6 rfl
 have h5:DataW.trod en Tryz.prog W base sp held m5 37 ((cs.drop 5).take (Tryz.prog.cellsOf 37))=some z5:=h5
 have h6:DataW.trod en Tryz.prog W base sp held m6 39 ((cs.drop 9).take (Tryz.prog.cellsOf 39))=some z6:=h6
 rw[show Tryz.prog.cellsOf 37=4 from by kernel_rfl]at h5
 rw[show Tryz.prog.cellsOf 39=3 from by kernel_rfl]at h6
 obtain⟨⟨s0,s1,s2,s3⟩,h5⟩:=Ph (by simp;omega) h5
 obtain⟨⟨w0,w1,w2⟩,h6⟩:=OZ (by simp;omega) h6
 refine⟨⟨a0,a1,a2,a3,a4,⟨s0,s1,s2,s3⟩,⟨w0,w1,w2⟩⟩,?_⟩
 clear h;match cs,hl with
 | [c0,c1,c2,c3,c4,c5,c6,c7,c8,c9,c10,c11],_=>
  cases h0;cases h1;cases h2;cases h3;cases h4;cases h5;cases h6;rfl
theorem FS{sz:Nat}:∀ {rows:List (List Value)},(∀r∈rows,r.length=sz)→∀ {j:Nat} {u:Value},rows.flatten[j]? = some u→∃i r row,rows[i]? = some row∧row[r]? = some u∧j=i*sz+r
 | [],_,j,u,h=>by simp at h
 | a::rows,hl,j,u,h=>by
  rw[List.flatten_cons]at h;by_cases hj:j<a.length
  ·rw[List.getElem?_append_left hj]at h;exact⟨0,j,a,rfl,h,by omega⟩
  ·rw[List.getElem?_append_right (by omega)]at h
   obtain⟨i,r,row,h1,h2,h3⟩:=FS (fun r hr=>hl r (List.mem_cons_of_mem _ hr)) h
   have ha:=hl a (List.mem_cons_self ..)
   refine⟨i+1,r,row,by simpa using h1,h2,?_⟩
   rw[Nat.add_mul,Nat.one_mul];omega
theorem Jy{n:Nat}{v:Value}{y:DataW H×List MemPlace}(h:DataW.trod en Tryz.prog W base sp held n 22 [v]=some y):∃xs:List Step,D3 (d9 W) v 12 (xs.map enc):=by
 have hc:Tryz.prog.cellsOf 41=12:=by kernel_rfl
 rcases Deep.open_slice Tryz.underlying22 h with⟨h0,-⟩|⟨a,len,cap,m,k,D,Pl,h0,-,hlc,hcm,hm,-,hel⟩
 ·cases h0
  refine⟨[],?_⟩
  unfold D3;exact⟨by simp,none,0,0,rfl,rfl,by omega,Nat.zero_le _,fun hh=>by simp at hh⟩
 ·cases h0
  have hlm:len≤m:=by rw[hm];split <;> omega
  have hx:∀i,i<len→∃s:Step,∀j u,(enc s)[j]? = some u→W.cell? (a.add (i*12+j))=some u:=fun i hi=>by
   obtain⟨cs',h1,h2⟩:=hel i (by omega)
   rw[hc]at h1;obtain⟨-,hl,hat⟩:=World.cells?_some h1
   obtain⟨s,rfl⟩:=Lo hl h2
   refine⟨s,fun j u hu=>?_⟩
   have hj:j<12:=by rw[←hl];exact(List.getElem?_eq_some_iff.1 hu).1
   have:=hat j hj
   rw[hu,Go.Deep.add_add]at this;exact this
  have:∃f:Nat→Step,∀i,i<len→∀j u,(enc (f i))[j]? = some u→W.cell? (a.add (i*12+j))=some u:=by
   have dflt:Step:=⟨0,0,0,0,false,default,⟨0,0,⟨#[]⟩⟩⟩
   refine⟨fun i=>if hi:i<len then (hx i hi).choose else dflt,fun i hi=>?_⟩
   simp only[hi,dif_pos]
   exact(hx i hi).choose_spec
  obtain⟨f,hf⟩:=this;refine⟨(List.range len).map f,?_⟩
  unfold D3;refine⟨fun r hr=>?_,some a,len,cap,rfl,by simp,hlc,hcm,fun hpos=>?_⟩
  ·obtain⟨s,-,rfl⟩:=List.mem_map.1 hr
   rfl
  ·have hpos:0<len:=by simpa using hpos
   have h00:=hf 0 hpos 0 (.int .i64 (f 0).What) rfl
   obtain⟨g,o,spt⟩:=a;have h01:W.cell? ⟨g,o+0,spt⟩=some (.int .i64 (f 0).What):=h00
   unfold World.cell? at h01
   cases hg:W.heap[g]? with
   | none=>rw[hg]at h01;simp at h01
   | some ob=>
    rw[hg]at h01;cases ob with
    | cells cur e fr=>
     cases spt with
     | some q=>simp at h01
     | none=>
      refine⟨g,o,cur,e,fr,rfl,hg,fun j u hj=>?_⟩
      obtain⟨i,r,row,h1,h2,h3⟩:=FS (sz:=12) (rows:=((List.range len).map f).map enc) (fun r hr=>by
       obtain⟨s,-,rfl⟩:=List.mem_map.1 hr
       rfl) hj
      rw[List.getElem?_map,List.getElem?_map]at h1;have hi:i<len:=by
       by_cases hi:i<len
       ·exact hi
       ·rw[List.getElem?_eq_none (by simpa using hi)]at h1;simp at h1
      rw[List.getElem?_range hi]at h1;simp only[Option.map_some,Option.some.injEq]at h1
      subst h1;have h4:W.cell? ⟨g,o+(i*12+r),none⟩=some u:=by
       have h5:=hf i hi r u h2
       rwa [show Addr.add ⟨g,o,none⟩ (i*12+r)=⟨g,o+(i*12+r),none⟩ from by
        unfold Addr.add;by_cases h0:i*12+r=0
        ·rw[if_pos h0,h0];rfl
        ·rw[if_neg h0]]at h5
      unfold World.cell? at h4
      rw[hg]at h4;rw[h3];simpa using h4
    | _=>simp at h01
theorem Gb(hk:Wd (d9 W) S W'):∀ {ts:List TypeId} {vs:List Value} {ds:List (DataW H)} {ps:List MemPlace},DataW.TrodAll en Tryz.prog W base sp held ts vs ds ps→(∀p∈ps,p.block<W.heap.size)→DataW.TrodAll en Tryz.prog W' base sp held ts vs ds ps
 | [],[],[],_,h,_=>h
 | _::_,_::_,_::_,_,⟨p,q,⟨n,h1⟩,h2,e⟩,hs=>⟨p,q,⟨n,DataW.trod_carry n _ _ _ h1 fun x hx=>by
   have hb:=hs x (by rw[e];exact List.mem_append_left _ hx)
   cases x with
   | cell b off=>
    have h3:W'.heap[b]? = W.heap[b]?:=by
     have h4:W.heap[b]? = some (W.heap[b]'hb):=Array.getElem?_eq_getElem hb
     rw[h4];exact hk.imm b _ h4
    show W'.cell? _=W.cell? _
    unfold World.cell?
    rw[h3]
   | map b=>
    have h4:W.heap[b]? = some (W.heap[b]'hb):=Array.getElem?_eq_getElem hb
    show W'.heap[b]? = W.heap[b]?
    rw[h4];exact hk.imm b _ h4⟩,Gb hk h2 (fun x hx=>hs x (by rw[e];exact List.mem_append_right _ hx)),e⟩
end
theorem Ot:Kids Tryz.prog (· < Tryz.prog.types.size):=kids_rows (by kernel_rfl) (by kernel_rfl)
theorem PD:∀t e,t<Tryz.prog.types.size→Tryz.prog.underlying t=some (.slice e)→0<Tryz.prog.cellsOf e:=slices_full_of _ (by kernel_rfl)
end Go.Proofs.YtlimglpjpcfpdaaGreat
end
section
open Go Mk
namespace Go.Proofs.YtlimglpjpcfpdaaGreat
set_option maxHeartbeats 400000
attribute [local irreducible] Calls
abbrev I6(s:ByteArray):List UInt8:=s.data.toList
theorem K9(s:ByteArray):(I6 s).length=s.size:=Array.length_toList
theorem f8(s:ByteArray)(a b:Nat):I6 (E9 s a b)=((I6 s).drop a).take (b-a):=by
 unfold E9;show (s.extract a b).data.toList=_
 rw[ByteArray.data_extract,Array.toList_extract,List.extract_eq_take_drop]
theorem Ay{s t:ByteArray}(h:I6 s=I6 t):s=t:=by
 cases s;cases t
 congr 1
 exact Array.toList_inj.1 h
theorem Y7{s:ByteArray}{a b:Nat}(h:b≤s.size):(E9 s a b).size=b-a:=by
 rw[←K9,f8,List.length_take,List.length_drop,K9];omega
theorem PV{s:ByteArray}{a b j:Nat}(h:a+j<b):A5 (E9 s a b) j=A5 s (a+j):=by
 unfold A5;have:=f8 s a b
 unfold I6 at this;rw[this,List.getD_eq_getElem?_getD,List.getD_eq_getElem?_getD,List.getElem?_take_of_lt (by omega),List.getElem?_drop]
def Cl(c:Int):Int:=if I5 c=true then c-48 else if decide (97≤c)&&decide (c≤102) then c-97+10 else if decide (65≤c)&&decide (c≤70) then c-65+10 else -1
def Z9(c base:Int):Int:=if base≤Cl c then -1 else Cl c
def Z5(c:Int):Bool:=decide (32≤c)&&decide (c≤126)&&decide (c≠34)&&decide (c≠92)
theorem JZ(c:Int):-1≤Cl c∧Cl c<16:=by
 unfold Cl I5;split
 ·rename_i h;simp at h;omega
 ·split
  ·rename_i h;simp at h;omega
  ·split
   ·rename_i h;simp at h;omega
   ·omega
theorem KZ(c base:Int)(hb:0<base):Z9 c base = -1∨(0≤Z9 c base∧Z9 c base<base∧Z9 c base<16):=by
 have:=JZ c
 unfold Z9;split
 ·exact .inl rfl
 ·by_cases h:Cl c = -1
  ·exact .inl h
  ·exact .inr ⟨by omega,by omega,this.2⟩
def Dz(base:Nat):List UInt8→Nat→Nat
 | [],v=>v
 | c::l,v=>Dz base l (v*base+(Z9 c.toNat base).toNat)
theorem Lc(base:Nat)(hb:0<base):∀(l:List UInt8) (v:Nat),v≤Dz base l v
 | [],v=>Nat.le_refl v
 | c::l,v=>Nat.le_trans (by
   have:v≤v*base:=Nat.le_mul_of_pos_right v hb
   omega) (Lc base hb l _)
def T2:Nat:=18446744073709551615
def S5(base sh:Nat)(l:List UInt8):Nat×Int:=
 if l.all (fun c=>decide (0≤Z9 c.toNat base))=false then (0,50)
 else if T2 >>> sh<Dz base l 0 then (0,6) else (Dz base l 0 <<< sh,0)
def Ah(c:Int):Nat:=if c=71 then 30 else if c=77 then 20 else if c=75 then 10 else 0
def BM(s:ByteArray):Nat×Int:=
 let sh:=Ah (A5 s (s.size-1))
 let s:=if 0<sh then E9 s 0 (s.size-1) else s
 if 2≤s.size∧A5 s 0=48∧A5 s 1=120 then
  if s.size=2 then (0,50) else S5 16 sh (I6 (E9 s 2 s.size))
 else if s.size=0∨(1<s.size∧A5 s 0=48) then (0,50) else S5 10 sh (I6 s)
def o0(a b:Int):Bool:=(decide (a=60)&&decide (b=61))||(decide (a=62)&&decide (b=61))||(decide (a=33)&&decide (b=61))||(decide (a=46)&&decide (b=46))||(decide (a=45)&&decide (b=62))
def Gw:List UInt8:=[123,125,40,41,91,93,44,59,58,61,60,62,33,43,45,42,63,46,47]
def G0(s:ByteArray):Nat:=if 2≤s.size∧o0 (A5 s 0) (A5 s 1)=true then 2 else if 0<s.size∧(s.data.toList.getD 0 0)∈Gw then 1 else 0
def V1(b:UInt8):Bool:=Z5 b.toNat
def Z6(s:ByteArray):Nat:=1+(((I6 s).drop 1).takeWhile V1).length
structure TG where
 kind:Int
 text:ByteArray
 value:Nat
 n:Nat
 err:Int
def DY(e:Int):TG:=⟨0,⟨#[]⟩,0,0,e⟩
def J8(s:ByteArray):TG:=
 if F0 (A5 s 0)=true then ⟨1,E9 s 0 (runN s),0,runN s,0⟩
 else if I5 (A5 s 0)=true then (if (BM (E9 s 0 (runN s))).2=0 then ⟨2,⟨#[]⟩,(BM (E9 s 0 (runN s))).1,runN s,0⟩ else DY (BM (E9 s 0 (runN s))).2)
 else if A5 s 0=34 then (if Z6 s<s.size∧A5 s (Z6 s)=34 then ⟨3,E9 s 1 (Z6 s),0,Z6 s+1,0⟩ else DY 50)
 else if G0 s=0 then DY 50 else ⟨4,E9 s 0 (G0 s),0,G0 s,0⟩
structure Tok where
 Kind:Int
 Text:ByteArray
 Value:Int
 Line:Int
 Col:Int
 deriving DecidableEq
instance:Inhabited Tok:=⟨⟨0,⟨#[]⟩,0,0,0⟩⟩
instance:EF Tok where
 enc a:=[.int .i64 a.Kind,.string a.Text,.int .u64 a.Value,.int .i64 a.Line,.int .i64 a.Col]
 inj a b h:=by cases a;cases b;simp at h;simp[h]
 ks:=[5,1,9,5,5]
 kinds a:=rfl
structure F1 where
 Line:Int
 Col:Int
 deriving DecidableEq,Inhabited
instance:EF F1 where
 enc a:=[.int .i64 a.Line,.int .i64 a.Col]
 inj a b h:=by cases a;cases b;simp at h;simp[h]
 ks:=[5,5]
 kinds a:=rfl
def C7(s:ByteArray):Nat→F1
 | 0=>⟨1,1⟩
 | k+1=>if A5 s k=10 then ⟨(C7 s k).Line+1,1⟩ else ⟨(C7 s k).Line,(C7 s k).Col+1⟩
def Bg(s:ByteArray)(off:Nat):Nat:=off+(((I6 s).drop off).takeWhile fun b=>decide ((b.toNat:Int)≠10)).length
def Z3(c:Int):Bool:=decide (c=10)||decide (c=32)||decide (c=9)||decide (c=13)
def P0(s:ByteArray):Nat→Nat→List Tok→List Tok×F1×Int
 | 0,_,acc=>(acc,⟨0,0⟩,0)
 | f+1,off,acc=>
  if s.size≤off then (acc,⟨0,0⟩,0)
  else if Z3 (A5 s off)=true then P0 s f (off+1) acc
  else if A5 s off=35 then P0 s f (Bg s off) acc
  else if (J8 (E9 s off s.size)).err=0 then P0 s f (off+(J8 (E9 s off s.size)).n) (acc++[⟨(J8 (E9 s off s.size)).kind,(J8 (E9 s off s.size)).text,(J8 (E9 s off s.size)).value,(C7 s off).Line,(C7 s off).Col⟩])
  else ([],C7 s off,(J8 (E9 s off s.size)).err)
def H2(s:ByteArray):List Tok×F1×Int:=if 65536<s.size then ([],⟨0,0⟩,15) else P0 s (s.size+1) 0 []
set_option maxHeartbeats 4000000
theorem Tw{P:Program}{n:Nat}{opa:Array Oper}{QQ:Exit→Fr→World→Prop}{rest:List Oper}{ρ:Fr}{w:World}{d:Option Tmp}{ty:TypeId}{pos:String}{es:Array Edge}{f:Nat}{args:List Operand}{tys:Array TypeId}{vs:List Value}{v:Value}
  (he:∀w,(callFunc f vs.toArray).run P w=.ok (.value v) w) (h:L P n opa QQ rest (C3 ρ d v) w) (ha:EvL ρ args vs:=by exact r8) (hd:E4 n d=true:=by exact rfl) :
  L P n opa QQ (⟨d,.call { callee:=.value (.func f),args:=args.toArray,argTypes:=tys },ty,pos,es,none⟩::rest) ρ w:=
 Td rfl hd (by
  unfold Mk.Yields;simp only[execOp,resolve,ha.eqA,ev,Deferred.ofValue,Sem.run_bind,Sem.run_pure,Result.andThen_ok,invoke]
  simp[he]) h
instance Ry(c:Int):PC Tryz.prog 142 [.int .u8 c] (.bool (Z5 c)):=⟨fun w=>by
 refine A3 Tryz.func142 rfl rfl ?_
 refine A4 ?_;exact⟨_,rfl,rfl,rfl⟩⟩
class Ol(b:Int):Prop where h:0<b∧b≤16
theorem Gu{a:Int}(h0:0≤a)(h1:a≤255):IntKind.u8.wrap a=a:=by
 simp[IntKind.wrap,IntKind.bits,IntKind.signed];omega
theorem QO(b:UInt8):0≤((b.toNat:Nat):Int)∧((b.toNat:Nat):Int)≤255:=by
 have:=b.toNat_lt;omega
instance UM(b:UInt8)(base:Int)[hb:Ol base]:PC Tryz.prog 209 [.int .u8 ((b.toNat:Nat):Int),.int .u64 base] (.int .i64 (Z9 ((b.toNat:Nat):Int) base)):=⟨fun w=>by
 obtain⟨hb0,hb1⟩:=hb.h;obtain⟨hc0,hc1⟩:=QO b
 generalize ((b.toNat:Nat):Int)=c at *
 have hbw:IntKind.i64.wrap base=base:=wrap_i64 (by omega) (by omega)
 refine A3 Tryz.func209 rfl rfl ?_
 iterate 8 (first|refine B6 ?_|(refine B7 ?_;intro w hw))
 refine Ba (fun ρ w'=>Has ρ [(1,.int .u64 base),(5,.int .i64 (Cl c))]∧w'=w) ?_ ?_
 ·refine A4 ?_;refine A0 rfl (fun h=>?_) (fun h=>?_)
  ·refine A4 ?_;refine⟨⟨rfl,?_,trivial⟩,rfl⟩
   have h1:48≤c∧c≤57:=by simpa[I5] using h
   show Value.int .i64 (IntKind.i64.wrap (IntKind.u8.wrap (c-48)))=_
   rw[Gu (by omega) (by omega),wrap_i64 (by omega) (by omega)]
   unfold Cl;rw[if_pos h]
  ·refine A4 ?_;refine A0 rfl (fun h2=>?_) (fun h2=>?_)
   ·refine A4 ?_;refine⟨⟨rfl,?_,trivial⟩,rfl⟩
    have h1:97≤c∧c≤102:=by simpa using h2
    show Value.int .i64 (IntKind.i64.wrap (IntKind.i64.wrap (IntKind.u8.wrap (c-97))+10))=_
    rw[Gu (by omega) (by omega),wrap_i64 (a:=c-97) (by omega) (by omega),wrap_i64 (by omega) (by omega)]
    unfold Cl;rw[if_neg (by simp[h]),if_pos h2]
   ·refine A4 ?_;refine A0 rfl (fun h3=>?_) (fun h3=>?_)
    ·refine A4 ?_;refine⟨⟨rfl,?_,trivial⟩,rfl⟩
     have h1:65≤c∧c≤70:=by simpa using h3
     show Value.int .i64 (IntKind.i64.wrap (IntKind.i64.wrap (IntKind.u8.wrap (c-65))+10))=_
     rw[Gu (by omega) (by omega),wrap_i64 (a:=c-65) (by omega) (by omega),wrap_i64 (by omega) (by omega)]
     unfold Cl;rw[if_neg (by simp[h]),if_neg (by simpa using h2),if_pos h3]
    ·refine A4 ?_;refine⟨⟨rfl,?_,trivial⟩,rfl⟩
     show Value.int .i64 (-1)=_
     unfold Cl;rw[if_neg (by simp[h]),if_neg (by simpa using h2),if_neg (by simpa using h3)]
 ·rintro ρ w' ⟨hρ,rfl⟩
  rw[hρ.eq];refine A4 ?_;rw[hbw];refine A0 rfl (fun h=>?_) (fun h=>?_)
  ·refine A4 ?_;have h:base≤Cl c:=by simpa using h
   exact⟨_,rfl,C9 rfl (by unfold Z9;rw[if_pos h]),rfl⟩
  ·refine A4 ?_;have h:¬base≤Cl c:=by simpa using h
   exact⟨_,rfl,C9 rfl (by unfold Z9;rw[if_neg h]),rfl⟩⟩
instance QX(s p:ByteArray):PC Tryz.prog 208 [.string s,.string p] (.bool (decide ((p.size:Int)≤s.size)&&decide (E9 s 0 p.size=p))):=⟨fun w=>by
 have h1:PC Tryz.prog 253 [.string s,.string p] (.bool (decide ((p.size:Int)≤s.size)&&decide (E9 s 0 p.size=p))):=⟨fun w=>by
  refine A3 Tryz.func253 rfl rfl ?_
  refine A4 ?_;exact⟨_,rfl,rfl,rfl⟩⟩
 refine A3 Tryz.func208 rfl rfl ?_
 refine A4 ?_;exact⟨_,rfl,rfl,rfl⟩⟩
theorem Ff(s:ByteArray)(c:Int)(w:World):(callFunc 254 #[.string s,.int .u8 c]).run Tryz.prog w=.ok (.value (.int .i64 (firstIdx s c.toNat.toUInt8))) w:=by
 rw[run_callFunc_extern Tryz.func254 (by kernel_rfl) (by kernel_rfl) (e:=Extern.BytealgIndexByte.indexByte) (by kernel_rfl) (by kernel_rfl),run_indexByte_string]
 rfl
instance Qj(s:ByteArray)(c:Int):PC Tryz.prog 210 [.string s,.int .u8 c] (.int .i64 (firstIdx s c.toNat.toUInt8)):=⟨fun w=>by
 have h1:PC Tryz.prog 211 [.string s,.int .u8 c] (.int .i64 (firstIdx s c.toNat.toUInt8)):=⟨fun w=>by
  refine A3 Tryz.func211 rfl rfl ?_
  refine A4 ?_;refine Tw (vs:=[.string s,.int .u8 c]) (Ff s c) ?_
  refine A4 ?_;exact⟨_,rfl,rfl,rfl⟩⟩
 refine A3 Tryz.func210 rfl rfl ?_
 refine A4 ?_;exact⟨_,rfl,rfl,rfl⟩⟩
theorem two_bytes{s:ByteArray}(h:2≤s.size):∃x y:UInt8,A5 s 0=x.toNat∧A5 s 1=y.toNat∧E9 s 0 2=⟨#[x,y]⟩:=by
 have hl:=K9 s
 obtain⟨x,y,r,hr⟩:∃x y r,I6 s=x::y::r:=by
  match hb:I6 s with
  | []=>rw[hb]at hl;simp at hl;omega
  | [x]=>rw[hb]at hl;simp at hl;omega
  | x::y::r=>exact⟨x,y,r,rfl⟩
 refine⟨x,y,?_,?_,?_⟩
 ·show (((I6 s).getD 0 0).toNat:Int)=_;rw[hr];rfl
 ·show (((I6 s).getD 1 0).toNat:Int)=_;rw[hr];rfl
 ·apply Ay;rw[f8,hr];rfl
theorem w9(x y a b:UInt8):((⟨#[x,y]⟩:ByteArray)=⟨#[a,b]⟩)↔(x.toNat=a.toNat∧y.toNat=b.toNat):=by
 simp[UInt8.toNat_inj]
theorem Mn:∀n:Fin 256,decide (0≤firstIdx ⟨#[123,125,40,41,91,93,44,59,58,61,60,62,33,43,45,42,63,46,47]⟩ (UInt8.ofNat n.1))=decide (UInt8.ofNat n.1∈Gw):=by decide +kernel
instance Tj(s:ByteArray)[hs:SB s]:PC Tryz.prog 143 [.string s] (.int .i64 (G0 s)):=⟨fun w=>by
 have hs:=hs.h
 refine A3 Tryz.func143 rfl rfl ?_
 iterate 4 (first|refine B6 ?_|(refine B7 ?_;intro w hw))
 refine Ba (fun ρ w'=>Has ρ [(0,.string s)]∧w'=w∧¬(2≤s.size∧o0 (A5 s 0) (A5 s 1)=true)) ?_ ?_
 ·refine A4 ?_;refine A0 rfl (fun h=>?_) (fun h=>?_)
  ·have h:2≤s.size:=by simp at h;omega
   obtain⟨x,y,hx,hy,hxy⟩:=two_bytes h
   have key:o0 (A5 s 0) (A5 s 1)=true→Ending.returned (.int .i64 2)=Ending.returned (.int .i64 (G0 s)):=fun ht=>by
    unfold G0;rw[if_pos ⟨h,ht⟩];rfl
   rw[hx,hy]at key;refine A4 ?_;rw[show (2:Int).toNat=2 from rfl,hxy];refine A0 rfl (fun h1=>?_) (fun h1=>?_)
   ·refine A4 ?_;refine E6 (by simp only[h1];rfl) ?_
    refine A4 ?_;have q:=(w9 _ _ _ _).1 (of_decide_eq_true h1)
    exact⟨_,rfl,key (by simp[o0,q]),rfl⟩
   refine A4 ?_;refine A0 rfl (fun h2=>?_) (fun h2=>?_)
   ·refine A4 ?_;refine E6 (by simp only[h2];rfl) ?_
    refine A4 ?_;have q:=(w9 _ _ _ _).1 (of_decide_eq_true h2)
    exact⟨_,rfl,key (by simp[o0,q]),rfl⟩
   refine A4 ?_;refine A0 rfl (fun h3=>?_) (fun h3=>?_)
   ·refine A4 ?_;refine E6 (by simp only[h3];rfl) ?_
    refine A4 ?_;have q:=(w9 _ _ _ _).1 (of_decide_eq_true h3)
    exact⟨_,rfl,key (by simp[o0,q]),rfl⟩
   refine A4 ?_;refine A0 rfl (fun h4=>?_) (fun h4=>?_)
   ·refine A4 ?_;refine E6 (by simp only[h4];rfl) ?_
    refine A4 ?_;have q:=(w9 _ _ _ _).1 (of_decide_eq_true h4)
    exact⟨_,rfl,key (by simp[o0,q]),rfl⟩
   refine A4 ?_;refine A0 rfl (fun h5=>?_) (fun h5=>?_)
   ·refine A4 ?_;have q:=(w9 _ _ _ _).1 (of_decide_eq_true h5)
    exact⟨_,rfl,key (by simp[o0,q]),rfl⟩
   ·refine A4 ?_;refine⟨⟨rfl,trivial⟩,rfl,fun hh=>?_⟩
    have hh:=hh.2
    rw[hx,hy]at hh;have q:=fun a b (hq:decide ((⟨#[x,y]⟩:ByteArray)=⟨#[a,b]⟩)=false)=>mt (w9 x y a b).2 (of_decide_eq_false hq)
    have q1:=q _ _ h1
    have q2:=q _ _ h2
    have q3:=q _ _ h3
    have q4:=q _ _ h4
    have q5:=q _ _ h5
    simp[o0]at hh q1 q2 q3 q4 q5
    omega
  ·have h:¬2≤s.size:=by simp at h;omega
   refine A4 ?_;exact⟨⟨rfl,trivial⟩,rfl,fun hh=>h hh.1⟩
 ·rintro ρ w' ⟨hρ,rfl,hn⟩
  rw[hρ.eq];have key:(decide (s≠⟨#[]⟩)&&decide (0≤firstIdx ⟨#[123,125,40,41,91,93,44,59,58,61,60,62,33,43,45,42,63,46,47]⟩ (A5 s 0).toNat.toUInt8))=decide (G0 s=1):=by
   have h1:=Mn ⟨(s.data.toList.getD 0 0).toNat,(s.data.toList.getD 0 0).toNat_lt⟩
   have h2:(A5 s 0).toNat.toUInt8=s.data.toList.getD 0 0:=by
    show (((s.data.toList.getD 0 0).toNat:Int).toNat).toUInt8=_
    rw[Int.toNat_natCast];simp
   have h3:UInt8.ofNat (s.data.toList.getD 0 0).toNat=s.data.toList.getD 0 0:=by simp
   rw[h3]at h1;rw[h2,h1];unfold G0;rw[if_neg hn];rw[show decide (s≠⟨#[]⟩)=decide (0<s.size) from decide_eq_decide.2 ne_nilB]
   by_cases e1:0<s.size <;> by_cases e2:s.data.toList.getD 0 0∈Gw <;> simp[e1,e2]
  have hp:G0 s=1∨G0 s=0:=by
   unfold G0;rw[if_neg hn];split <;> simp
  refine A4 ?_;refine A0 rfl (fun h=>?_) (fun h=>?_)
  ·have h:=of_decide_eq_true (key.symm.trans h)
   refine A4 ?_;exact⟨_,rfl,C9 rfl (by rw[h];rfl),rfl⟩
  ·have h:=of_decide_eq_false (key.symm.trans h)
   have h0:=hp.resolve_left h
   refine A4 ?_;exact⟨_,rfl,C9 rfl (by rw[h0];rfl),rfl⟩⟩
theorem o9{a:Int}(h0:0≤a)(h1:a≤18446744073709551615):IntKind.u64.wrap a=a:=by
 simp[IntKind.wrap,IntKind.bits,IntKind.signed];omega
theorem Jq(c:Int):Ah c=0∨Ah c=10∨Ah c=20∨Ah c=30:=by
 unfold Ah;repeat(first|split|simp)
def BA(sh:Nat)(s:ByteArray):Nat×Int:=
 if 2≤s.size∧A5 s 0=48∧A5 s 1=120 then
  if s.size=2 then (0,50) else S5 16 sh (I6 (E9 s 2 s.size))
 else if s.size=0∨(1<s.size∧A5 s 0=48) then (0,50) else S5 10 sh (I6 s)
def Kc(s:ByteArray):ByteArray:=if 0<Ah (A5 s (s.size-1)) then E9 s 0 (s.size-1) else s
theorem Lm(s:ByteArray):BM s=BA (Ah (A5 s (s.size-1))) (Kc s):=rfl
def Ia(base sh:Nat)(s:ByteArray):Nat×Int:=if s.size=0∨(base=10∧1<s.size∧A5 s 0=48) then (0,50) else S5 base sh (I6 s)
theorem Tu{s:ByteArray}:(decide (((⟨#[48,120]⟩:ByteArray).size:Int)≤s.size)&&decide (E9 s 0 (⟨#[48,120]⟩:ByteArray).size=⟨#[48,120]⟩))=decide (2≤s.size∧A5 s 0=48∧A5 s 1=120):=by
 show (decide ((2:Int)≤s.size)&&decide (E9 s 0 2=⟨#[48,120]⟩))=_
 by_cases h:2≤s.size
 ·obtain⟨x,y,hx,hy,hxy⟩:=two_bytes h
  rw[hxy,hx,hy];have h1:(2:Int)≤s.size:=by omega
  have h2:=w9 x y 48 120
  simp only[h,h1,h2,decide_true,Bool.true_and,true_and]
  congr 1
  simp
  omega
 ·have h1:¬(2:Int)≤s.size:=by omega
  simp[h,h1]
theorem Na{sh:Nat}{s:ByteArray}(h:2≤s.size∧A5 s 0=48∧A5 s 1=120):BA sh s=Ia 16 sh (E9 s 2 s.size):=by
 unfold BA Ia;rw[if_pos h,Y7 (Nat.le_refl _)];by_cases h2:s.size=2
 ·rw[if_pos h2,if_pos (.inl (by omega))]
 ·rw[if_neg h2,if_neg (by omega)]
theorem Qu{sh:Nat}{s:ByteArray}(h:¬(2≤s.size∧A5 s 0=48∧A5 s 1=120)):BA sh s=Ia 10 sh s:=by
 unfold BA Ia;rw[if_neg h];simp
theorem drop_at{α:Type}{l:List α}{k:Nat}{x:α}(h:l[k]? = some x):l.drop k=x::l.drop (k+1):=by
 obtain⟨h1,h2⟩:=List.getElem?_eq_some_iff.1 h
 rw[←h2];exact List.drop_eq_getElem_cons h1
theorem JU(s:ByteArray)(hs:s.size≤4611686018427387904)(h0:0<s.size)(w:World) :
  Calls Tryz.prog 141 #[.string s] w fun e w'=>e=.returned (.tuple #[.int .u64 (BM s).1,.int .i64 (BM s).2])∧w'=w:=by
 refine A3 Tryz.func141 rfl rfl ?_
 iterate 9 (first|refine B6 ?_|(refine B7 ?_;intro w hw))
 refine Ba (fun ρ w'=>∃s':ByteArray,∃sh:Nat,Has ρ [(0,.string s'),(4,.int .i64 sh)]∧w'=w∧s'=Kc s∧sh=Ah (A5 s (s.size-1))) ?_ ?_
 ·have e1:((s.size:Int)-1).toNat=s.size-1:=by omega
  refine A4 ?_;rw[e1];refine A0 rfl (fun h=>?_) (fun h=>?_)
  ·have h:A5 s (s.size-1)=71:=of_decide_eq_true h
   have hk:Ah (A5 s (s.size-1))=30:=by rw[h];rfl
   refine A4 ?_;rw[e1];exact⟨_,30,⟨rfl,rfl,trivial⟩,rfl,by unfold Kc;rw[hk];rfl,hk.symm⟩
  refine A4 ?_;refine A0 rfl (fun h2=>?_) (fun h2=>?_)
  ·have h2:A5 s (s.size-1)=77:=of_decide_eq_true h2
   have hk:Ah (A5 s (s.size-1))=20:=by rw[h2];rfl
   refine A4 ?_;rw[e1];exact⟨_,20,⟨rfl,rfl,trivial⟩,rfl,by unfold Kc;rw[hk];rfl,hk.symm⟩
  refine A4 ?_;refine A0 rfl (fun h3=>?_) (fun h3=>?_)
  ·have h3:A5 s (s.size-1)=75:=of_decide_eq_true h3
   have hk:Ah (A5 s (s.size-1))=10:=by rw[h3];rfl
   refine A4 ?_;rw[e1];exact⟨_,10,⟨rfl,rfl,trivial⟩,rfl,by unfold Kc;rw[hk];rfl,hk.symm⟩
  ·have h:¬A5 s (s.size-1)=71:=of_decide_eq_false h
   have h2:¬A5 s (s.size-1)=77:=of_decide_eq_false h2
   have h3:¬A5 s (s.size-1)=75:=of_decide_eq_false h3
   have hk:Ah (A5 s (s.size-1))=0:=by unfold Ah;rw[if_neg h,if_neg h2,if_neg h3]
   refine A4 ?_;exact⟨s,0,⟨rfl,rfl,trivial⟩,rfl,by unfold Kc;rw[hk];rfl,hk.symm⟩
 ·rintro ρ w' ⟨s',sh,hρ,rfl,hs',hsh⟩
  rw[hρ.eq,Lm,←hs',←hsh];have hcase:=Jq (A5 s (s.size-1))
  rw[←hsh]at hcase;have hsz:s'.size≤4611686018427387904:=by
   rw[hs'];unfold Kc;split
   ·rw[Y7 (by omega)];omega
   ·exact hs
  clear hs' hsh hρ;iterate 4 (first|refine B6 ?_|(refine B7 ?_;intro w hw))
  refine Ba (fun ρ w''=>∃s2:ByteArray,∃base:Nat,Has ρ [(0,.string s2),(4,.int .i64 sh),(5,.int .u64 base)]∧w''=w'∧BA sh s'=Ia base sh s2∧(base=10∨base=16)∧s2.size≤4611686018427387904) ?_ ?_
  ·refine A4 ?_;rw[Tu];refine A0 rfl (fun h=>?_) (fun h=>?_)
   ·have h:=of_decide_eq_true h
    obtain⟨hp1,hp2,hp3⟩:=h;refine A4 ?_;exact⟨E9 s' 2 s'.size,16,⟨rfl,rfl,rfl,trivial⟩,rfl,Na ⟨hp1,hp2,hp3⟩,.inr rfl,by rw[Y7 (Nat.le_refl _)];omega⟩
   ·have h:=of_decide_eq_false h
    refine A4 ?_;exact⟨s',10,⟨rfl,rfl,rfl,trivial⟩,rfl,Qu h,.inl rfl,hsz⟩
  ·rintro ρ w'' ⟨s2,base,hρ,rfl,hN,hbase,hsz2⟩
   rw[hρ.eq,hN];clear hN hρ hsz;have key:(decide (s2=⟨#[]⟩)||((decide ((base:Int)=10)&&decide ((1:Int)<s2.size))&&decide (A5 s2 0=48)))=decide (s2.size=0∨(base=10∧1<s2.size∧A5 s2 0=48)):=by
    rw[show decide (s2=⟨#[]⟩)=decide (s2.size=0) from decide_eq_decide.2 eq_nilB]
    rw[show decide ((base:Int)=10)=decide (base=10) from decide_eq_decide.2 (by omega),show decide ((1:Int)<s2.size)=decide (1<s2.size) from decide_eq_decide.2 (by omega)]
    by_cases e1:s2.size=0 <;> by_cases e2:base=10 <;> by_cases e3:1<s2.size <;> by_cases e4:A5 s2 0=48 <;> simp[e1,e2,e3,e4]
   refine A4 ?_;refine A0 rfl (fun h=>?_) (fun h=>?_)
   ·have h:=of_decide_eq_true (key.symm.trans h)
    refine A4 ?_;exact⟨_,rfl,by unfold Ia;rw[if_pos h];rfl,rfl⟩
   have h:=of_decide_eq_false (key.symm.trans h)
   have hN:Ia base sh s2=S5 base sh (I6 s2):=by unfold Ia;rw[if_neg h]
   rw[hN];clear hN key;haveI:Ol (base:Int):=⟨by omega⟩
   have hbl:=K9 s2
   refine A4 ?_;refine C8 (fun μ ρ w=>∃k:Nat,μ+k=s2.size∧Has ρ [(0,.string s2),(4,.int .i64 sh),(5,.int .u64 base),(6,.int .i64 k)]∧((I6 s2).take k).all (fun c=>decide (0≤Z9 c.toNat base))=true∧w=w'') s2.size ⟨0,by omega,⟨rfl,rfl,rfl,rfl,trivial⟩,rfl,rfl⟩ ?_
   rintro μ ρ w ⟨k,hk,hρ,hall,rfl⟩
   rw[hρ.eq];refine A4 ?_;refine A0 rfl (fun h1=>?_) (fun h1=>?_)
   ·have hkn:k<s2.size:=by simpa using h1
    obtain⟨c,hc⟩:=C0 (l:=I6 s2) (k:=k) (by omega)
    have hg:s2.data.toList.getD (k:Int).toNat 0=c:=by
     show (I6 s2).getD k 0=c
     rw[List.getD_eq_getElem?_getD,hc];rfl
    have hmem:c∈I6 s2:=List.mem_of_getElem? hc
    refine A4 ?_;rw[hg];refine A0 rfl (fun h2=>?_) (fun h2=>?_)
    ·have h2:Z9 c.toNat base<0:=of_decide_eq_true h2
     have hf:(I6 s2).all (fun c=>decide (0≤Z9 c.toNat base))=false:=by
      rw[List.all_eq_false];exact⟨c,hmem,by simp;omega⟩
     refine A4 ?_;exact⟨_,rfl,by unfold S5;rw[if_pos hf];rfl,rfl⟩
    ·have h2:¬Z9 c.toNat base<0:=of_decide_eq_false h2
     refine A4 ?_;refine⟨μ-1,by omega,k+1,by omega,⟨rfl,rfl,rfl,rfl,trivial⟩,?_,rfl⟩
     rw[List.take_add_one,hc,List.all_append,hall];simp;omega
   have hkn:¬k<s2.size:=by simpa using h1
   rw[List.take_of_length_le (by omega)]at hall
   clear h1 hkn;refine A4 ?_;refine C8 (fun μ ρ w'=>∃k v:Nat,μ+k=s2.size∧Has ρ [(0,.string s2),(4,.int .i64 sh),(5,.int .u64 base),(7,.int .u64 v),(8,.int .i64 k)]∧Dz base (I6 s2) 0=Dz base ((I6 s2).drop k) v∧v≤T2∧w'=w) s2.size ⟨0,0,by omega,⟨rfl,rfl,rfl,rfl,rfl,trivial⟩,rfl,by unfold T2;omega,rfl⟩ ?_
   rintro μ ρ w' ⟨k,v,hk,hρ,hval,hvm,rfl⟩
   rw[hρ.eq];refine A4 ?_;refine A0 rfl (fun h1=>?_) (fun h1=>?_)
   ·have hkn:k<s2.size:=by simpa using h1
    obtain⟨c,hc⟩:=C0 (l:=I6 s2) (k:=k) (by omega)
    have hg:s2.data.toList.getD (k:Int).toNat 0=c:=by
     show (I6 s2).getD k 0=c
     rw[List.getD_eq_getElem?_getD,hc];rfl
    have hd0:0≤Z9 c.toNat base:=by
     have:=List.all_eq_true.1 hall c (List.mem_of_getElem? hc)
     simpa using this
    have hdr:=(KZ c.toNat base (by omega)).resolve_left (by omega)
    rw[drop_at hc]at hval;have hval:Dz base (I6 s2) 0=Dz base ((I6 s2).drop (k+1)) (v*base+(Z9 c.toNat base).toNat):=hval
    obtain⟨d,hd⟩:∃d:Nat,Z9 c.toNat base=(d:Int):=⟨(Z9 c.toNat base).toNat,by omega⟩
    rw[hd]at hval hdr
    rw[Int.toNat_natCast]at hval;have hmost:(T2:Int)=18446744073709551615:=rfl
    have hw1:IntKind.u64.wrap (d:Int)=d:=o9 (by omega) (by omega)
    have hw2:IntKind.u64.wrap (18446744073709551615-(d:Int))=18446744073709551615-d:=o9 (by omega) (by omega)
    have hdiv:(18446744073709551615-(d:Int)).tdiv base=(18446744073709551615-(d:Int)) / base:=Int.tdiv_eq_ediv_of_nonneg (by omega)
    have hq0:0≤(18446744073709551615-(d:Int)) / base:=Int.ediv_nonneg (by omega) (by omega)
    have hq1:(18446744073709551615-(d:Int)) / base≤18446744073709551615-(d:Int):=Int.ediv_le_self _ (by omega)
    have hw3:IntKind.u64.wrap ((18446744073709551615-(d:Int)) / base)=(18446744073709551615-(d:Int)) / base:=o9 hq0 (by omega)
    have hle:(v:Int)≤(18446744073709551615-(d:Int)) / base↔(v:Int)*base≤18446744073709551615-d:=Int.le_ediv_iff_mul_le (by omega)
    refine A4 ?_;rw[hg,hd,hw1,hw2,hdiv,hw3];refine A0 rfl (fun h2=>?_) (fun h2=>?_)
    ·have h2:(18446744073709551615-(d:Int)) / base<v:=of_decide_eq_true h2
     have h3:¬(v:Int)*base≤18446744073709551615-d:=fun hh=>by have:=hle.2 hh;omega
     have h4:T2<v*base+d:=by
      have:(T2:Int)<((v*base+d:Nat):Int):=by rw[hmost];push_cast;omega
      omega
     have h5:=Lc base (by omega) ((I6 s2).drop (k+1)) (v*base+d)
     have h6:T2 >>> sh≤T2:=Nat.shiftRight_le _ _
     refine A4 ?_;refine⟨_,rfl,?_,rfl⟩
     unfold S5;rw[if_neg (by rw[hall];simp),if_pos (by rw[hval];omega)];rfl
    ·have h2:¬(18446744073709551615-(d:Int)) / base<v:=of_decide_eq_false h2
     have h3:(v:Int)*base≤18446744073709551615-d:=hle.1 (by omega)
     have h3':0≤(v:Int)*base:=Int.mul_nonneg (by omega) (by omega)
     have hw4:IntKind.u64.wrap ((v:Int)*base)=v*base:=o9 h3' (by omega)
     have hw5:IntKind.u64.wrap ((v:Int)*base+d)=v*base+d:=o9 (by omega) (by omega)
     refine A4 ?_;refine⟨μ-1,by omega,k+1,v*base+d,by omega,⟨rfl,rfl,rfl,?_,rfl,trivial⟩,hval,?_,rfl⟩
     ·show Value.int .u64 (IntKind.u64.wrap (IntKind.u64.wrap ((v:Int)*base)+d))=_
      rw[hw4,hw5];push_cast;rfl
     ·have:((v*base+d:Nat):Int)≤(T2:Int):=by rw[hmost];push_cast;omega
      omega
   have hkn:¬k<s2.size:=by simpa using h1
   rw[List.drop_eq_nil_of_le (by omega)]at hval
   have hval:Dz base (I6 s2) 0=v:=hval
   have hcore:S5 base sh (I6 s2)=if T2 >>> sh<v then (0,6) else (v <<< sh,0):=by
    unfold S5;rw[if_neg (by rw[hall];simp),hval]
   rw[hcore];have key1:(18446744073709551615:Int).fdiv (2 ^ (min (sh:Int).toNat IntKind.u64.bits))=((T2 >>> sh:Nat):Int):=by
    rcases hcase with rfl|rfl|rfl|rfl <;> decide +kernel
   have hmin:min (sh:Int).toNat IntKind.u64.bits=sh:=by
    rcases hcase with rfl|rfl|rfl|rfl <;> rfl
   refine A4 ?_;rw[key1];refine A0 rfl (fun h2=>?_) (fun h2=>?_)
   ·have h2:T2 >>> sh<v:=by have:=of_decide_eq_true h2;omega
    refine A4 ?_;refine⟨_,rfl,?_,rfl⟩
    rw[if_pos h2];rfl
   ·have h2:¬T2 >>> sh<v:=by have:=of_decide_eq_false h2;omega
    have h3:v*2 ^ sh≤T2:=by
     rw[Nat.shiftRight_eq_div_pow]at h2;exact(Nat.le_div_iff_mul_le (Nat.two_pow_pos sh)).1 (by omega)
    have h4:IntKind.u64.wrap ((v:Int)*2 ^ (min (sh:Int).toNat IntKind.u64.bits))=((v <<< sh:Nat):Int):=by
     rw[hmin,Nat.shiftLeft_eq];have e:((v*2 ^ sh:Nat):Int)=(v:Int)*2 ^ sh:=by push_cast;rfl
     rw[←e];have hmost:T2=18446744073709551615:=rfl
     exact o9 (by omega) (by omega)
    refine A4 ?_;refine⟨_,rfl,?_,rfl⟩
    rw[if_neg h2];show Ending.returned (.tuple #[.int .u64 (IntKind.u64.wrap ((v:Int)*2 ^ (min (sh:Int).toNat IntKind.u64.bits))),.int .i64 0])=_
    rw[h4]
end Go.Proofs.YtlimglpjpcfpdaaGreat
end
section
open Go Mk
namespace Go.Proofs.YtlimglpjpcfpdaaGreat
set_option maxHeartbeats 4000000
attribute [local irreducible] Calls BM G0
def Rs(t:TG):Tok:=⟨t.kind,t.text,t.value,0,0⟩
theorem Ku(s:ByteArray):runN s≤s.size:=by
 have:(s.data.toList.takeWhile I0).length≤s.data.toList.length:=(List.takeWhile_sublist _).length_le
 rw[←K9];exact this
theorem Ef{s:ByteArray}(h0:0<s.size)(h:I0 (s.data.toList.getD 0 0)=true):0<runN s:=by
 have hl:=K9 s
 unfold runN;cases hb:s.data.toList with
 | nil=>rw[show I6 s=[] from hb]at hl;simp at hl;omega
 | cons c l=>
  rw[hb]at h;have h:I0 c=true:=h
  simp[List.takeWhile_cons,h]
theorem QH{s:ByteArray}{k:Nat}(h1:1≤k)(hk:k≤s.size)(ha:∀i,1≤i→i<k→Z5 (A5 s i)=true)(hn:k<s.size→Z5 (A5 s k)=false):Z6 s=k:=by
 have hl:=K9 s
 have hg:∀i,((I6 s).drop 1).getD i 0=(I6 s).getD (i+1) 0:=fun i=>by
  rw[List.getD_eq_getElem?_getD,List.getD_eq_getElem?_getD,List.getElem?_drop,Nat.add_comm]
 unfold Z6;rw[V5 (k:=k-1) (by simp[hl];omega) (fun i hi=>by rw[hg];exact ha (i+1) (by omega) (by omega)) (fun hh=>by
  rw[hg,show k-1+1=k from by omega]
  exact hn (by simp[hl]at hh;omega))]
 omega
theorem GK(s:ByteArray):G0 s≤s.size:=by
 unfold G0;split
 ·rename_i h;exact h.1
 ·split
  ·rename_i h;exact h.1
  ·omega
theorem Pp(Γ:B8)(s:ByteArray)(hs:s.size≤4611686018427387904)(h0:0<s.size):PG Tryz.prog Γ 87 [.string s] (.tuple #[.agg (enc (Rs (J8 s))).toArray,.int .i64 (J8 s).n,.int .i64 (J8 s).err]):=⟨fun S w hw=>by
 haveI:SB s:=⟨by omega⟩
 have hrl:=Ku s
 refine F8 Tryz.func87 rfl rfl ?_
 refine A4 ?_;refine B2 ?_;intro b w hw;refine A4 ?_;refine A0 rfl (fun h=>?_) (fun h=>?_)
 ·have h:F0 (A5 s 0)=true:=h
  have hT:J8 s=⟨1,E9 s 0 (runN s),0,runN s,0⟩:=by unfold J8;rw[if_pos h]
  rw[hT];refine A4 ?_;refine B0 ?_;intro w hw;have hw:Wd Γ (.blk b (.cells (enc (⟨1,E9 s 0 (runN s),0,0,0⟩:Tok)).toArray 178)::S) w:=hw
  refine A4 ?_;exact⟨[.agg (enc (⟨1,E9 s 0 (runN s),0,0,0⟩:Tok)).toArray,.int .i64 (runN s),.int .i64 0],⟨J6 (i:=0) hw rfl rfl rfl,rfl,rfl,trivial⟩,rfl,hw.drop⟩
 have h:F0 (A5 s 0)=false:=h
 refine A4 ?_;refine A0 rfl (fun h2=>?_) (fun h2=>?_)
 ·have h2:I5 (A5 s 0)=true:=h2
  have hrp:0<runN s:=Ef h0 (by unfold I0;rw[show I5 ((s.data.toList.getD 0 0).toNat:Int)=true from h2];simp)
  have hsz:(E9 s 0 (runN s)).size=runN s:=by rw[Y7 hrl];omega
  have hT:J8 s=if (BM (E9 s 0 (runN s))).2=0 then ⟨2,⟨#[]⟩,(BM (E9 s 0 (runN s))).1,runN s,0⟩ else DY (BM (E9 s 0 (runN s))).2:=by unfold J8;rw[if_neg (by rw[h];simp),if_pos h2]
  rw[hT];refine A4 ?_;refine C5 ?_;refine(JU (E9 s 0 (runN s)) (by omega) (by omega) w).mono ?_
  rintro e w' ⟨rfl,rfl⟩
  refine⟨_,rfl,?_⟩;generalize BM (E9 s 0 (runN s))=r
  obtain⟨v,er⟩:=r;refine A4 ?_;refine A0 rfl (fun h3=>?_) (fun h3=>?_)
  ·have h3:¬er=0:=by simpa using h3
   refine A4 ?_;refine B0 ?_;intro w hw;have hw:Wd Γ (.blk b (.cells (enc (⟨0,⟨#[]⟩,0,0,0⟩:Tok)).toArray 178)::S) w:=hw
   refine A4 ?_;refine⟨[.agg (enc (⟨0,⟨#[]⟩,0,0,0⟩:Tok)).toArray,.int .i64 0,.int .i64 er],⟨J6 (i:=0) hw rfl rfl rfl,rfl,rfl,trivial⟩,?_,hw.drop⟩
   rw[if_neg h3];rfl
  ·have h3:er=0:=by simpa using h3
   refine A4 ?_;refine B0 ?_;intro w hw;have hw:Wd Γ (.blk b (.cells (enc (⟨2,⟨#[]⟩,v,0,0⟩:Tok)).toArray 178)::S) w:=hw
   refine A4 ?_;refine⟨[.agg (enc (⟨2,⟨#[]⟩,v,0,0⟩:Tok)).toArray,.int .i64 (runN s),.int .i64 0],⟨J6 (i:=0) hw rfl rfl rfl,rfl,rfl,trivial⟩,?_,hw.drop⟩
   rw[if_pos h3];rfl
 have h2:I5 (A5 s 0)=false:=h2
 refine A4 ?_;refine A0 rfl (fun h3=>?_) (fun h3=>?_)
 ·have h3:A5 s 0=34:=of_decide_eq_true h3
  have hT:J8 s=if Z6 s<s.size∧A5 s (Z6 s)=34 then ⟨3,E9 s 1 (Z6 s),0,Z6 s+1,0⟩ else DY 50:=by unfold J8;rw[if_neg (by rw[h];simp),if_neg (by rw[h2];simp),if_pos h3]
  rw[hT];refine A4 ?_;refine C8 (fun μ ρ w=>∃k:Nat,μ+k=s.size∧1≤k∧Has ρ [(0,.string s),(2,.pointer (some ⟨b,0,none⟩)),(10,.int .i64 k)]∧(∀i,1≤i→i<k→Z5 (A5 s i)=true)∧Wd Γ (.blk b (.cells (enc (⟨0,⟨#[]⟩,0,0,0⟩:Tok)).toArray 178)::S) w) (s.size-1) ⟨1,by omega,by omega,⟨rfl,rfl,rfl,trivial⟩,fun i h1 h2=>by omega,hw⟩ ?_
  clear hw;rintro μ ρ w ⟨k,hk,hk1,hρ,hall,hw⟩
  rw[hρ.eq];refine A4 ?_;refine A0 rfl (fun h4=>?_) (fun h4=>?_)
  ·have h4:k<s.size∧Z5 (A5 s k)=true:=by
    rw[Bool.and_eq_true,decide_eq_true_eq]at h4;exact⟨by omega,h4.2⟩
   refine A4 ?_;refine⟨μ-1,by omega,k+1,by omega,by omega,⟨rfl,rfl,rfl,trivial⟩,fun i h1 h2=>?_,hw⟩
   by_cases e:i=k
   ·subst e;exact h4.2
   ·exact hall i h1 (by omega)
  ·have hS:Z6 s=k:=QH hk1 (by omega) hall (fun hlt=>by
    have e1:decide ((k:Int)<s.size)=true:=by simp;omega
    rw[e1,Bool.true_and]at h4;exact h4)
   rw[hS];clear h4;have hks:k≤s.size:=by omega
   refine A4 ?_;have key:(decide ((k:Int)=s.size)||decide (A5 s k≠34)) = !decide (k<s.size∧A5 s k=34):=by
    rw[show decide ((k:Int)=s.size)=decide (¬k<s.size) from decide_eq_decide.2 (by omega)]
    by_cases e1:k<s.size <;> by_cases e2:A5 s k=34 <;> simp[e1,e2]
   refine A0 rfl (fun h4=>?_) (fun h4=>?_)
   ·have h4:=key.symm.trans h4
    have h4:¬(k<s.size∧A5 s k=34):=fun hh=>by rw[decide_eq_true hh]at h4;cases h4
    refine A4 ?_;refine B0 ?_;intro w hw;have hw:Wd Γ (.blk b (.cells (enc (⟨0,⟨#[]⟩,0,0,0⟩:Tok)).toArray 178)::S) w:=hw
    refine A4 ?_;refine⟨[.agg (enc (⟨0,⟨#[]⟩,0,0,0⟩:Tok)).toArray,.int .i64 0,.int .i64 50],⟨J6 (i:=0) hw rfl rfl rfl,rfl,rfl,trivial⟩,?_,hw.drop⟩
    rw[if_neg h4];rfl
   ·have h4:=key.symm.trans h4
    have h4:k<s.size∧A5 s k=34:=by simpa using h4
    have hkl:=h4.1
    refine A4 ?_;refine B0 ?_;intro w hw;have hw:Wd Γ (.blk b (.cells (enc (⟨3,E9 s 1 k,0,0,0⟩:Tok)).toArray 178)::S) w:=hw
    refine A4 ?_;refine⟨[.agg (enc (⟨3,E9 s 1 k,0,0,0⟩:Tok)).toArray,.int .i64 ((k:Int)+1),.int .i64 0],⟨J6 (i:=0) hw rfl rfl rfl,rfl,rfl,trivial⟩,?_,hw.drop⟩
    rw[if_pos h4];rfl
 ·have h3:¬A5 s 0=34:=of_decide_eq_false h3
  have hT:J8 s=if G0 s=0 then DY 50 else ⟨4,E9 s 0 (G0 s),0,G0 s,0⟩:=by unfold J8;rw[if_neg (by rw[h];simp),if_neg (by rw[h2];simp),if_neg h3]
  have hpl:=GK s
  rw[hT];refine A4 ?_;refine A0 rfl (fun h4=>?_) (fun h4=>?_)
  ·have h4:G0 s=0:=by have:=of_decide_eq_true h4;omega
   refine A4 ?_;refine B0 ?_;intro w hw;have hw:Wd Γ (.blk b (.cells (enc (⟨0,⟨#[]⟩,0,0,0⟩:Tok)).toArray 178)::S) w:=hw
   refine A4 ?_;refine⟨[.agg (enc (⟨0,⟨#[]⟩,0,0,0⟩:Tok)).toArray,.int .i64 0,.int .i64 50],⟨J6 (i:=0) hw rfl rfl rfl,rfl,rfl,trivial⟩,?_,hw.drop⟩
   rw[if_pos h4];rfl
  ·have h4:¬G0 s=0:=by have:=of_decide_eq_false h4;omega
   refine A4 ?_;refine B0 ?_;intro w hw;have hw:Wd Γ (.blk b (.cells (enc (⟨4,E9 s 0 (G0 s),0,0,0⟩:Tok)).toArray 178)::S) w:=hw
   refine A4 ?_;refine⟨[.agg (enc (⟨4,E9 s 0 (G0 s),0,0,0⟩:Tok)).toArray,.int .i64 (G0 s),.int .i64 0],⟨J6 (i:=0) hw rfl rfl rfl,rfl,rfl,trivial⟩,?_,hw.drop⟩
   rw[if_neg h4];rfl⟩
end Go.Proofs.YtlimglpjpcfpdaaGreat
end
section
open Go Mk
namespace Go.Proofs.YtlimglpjpcfpdaaGreat
set_option maxHeartbeats 400000
attribute [local irreducible] Calls BM G0
theorem QU{b:UInt8}(h:I0 b=true):((b.toNat:Nat):Int)≠10:=by
 intro e;unfold I0 F0 I5 at h;rw[e]at h;revert h;decide
theorem Oc{c:Int}(h:Z5 c=true):c≠10:=by
 intro e;rw[e]at h;revert h;decide
theorem l5{p:UInt8→Bool}:∀ {l:List UInt8} {i:Nat},i<(l.takeWhile p).length→p (l.getD i 0)=true
 | [],i,h=>by simp at h
 | x::l,i,h=>by
  by_cases hx:p x=true
  ·rw[List.takeWhile_cons,if_pos hx]at h;cases i with
   | zero=>simpa using hx
   | succ i=>exact l5 (l:=l) (i:=i) (by simpa using h)
  ·rw[List.takeWhile_cons,if_neg hx]at h;simp at h
theorem NL{s:ByteArray}(h0:0<s.size)(he:(J8 s).err=0):1≤(J8 s).n∧(J8 s).n≤s.size∧∀i,i<(J8 s).n→A5 s i≠10:=by
 have hrl:=Ku s
 have hrun:∀i,i<runN s→A5 s i≠10:=fun i hi=>QU (l5 (p:=I0) hi)
 unfold J8 at he ⊢
 by_cases h1:F0 (A5 s 0)=true
 ·rw[if_pos h1];exact⟨Ef h0 (by unfold I0;rw[show F0 ((s.data.toList.getD 0 0).toNat:Int)=true from h1];rfl),hrl,hrun⟩
 rw[if_neg h1]at he ⊢
 by_cases h2:I5 (A5 s 0)=true
 ·rw[if_pos h2]at he ⊢
  by_cases h3:(BM (E9 s 0 (runN s))).2=0
  ·rw[if_pos h3];exact⟨Ef h0 (by unfold I0;rw[show I5 ((s.data.toList.getD 0 0).toNat:Int)=true from h2];simp),hrl,hrun⟩
  ·rw[if_neg h3]at he;exact absurd he h3
 rw[if_neg h2]at he ⊢
 by_cases h3:A5 s 0=34
 ·rw[if_pos h3]at he ⊢
  by_cases h4:Z6 s<s.size∧A5 s (Z6 s)=34
  ·rw[if_pos h4];refine⟨by show 1≤Z6 s+1;omega,by show Z6 s+1≤s.size;omega,fun i hi=>?_⟩
   have hi:i<Z6 s+1:=hi
   by_cases e0:i=0
   ·subst e0;rw[h3];decide
   ·by_cases e1:i=Z6 s
    ·subst e1;rw[h4.2];decide
    ·have hi2:i-1<(((I6 s).drop 1).takeWhile V1).length:=by unfold Z6 at hi e1;omega
     have:=l5 (p:=V1) hi2
     rw[List.getD_eq_getElem?_getD,List.getElem?_drop,show 1+(i-1)=i from by omega,←List.getD_eq_getElem?_getD]at this
     exact Oc this
  ·rw[if_neg h4]at he;exact absurd he (by decide)
 rw[if_neg h3]at he ⊢
 by_cases h4:G0 s=0
 ·rw[if_pos h4]at he;exact absurd he (by decide)
 rw[if_neg h4];refine⟨by show 1≤G0 s;omega,GK s,fun i hi=>?_⟩
 have hi:i<G0 s:=hi
 unfold G0 at hi;by_cases h5:2≤s.size∧o0 (A5 s 0) (A5 s 1)=true
 ·rw[if_pos h5]at hi;have h6:=h5.2
  intro e;rcases (by omega:i=0∨i=1) with rfl|rfl <;> (rw[e]at h6;unfold o0 at h6;simp at h6)
 ·rw[if_neg h5]at hi;split at hi
  ·rename_i h6
   have hi0:i=0:=by omega
   subst hi0;intro e;have:s.data.toList.getD 0 0=10:=by
    apply UInt8.toNat_inj.1
    have e':((s.data.toList.getD 0 0).toNat:Int)=10:=e
    show _=10
    omega
   rw[this]at h6;exact absurd h6.2 (by decide)
  ·omega
theorem Y2{s:ByteArray}{off:Nat}:∀(n:Nat),(∀i,i<n→A5 s (off+i)≠10)→C7 s (off+n)=⟨(C7 s off).Line,(C7 s off).Col+n⟩
 | 0,_=>by simp
 | n+1,h=>by
  have ih:=Y2 n (fun i hi=>h i (by omega))
  rw[show off+(n+1)=(off+n)+1 from by omega]
  rw[show C7 s (off+n+1)=if A5 s (off+n)=10 then ⟨(C7 s (off+n)).Line+1,1⟩ else ⟨(C7 s (off+n)).Line,(C7 s (off+n)).Col+1⟩ from rfl,if_neg (h n (by omega)),ih]
  simp;omega
theorem FG{s:ByteArray}{k:Nat}(h:A5 s k=10):C7 s (k+1)=⟨(C7 s k).Line+1,1⟩:=by
 rw[show C7 s (k+1)=if A5 s k=10 then ⟨(C7 s k).Line+1,1⟩ else ⟨(C7 s k).Line,(C7 s k).Col+1⟩ from rfl,if_pos h]
theorem NI{s:ByteArray}{off k:Nat}(h1:off≤k)(hk:k≤s.size)(ha:∀i,off≤i→i<k→A5 s i≠10)(hn:k<s.size→A5 s k=10):Bg s off=k:=by
 have hl:=K9 s
 have hg:∀i,((I6 s).drop off).getD i 0=(I6 s).getD (off+i) 0:=fun i=>by
  rw[List.getD_eq_getElem?_getD,List.getD_eq_getElem?_getD,List.getElem?_drop]
 unfold Bg;rw[V5 (k:=k-off) (by simp[hl];omega) (fun i hi=>by rw[hg];exact decide_eq_true (ha (off+i) (by omega) (by omega))) (fun hh=>by
  rw[hg,show off+(k-off)=k from by omega]
  have:=hn (by simp[hl]at hh;omega)
  exact decide_eq_false (fun q=>q this))]
 omega
end Go.Proofs.YtlimglpjpcfpdaaGreat
end
section
open Go Mk
namespace Go.Proofs.YtlimglpjpcfpdaaGreat
set_option maxHeartbeats 4000000
attribute [local irreducible] Calls BM G0 J8 C7 Bg
theorem OJ(Γ:B8)(S:List A7)(w:World)(s:ByteArray)(hs:s.size≤4611686018427387904)(hw:Wd Γ S w) :
  Calls Tryz.prog 38 #[.string s] w fun e w'=>∃v,e=.returned (.tuple #[v,.agg (enc (H2 s).2.1).toArray,.int .i64 (H2 s).2.2])∧Wd Γ (.own v 178 5 ((H2 s).1.map enc)::S) w':=by
 refine F8 Tryz.func38 rfl rfl ?_
 refine A4 ?_;refine B2 ?_;intro bp w hw;have hw:Wd Γ (.blk bp (.cells (enc (⟨0,0⟩:F1)).toArray 44)::S) w:=hw
 refine A4 ?_;refine PY ?_
 refine A4 ?_;refine A0 rfl (fun h=>?_) (fun h=>?_)
 ·have h:65536<s.size:=by simp at h;omega
  have hS:H2 s=([],⟨0,0⟩,15):=by unfold H2;rw[if_pos h]
  rw[hS];refine A4 ?_;refine B0 ?_;intro w hw;have hw:Wd Γ (.blk bp (.cells (enc (⟨0,0⟩:F1)).toArray 44)::S) w:=hw
  refine A4 ?_;exact⟨[.slice none 0 0,.agg (enc (⟨0,0⟩:F1)).toArray,.int .i64 15],⟨rfl,J6 (i:=0) hw rfl rfl rfl,rfl,trivial⟩,_,rfl,Wd.addNil hw.drop⟩
 have h:¬65536<s.size:=by simp at h;omega
 have hS:H2 s=P0 s (s.size+1) 0 []:=by unfold H2;rw[if_neg h]
 rw[hS];refine A4 ?_;refine Qg ?_
 refine A4 ?_;refine C8 (fun μ ρ w=>∃(off start:Nat) (g:Value) (toks:List Tok),off≤s.size∧s.size<μ+off∧start≤off∧(C7 s off).Col=(off:Int)-start+1∧(C7 s off).Line≤1+off∧toks.length≤off∧Has ρ [(0,.string s),(3,.pointer (some ⟨bp,0,none⟩)),(5,g),(6,.int .i64 (C7 s off).Line),(7,.int .i64 start),(8,.int .i64 off)]∧P0 s (s.size+1) 0 []=P0 s μ off toks∧0≤(C7 s off).Line∧Wd Γ (.own g 178 5 (toks.map enc)::.blk bp (.cells (enc (⟨0,0⟩:F1)).toArray 44)::S) w) (s.size+1) ?_ ?_
 ·have p0:C7 s 0=⟨1,1⟩:=by unfold C7;rfl
  refine⟨0,0,.slice none 0 0,[],by omega,by omega,by omega,?_,?_,by simp,⟨rfl,rfl,rfl,?_,rfl,rfl,trivial⟩,rfl,?_,Wd.addNil hw⟩
  ·rw[p0];rfl
  ·rw[p0];decide
  ·rw[p0];rfl
  ·rw[p0];decide
 clear hw;rintro μ ρ w ⟨off,start,g,toks,ho,hμ,hst,hcol,hlin,htl,hρ,hN,hl0,hw⟩
 rw[hρ.eq];obtain⟨f,rfl⟩:∃f,μ=f+1:=⟨μ-1,by omega⟩
 rw[hN];clear hS;refine A4 ?_;refine A0 rfl (fun h1=>?_) (fun h1=>?_)
 ·have h1:off<s.size:=by simpa using h1
  have hsp:Z3 (A5 s off)=true→P0 s (f+1) off toks=P0 s f (off+1) toks:=fun q=>by
   show (if s.size≤off then _ else _)=_
   rw[if_neg (by omega),if_pos q]
  have hp1:A5 s off≠10→C7 s (off+1)=⟨(C7 s off).Line,(C7 s off).Col+1⟩:=fun q=>by
   have:=Y2 (s:=s) (off:=off) 1 (fun i hi=>by rw[show off+i=off from by omega];exact q)
   simpa using this
  have hp2:A5 s off=10→C7 s (off+1)=⟨(C7 s off).Line+1,1⟩:=FG
  refine A4 ?_;refine A0 rfl (fun e1=>?_) (fun e1=>?_)
  ·have e1:A5 s off=10:=of_decide_eq_true e1
   have hq:=hp2 e1
   refine A4 ?_;refine⟨f,by omega,off+1,off+1,g,toks,by omega,by omega,by omega,by rw[hq];show (1:Int)=_;omega,by rw[hq];show (C7 s off).Line+1≤_;omega,by omega,⟨rfl,rfl,rfl,by rw[hq];rfl,rfl,rfl,trivial⟩,by rw[hsp (by rw[e1];rfl)],by rw[hq];show 0≤(C7 s off).Line+1;omega,hw⟩
  have e1:A5 s off≠10:=of_decide_eq_false e1
  have hq:=hp1 e1
  refine A4 ?_;refine A0 rfl (fun e2=>?_) (fun e2=>?_)
  ·refine A4 ?_;refine E6 (by simp only[e2];rfl) ?_
   have e2:A5 s off=32:=of_decide_eq_true e2
   refine A4 ?_;exact⟨f,by omega,off+1,start,g,toks,by omega,by omega,by omega,by rw[hq];show (C7 s off).Col+1=_;omega,by rw[hq];show (C7 s off).Line≤_;omega,by omega,⟨rfl,rfl,rfl,by rw[hq];rfl,rfl,rfl,trivial⟩,by rw[hsp (by rw[e2];rfl)],by rw[hq];exact hl0,hw⟩
  refine A4 ?_;refine A0 rfl (fun e3=>?_) (fun e3=>?_)
  ·refine A4 ?_;refine E6 (by simp only[e3];rfl) ?_
   have e3:A5 s off=9:=of_decide_eq_true e3
   refine A4 ?_;exact⟨f,by omega,off+1,start,g,toks,by omega,by omega,by omega,by rw[hq];show (C7 s off).Col+1=_;omega,by rw[hq];show (C7 s off).Line≤_;omega,by omega,⟨rfl,rfl,rfl,by rw[hq];rfl,rfl,rfl,trivial⟩,by rw[hsp (by rw[e3];rfl)],by rw[hq];exact hl0,hw⟩
  refine A4 ?_;refine A0 rfl (fun e4=>?_) (fun e4=>?_)
  ·have e4:A5 s off=13:=of_decide_eq_true e4
   refine A4 ?_;exact⟨f,by omega,off+1,start,g,toks,by omega,by omega,by omega,by rw[hq];show (C7 s off).Col+1=_;omega,by rw[hq];show (C7 s off).Line≤_;omega,by omega,⟨rfl,rfl,rfl,by rw[hq];rfl,rfl,rfl,trivial⟩,by rw[hsp (by rw[e4];rfl)],by rw[hq];exact hl0,hw⟩
  have e2:A5 s off≠32:=of_decide_eq_false e2
  have e3:A5 s off≠9:=of_decide_eq_false e3
  have e4:A5 s off≠13:=of_decide_eq_false e4
  have hns:¬Z3 (A5 s off)=true:=by simp[Z3,e1,e2,e3,e4]
  refine A4 ?_;refine A0 rfl (fun e5=>?_) (fun e5=>?_)
  ·have e5:A5 s off=35:=of_decide_eq_true e5
   have hsk:P0 s (f+1) off toks=P0 s f (Bg s off) toks:=by
    show (if s.size≤off then _ else _)=_
    rw[if_neg (by omega),if_neg hns,if_pos e5]
   refine A4 ?_;refine C8 (fun μ ρ w=>∃k:Nat,μ+k=s.size∧off≤k∧Has ρ [(0,.string s),(3,.pointer (some ⟨bp,0,none⟩)),(5,g),(6,.int .i64 (C7 s off).Line),(7,.int .i64 start),(8,.int .i64 k)]∧(∀i,off≤i→i<k→A5 s i≠10)∧Wd Γ (.own g 178 5 (toks.map enc)::.blk bp (.cells (enc (⟨0,0⟩:F1)).toArray 44)::S) w) (s.size-off) ⟨off,by omega,by omega,⟨rfl,rfl,rfl,rfl,rfl,rfl,trivial⟩,fun i h1 h2=>by omega,hw⟩ ?_
   clear hw hρ;rintro μ2 ρ w ⟨k,hk,hk1,hρ,hall,hw⟩
   rw[hρ.eq];refine A4 ?_;refine A0 rfl (fun h4=>?_) (fun h4=>?_)
   ·have h4:k<s.size∧A5 s k≠10:=by
     rw[Bool.and_eq_true,decide_eq_true_eq]at h4;exact⟨by omega,of_decide_eq_true h4.2⟩
    have hkl:=h4.1
    refine A4 ?_;refine⟨μ2-1,by omega,k+1,by omega,by omega,⟨rfl,rfl,rfl,rfl,rfl,rfl,trivial⟩,fun i h1 h2=>?_,hw⟩
    by_cases e:i=k
    ·subst e;exact h4.2
    ·exact hall i h1 (by omega)
   ·have hend:k<s.size→A5 s k=10:=fun hlt=>by
     have q1:decide ((k:Int)<s.size)=true:=by simp;omega
     rw[q1,Bool.true_and]at h4;have:=of_decide_eq_false h4
     exact Classical.not_not.1 this
    have hkk:off<k:=by
     rcases Nat.lt_or_ge off k with q|q
     ·exact q
     ·have:k=off:=by omega
      subst this;have:=hend h1
      exact absurd this e1
    have hks:Bg s off=k:=NI hk1 (by omega) hall hend
    have hpk:=Y2 (s:=s) (off:=off) (k-off) (fun i hi=>hall (off+i) (by omega) (by omega))
    rw[show off+(k-off)=k from by omega]at hpk
    refine A4 ?_;exact⟨f,by omega,k,start,g,toks,by omega,by omega,by omega,by rw[hpk];show (C7 s off).Col+_=_;omega,by rw[hpk];show (C7 s off).Line≤_;omega,by omega,⟨rfl,rfl,rfl,by rw[hpk];rfl,rfl,rfl,trivial⟩,by rw[hsk,hks],by rw[hpk];exact hl0,hw⟩
  have e5:A5 s off≠35:=of_decide_eq_false e5
  have hsz:(E9 s off s.size).size=s.size-off:=Y7 (Nat.le_refl _)
  have hok:=NL (s:=E9 s off s.size) (by omega)
  have hstep:P0 s (f+1) off toks=if (J8 (E9 s off s.size)).err=0 then P0 s f (off+(J8 (E9 s off s.size)).n) (toks++[⟨(J8 (E9 s off s.size)).kind,(J8 (E9 s off s.size)).text,(J8 (E9 s off s.size)).value,(C7 s off).Line,(C7 s off).Col⟩]) else ([],C7 s off,(J8 (E9 s off s.size)).err):=by
   show (if s.size≤off then _ else _)=_
   rw[if_neg (by omega),if_neg hns,if_neg e5]
  have hbyte:∀i,i<s.size-off→A5 (E9 s off s.size) i=A5 s (off+i):=fun i hi=>PV (by omega)
  rw[hstep];obtain⟨ag,ng,cg,rfl,hng,hngc,hcg⟩:=hw.own_shape (i:=0) rfl
  simp only[List.length_map]at hng
  have hoz:(0:Int)≤off:=by omega
  refine A4 ?_;refine B2 ?_;intro b9 w hw;refine B0 ?_;intro w hw;have hw:Wd Γ (.blk b9 (.cells (enc (⟨(C7 s off).Line,(off:Int)-start+1⟩:F1)).toArray 44)::.own (.slice ag ng cg) 178 5 (toks.map enc)::.blk bp (.cells (enc (⟨0,0⟩:F1)).toArray 44)::S) w:=hw
  rw[←hcol]at hw;refine A4 ?_;refine PN (hp:=Pp Γ (E9 s off s.size) (by omega) (by omega)) ?_
  intro w hw;generalize J8 (E9 s off s.size)=t at *
  refine A4 ?_;refine B2 ?_;intro b10 w hw;refine B0 ?_;intro w hw;have hw:Wd Γ (.blk b10 (.cells (enc (Rs t)).toArray 178)::.blk b9 (.cells (enc (⟨(C7 s off).Line,(C7 s off).Col⟩:F1)).toArray 44)::.own (.slice ag ng cg) 178 5 (toks.map enc)::.blk bp (.cells (enc (⟨0,0⟩:F1)).toArray 44)::S) w:=hw
  refine A4 ?_;refine A0 rfl (fun h6=>?_) (fun h6=>?_)
  ·have h6:¬t.err=0:=by simpa using h6
   rw[if_neg h6];refine A4 ?_;refine Z7 [.blk b10 _,.blk b9 _,.own _ _ _ _] (.blk bp _::S) [] [[],[],[],[0],[]] hw ?_
   refine i9 ?_;refine Z2 (φ:=fun (_:Unit) _=>True) (R:=fun _=>.blk bp (.cells (enc (⟨0,0⟩:F1)).toArray 44)::S) (v:=undef) (T':=Unit) (fun _ _=>True) (fun _=>.blk bp (.cells (enc (⟨(C7 s off).Line,(C7 s off).Col⟩:F1)).toArray 44)::S) (fun t' g w Y _ hw=>V6 (i:=0) (inferInstance:Kk Tryz.prog 44 2).h hw rfl rfl rfl rfl (fun u hu=>(List.all_eq_true.1 (Ca (⟨(C7 s off).Line,(C7 s off).Col⟩:F1))) u hu) rfl (Nat.le_refl 2) fun w' hw'=>⟨(),trivial,(fun _=>rfl),hw'⟩) ?_
   refine i9 ?_;refine y6 fun t' w g _ hw=>?_
   have hw:Wd Γ (.blk bp (.cells (enc (C7 s off)).toArray 44)::S) w:=Wd.left (S:=.blk bp _::S) hw
   refine A4 ?_;exact⟨[.slice none 0 0,.agg (enc (C7 s off)).toArray,.int .i64 t.err],⟨rfl,J6 (i:=0) hw rfl rfl rfl,rfl,trivial⟩,_,rfl,Wd.addNil hw.drop⟩
  ·have h6:t.err=0:=by simpa using h6
   rw[if_pos h6];obtain⟨hn1,hn2,hnn⟩:=hok h6
   rw[hsz]at hn2;have hpn:=Y2 (s:=s) (off:=off) t.n (fun i hi=>by rw[←hbyte i (by omega)];exact hnn i hi)
   refine A4 ?_;refine B0 ?_;intro w hw;have hw:Wd Γ (.blk b10 (.cells (enc (⟨t.kind,t.text,t.value,(C7 s off).Line,(C7 s off).Col⟩:Tok)).toArray 178)::.blk b9 (.cells (enc (⟨(C7 s off).Line,(C7 s off).Col⟩:F1)).toArray 44)::.own (.slice ag ng cg) 178 5 (toks.map enc)::.blk bp (.cells (enc (⟨0,0⟩:F1)).toArray 44)::S) w:=hw
   refine A4 ?_;refine D7 [enc (⟨t.kind,t.text,t.value,(C7 s off).Line,(C7 s off).Col⟩:Tok)] ?_
   intro a72 w hw;refine Bp (i:=3) (rows2:=[enc (⟨t.kind,t.text,t.value,(C7 s off).Line,(C7 s off).Col⟩:Tok)]) ?_ (Wd.own_rd (i:=0) hw rfl)
   intro v' w hw;refine A4 ?_;have hw:Wd Γ (.own v' 178 5 (toks.map enc++[enc (⟨t.kind,t.text,t.value,(C7 s off).Line,(C7 s off).Col⟩:Tok)])::.blk bp (.cells (enc (⟨0,0⟩:F1)).toArray 44)::S) w:=hw.drop.drop.drop
   rw[show toks.map enc++[enc (⟨t.kind,t.text,t.value,(C7 s off).Line,(C7 s off).Col⟩:Tok)]=(toks++[(⟨t.kind,t.text,t.value,(C7 s off).Line,(C7 s off).Col⟩:Tok)]).map enc from by simp]at hw
   exact⟨f,by omega,off+t.n,start,v',_,by omega,by omega,by omega,by rw[hpn];show (C7 s off).Col+_=_;omega,by rw[hpn];show (C7 s off).Line≤_;omega,by simp;omega,⟨rfl,rfl,rfl,by rw[hpn];rfl,rfl,rfl,trivial⟩,rfl,by rw[hpn];exact hl0,hw⟩
 ·have h1:¬off<s.size:=by simpa using h1
  have hend:P0 s (f+1) off toks=(toks,⟨0,0⟩,0):=by
   show (if s.size≤off then _ else _)=_
   rw[if_pos (by omega)]
  rw[hend];refine A4 ?_;refine B0 ?_;intro w hw;have hw:Wd Γ (.own g 178 5 (toks.map enc)::.blk bp (.cells (enc (⟨0,0⟩:F1)).toArray 44)::S) w:=hw
  refine A4 ?_;exact⟨[g,.agg (enc (⟨0,0⟩:F1)).toArray,.int .i64 0],⟨rfl,J6 (i:=1) hw rfl rfl rfl,rfl,trivial⟩,_,rfl,hw.dropAt 1⟩
end Go.Proofs.YtlimglpjpcfpdaaGreat
end
section
open Go Mk
namespace Go.Proofs.YtlimglpjpcfpdaaGreat
set_option maxHeartbeats 4000000
attribute [local irreducible] Calls
theorem Mg{P:Program}{d:Option Tmp}{T ty:TypeId}{pos:String}{es:Array Edge}{g:Option (Nat×Bool)}{x:Operand}{ρ:Fr}{w:World}{v:Value}{fs:Array Field}(hu:P.underlying T=some (.struct fs))(hx:ev ρ x=v):Mk.Yields P ⟨d,.makeInterface T x,ty,pos,es,g⟩ ρ w (.iface T v):=by
 unfold Mk.Yields;simp[execOp,hx,Instr.makeInterface,run_underlying hu,Result.andThen]
def isS(toks:List Tok)(at':Nat)(kind:Int)(text:ByteArray):Bool:=match toks[at']? with|some t=>decide (t.Kind=kind)&&decide (t.Text=text)|none=>false
def X5(toks:List Tok)(at':Nat)(e:F1):F1:=match toks[at']? with|some t=>⟨t.Line,t.Col⟩|none=>e
abbrev PR(α:Type):=Except (F1×Int) (α×Nat)
theorem LJ{s:ByteArray}:∀ {k:Nat},k≤s.size→(C7 s k).Line=1+(((s.data.toList.take k).count 10:Nat):Int)
 | 0,_=>by simp[C7]
 | k+1,h=>by
  have ih:=LJ (s:=s) (k:=k) (by omega)
  have hk:k<s.data.toList.length:=by rw[show s.data.toList.length=s.size from by simp];omega
  obtain⟨b,hb⟩:∃b,s.data.toList[k]? = some b:=⟨_,List.getElem?_eq_getElem hk⟩
  have hB:A5 s k=((b.toNat:Nat):Int):=by
   show ((s.data.toList.getD k 0).toNat:Int)=_
   rw[List.getD_eq_getElem?_getD,hb];rfl
  rw[List.take_add_one,hb];by_cases h1:b=10
  ·subst h1;rw[FG (by rw[hB];rfl)]
   simp[ih];omega
  ·have h2:A5 s k≠10:=by
    rw[hB];intro h2;exact h1 (UInt8.toNat_inj.1 (by simpa using (show b.toNat=10 by omega)))
   have:=Y2 (s:=s) (off:=k) 1 (fun i hi=>by
    have:i=0:=by omega
    subst this;exact h2)
   rw[this];simp[ih,h1]
theorem NS{s:ByteArray}{k:Nat}(h:∀i,k≤i→i<s.size→A5 s i≠10)(hk:k≤s.size):(C7 s s.size).Col=(C7 s k).Col+((s.size-k:Nat):Int):=by
 have:=Y2 (s:=s) (off:=k) (s.size-k) (fun i hi=>h _ (by omega) (by omega))
 rw[show k+(s.size-k)=s.size by omega]at this
 rw[this]
def Ac(s:ByteArray):F1:=C7 s s.size
theorem Pj(s:ByteArray)(hs:s.size≤4611686018427387904)(w:World):Calls Tryz.prog 88 #[.string s,.int .u8 10] w fun e w'=>e=.returned (.int .i64 ((s.size:Int)-(Ac s).Col))∧w'=w:=by
 refine A3 Tryz.func88 rfl rfl ?_
 refine A4 ?_;refine C8 (fun μ ρ w'=>∃(i:Int) (k:Nat),i+1=k∧μ=k∧k≤s.size∧Has ρ [(0,.string s),(1,.int .u8 10),(5,.int .i64 i)]∧(∀j,k≤j→j<s.size→A5 s j≠10)∧w'=w) s.size ⟨(s.size:Int)-1,s.size,by omega,rfl,Nat.le_refl _,⟨rfl,rfl,rfl,trivial⟩,fun j h1 h2=>by omega,rfl⟩ ?_
 rintro μ ρ w' ⟨i,k,hik,rfl,hk,hρ,hno,rfl⟩
 rw[hρ.eq];refine A4 ?_;refine A0 rfl (fun h=>?_) (fun h=>?_)
 ·have h:0≤i:=of_decide_eq_true h
  refine A4 ?_;have hi:i.toNat+1=μ:=by omega
  refine A0 rfl (fun h2=>?_) (fun h2=>?_)
  ·have h2:A5 s i.toNat=10:=of_decide_eq_true h2
   refine A4 ?_;refine⟨_,rfl,?_,rfl⟩
   have h3:=NS (s:=s) (k:=μ) hno hk
   have h4:=FG h2
   rw[hi]at h4;rw[h4]at h3;unfold Ac;rw[h3];show Ending.returned (.int .i64 i)=_
   congr 2;dsimp;omega
  ·have h2:¬A5 s i.toNat=10:=of_decide_eq_false h2
   refine A4 ?_;refine⟨i.toNat,by omega,i-1,i.toNat,by omega,rfl,by omega,⟨rfl,rfl,rfl,trivial⟩,fun j h3 h4=>?_,rfl⟩
   by_cases e:j=i.toNat
   ·subst e;exact h2
   ·exact hno j (by omega) h4
 ·have h:¬0≤i:=of_decide_eq_false h
  refine A4 ?_;refine⟨_,rfl,?_,rfl⟩
  have h3:=NS (s:=s) (k:=0) (fun j h1 h2=>hno j (by omega) h2) (by omega)
  unfold Ac;rw[h3];show Ending.returned (.int .i64 (-1))=_
  congr 2;simp[C7];omega
theorem MM(s:ByteArray)(c:Int)(w:World):(callFunc 90 #[.string s,.int .u8 c]).run Tryz.prog w=.ok (.value (.int .i64 (Go.Lib.countByte s.data.toList c.toNat.toUInt8))) w:=by
 rw[run_callFunc_extern Tryz.func90 (by kernel_rfl) (by kernel_rfl) (e:=Extern.BytealgCount.count) (by kernel_rfl) (by kernel_rfl),Go.Lib.run_countString]
 rfl
theorem Jf(s:ByteArray):PC Tryz.prog 41 [.string s,.string ⟨#[10]⟩] (.int .i64 (s.data.toList.count 10:Nat)):=⟨fun w=>by
 refine A3 Tryz.func41 rfl rfl ?_
 refine A4 ?_;refine A0 rfl (fun h=>absurd h (by decide)) (fun _=>?_)
 refine A4 ?_;refine A0 rfl (fun _=>?_) (fun h=>absurd h (by decide))
 refine A4 ?_;refine lY (v:=.int .u8 10) ?_ (hy:=FP (s:=⟨#[10]⟩) (k:=.i64) (i:=0) rfl rfl (by decide) (by decide))
 refine A4 ?_;refine Tw (vs:=[.string s,.int .u8 10]) (MM s 10) ?_
 refine A4 ?_;exact⟨_,rfl,rfl,rfl⟩⟩
theorem MW(s:ByteArray)(hs:s.size≤4611686018427387904):PC Tryz.prog 40 [.string s,.int .u8 10] (.int .i64 ((s.size:Int)-(Ac s).Col)):=⟨fun w=>by
 have hL3:PC Tryz.prog 88 [.string s,.int .u8 10] (.int .i64 ((s.size:Int)-(Ac s).Col)):=⟨fun w=>Pj s hs w⟩
 refine A3 Tryz.func40 rfl rfl ?_
 refine A4 ?_;exact⟨_,rfl,rfl,rfl⟩⟩
theorem Sg{P:Program}{Γ:B8}{S:List A7}{ρ:Fr}{w:World}{t T i b k:Nat}{cs:Array Value}{E:TypeId}{fr:Nat×Nat}{v:Value}[ha:TS P T](hw:Wd Γ S w)(hi:S[i]? = some (.blk b (.cells cs E fr)))(hx:ρ t=.pointer (some ⟨b,k,none⟩))(hv:cs[k]? = some v):NM P ρ w (.cell t T) v:=by
 refine⟨_,hx,?_⟩
 have hc:=cell_of (hw.at_blk hi) hv
 simp[loadVar,x0 ha.h,hc,go_sem]
theorem Aw{s:ByteArray}:∀ {f off:Nat} {acc:List Tok},off≤s.size→(P0 s f off acc).1.length≤acc.length+(s.size-off)
 | 0,off,acc,h=>by simp[P0]
 | f+1,off,acc,h=>by
  unfold P0;split
  ·simp
  ·rename_i h1
   split
   ·have:=Aw (s:=s) (f:=f) (off:=off+1) (acc:=acc) (by omega)
    omega
   ·split
    ·have h2:off≤Bg s off∧Bg s off≤s.size:=by
      unfold Bg;have:(((I6 s).drop off).takeWhile fun b=>decide ((b.toNat:Int)≠10)).length≤((I6 s).drop off).length:=(List.takeWhile_sublist _).length_le
      rw[List.length_drop,K9]at this;omega
     have:=Aw (s:=s) (f:=f) (off:=Bg s off) (acc:=acc) h2.2
     omega
    ·split
     ·rename_i h4
      have hsz:(E9 s off s.size).size=s.size-off:=Y7 (Nat.le_refl _)
      obtain⟨a1,a2,-⟩:=NL (s:=E9 s off s.size) (by omega) h4
      have:=Aw (s:=s) (f:=f) (off:=off+(J8 (E9 s off s.size)).n) (acc:=acc++[⟨(J8 (E9 s off s.size)).kind,(J8 (E9 s off s.size)).text,(J8 (E9 s off s.size)).value,(C7 s off).Line,(C7 s off).Col⟩]) (by omega)
      simp at this;omega
     ·simp
theorem Mi{s:ByteArray}:(H2 s).1.length≤65536:=by
 unfold H2;split
 ·simp
 ·have:=Aw (s:=s) (f:=s.size+1) (off:=0) (acc:=[]) (by omega)
  simp at this;omega
structure Val where
 Kind:Int
 Num:Int
 Word:ByteArray
 deriving DecidableEq,Inhabited
instance:EF Val where
 enc a:=[.int .i64 a.Kind,.int .i64 a.Num,.string a.Word]
 inj a b h:=by cases a;cases b;simp at h;simp[h]
 ks:=[5,5,1]
 kinds a:=rfl
def cV(a b:Val):Int:=z8 (cI a.Kind b.Kind) (z8 (cI a.Num b.Num) (cB a.Word b.Word))
theorem DX:P1 cV:=(Cn.prod (Cn.prod KU)).map (fun v:Val=>(v.Kind,v.Num,v.Word)) fun a b h=>by cases a;cases b;simp at h;simp[h]
abbrev I3:=ByteArray×List Val
def I1(a b:I3):Int:=z8 (cB a.1 b.1) (z8 (cI a.2.length b.2.length) (cL cV a.2 b.2))
theorem Y4:P1 I1:=(KU.prod (Cn.prod DX.list)).map (fun f:I3=>(f.1,((f.2.length:Int),f.2))) fun a b h=>by
 simp only[Prod.mk.injEq]at h;exact Prod.ext h.1 h.2.2
structure C1 where
 Rel:ByteArray
 A:Option Addr
 N:Nat
 C:Nat
 Args:List Val
def C1.hdr(f:C1):Value:=.slice f.A f.N f.C
def C1.fact(f:C1):I3:=(f.Rel,f.Args)
def cF(f:C1):List Value:=[.string f.Rel,f.hdr]
def Bt(Γ:B8)(f:C1):Prop:=D3 Γ f.hdr 3 (f.Args.map enc)
theorem Bt.len{Γ:B8}{f:C1}(h:Bt Γ f):f.N=f.Args.length∧f.N≤f.C∧f.C≤9223372036854775807:=by
 obtain⟨a,n,c,h1,h2,h3,h4⟩:=D3.shape h
 unfold C1.hdr at h1;cases h1
 exact⟨by simpa using h2,h3,h4⟩
theorem Pt(f:C1):(cF f).all (·.oneCell')=true:=rfl
theorem LV(fs:List C1):∀u∈(fs.map cF).flatten,u.oneCell'=true:=fun u hu=>by
 obtain⟨r,hr,hu⟩:=List.mem_flatten.1 hu
 obtain⟨f,_,rfl⟩:=List.mem_map.1 hr
 exact(List.all_eq_true.1 (Pt f)) u hu
instance Ta(s:ByteArray):PC Tryz.prog 101 [.string s] (.bool false):=⟨fun w=>by
 refine A3 Tryz.func101 rfl rfl ?_
 refine A4 ?_;exact⟨_,rfl,G7 rfl (by simp),rfl⟩⟩
instance Te(s:Int):PC Tryz.prog 182 [.int .i64 s] (.bool false):=⟨fun w=>by
 refine A3 Tryz.func182 rfl rfl ?_
 refine A4 ?_;exact⟨_,rfl,G7 rfl (by simp),rfl⟩⟩
instance TV(s:Int):PC Tryz.prog 234 [.int .i64 s] (.bool false):=⟨fun w=>by
 refine A3 Tryz.func234 rfl rfl ?_
 refine A4 ?_;exact⟨_,rfl,G7 rfl (by simp),rfl⟩⟩
instance US(a b:ByteArray):PC Tryz.prog 46 [.string a,.string b] (.int .i64 (cB a b)):=⟨fun w=>by
 refine A3 Tryz.func46 rfl rfl ?_
 refine A4 ?_;refine F2 rfl ?_
 refine A4 ?_;refine F2 rfl ?_
 refine A4 ?_;refine A0 rfl (fun h=>?_) (fun h=>?_)
 ·refine A4 ?_;exact⟨_,rfl,C9 rfl (by simp[cB,h]),rfl⟩
 refine A4 ?_;refine A0 rfl (fun h2=>?_) (fun h2=>?_)
 ·refine A4 ?_;exact⟨_,rfl,C9 rfl (by simp[cB,h,h2]),rfl⟩
 ·refine A4 ?_;exact⟨_,rfl,C9 rfl (by simp[cB,h,h2]),rfl⟩⟩
instance UK(a b:Int):PC Tryz.prog 119 [.int .i64 a,.int .i64 b] (.int .i64 (cI a b)):=⟨fun w=>by
 refine A3 Tryz.func119 rfl rfl ?_
 refine A4 ?_;refine F2 rfl ?_
 refine A4 ?_;refine F2 rfl ?_
 refine A4 ?_;refine A0 rfl (fun h=>?_) (fun h=>?_)
 ·refine A4 ?_;exact⟨_,rfl,C9 rfl (by simp at h;simp[cI,h]),rfl⟩
 refine A4 ?_;refine A0 rfl (fun h2=>?_) (fun h2=>?_)
 ·refine A4 ?_;exact⟨_,rfl,C9 rfl (by simp at h h2;unfold cI;rw[if_neg (by omega),if_pos h2]),rfl⟩
 ·refine A4 ?_;exact⟨_,rfl,C9 rfl (by simp at h h2;unfold cI;rw[if_neg (by omega),if_neg (by omega)]),rfl⟩⟩
instance UQ(a b:Int):PC Tryz.prog 173 [.int .i64 a,.int .i64 b] (.int .i64 (cI a b)):=⟨fun w=>by
 refine A3 Tryz.func173 rfl rfl ?_
 refine A4 ?_;refine F2 rfl ?_
 refine A4 ?_;refine F2 rfl ?_
 refine A4 ?_;refine A0 rfl (fun h=>?_) (fun h=>?_)
 ·refine A4 ?_;exact⟨_,rfl,C9 rfl (by simp at h;simp[cI,h]),rfl⟩
 refine A4 ?_;refine A0 rfl (fun h2=>?_) (fun h2=>?_)
 ·refine A4 ?_;exact⟨_,rfl,C9 rfl (by simp at h h2;unfold cI;rw[if_neg (by omega),if_pos h2]),rfl⟩
 ·refine A4 ?_;exact⟨_,rfl,C9 rfl (by simp at h h2;unfold cI;rw[if_neg (by omega),if_neg (by omega)]),rfl⟩⟩
instance Tv(a b:ByteArray):PC Tryz.prog 122 [.string a,.string b] (.int .i64 (cB a b)):=⟨fun w=>by
 refine A3 Tryz.func122 rfl rfl ?_
 repeat first|refine B6 ?_|refine B7 ?_;intro w hw
 refine A0 rfl (fun h=>?_) (fun h=>?_)
 ·repeat first|refine B6 ?_|refine B7 ?_;intro w hw
  exact⟨_,rfl,C9 rfl (by simp[cB,h]),rfl⟩
 repeat first|refine B6 ?_|refine B7 ?_;intro w hw
 refine A0 rfl (fun h2=>?_) (fun h2=>?_)
 ·repeat first|refine B6 ?_|refine B7 ?_;intro w hw
  exact⟨_,rfl,C9 rfl (by simp[cB,h,h2]),rfl⟩
 ·repeat first|refine B6 ?_|refine B7 ?_;intro w hw
  exact⟨_,rfl,C9 rfl (by simp[cB,h,h2]),rfl⟩⟩
instance TX(a b:Int):PC Tryz.prog 121 [.int .i64 a,.int .i64 b] (.int .i64 (cI a b)):=⟨fun w=>by
 refine A3 Tryz.func121 rfl rfl ?_
 repeat first|refine B6 ?_|refine B7 ?_;intro w hw
 refine A0 rfl (fun h=>?_) (fun h=>?_)
 ·repeat first|refine B6 ?_|refine B7 ?_;intro w hw
  exact⟨_,rfl,C9 rfl (by simp at h;simp[cI,h]),rfl⟩
 repeat first|refine B6 ?_|refine B7 ?_;intro w hw
 refine A0 rfl (fun h2=>?_) (fun h2=>?_)
 ·repeat first|refine B6 ?_|refine B7 ?_;intro w hw
  exact⟨_,rfl,C9 rfl (by simp at h h2;unfold cI;rw[if_neg (by omega),if_pos h2]),rfl⟩
 ·repeat first|refine B6 ?_|refine B7 ?_;intro w hw
  exact⟨_,rfl,C9 rfl (by simp at h h2;unfold cI;rw[if_neg (by omega),if_neg (by omega)]),rfl⟩⟩
theorem Au{x y:Int}(h:¬x=0):z8 x y=x:=by unfold z8;rw[if_neg h]
theorem Q1{x y:Int}(h:x=0):z8 x y=y:=by unfold z8;rw[if_pos h]
theorem E3{α:Type}(l:List α){k:Nat}(h:l.length≤k):l.drop k=[]:=List.drop_eq_nil_of_le h
theorem K5{α:Type}{l:List α}{k:Nat}{x:α}(h:l[k]? = some x):l.drop k=x::l.drop (k+1):=by
 obtain⟨h1,h2⟩:=List.getElem?_eq_some_iff.1 h
 rw[←h2];exact List.drop_eq_getElem_cons h1
def JQ:List Int→Int
 | []=>0
 | x::l=>z8 x (JQ l)
theorem NW(x:Int):z8 x 0=x:=by unfold z8;split <;> simp[*]
theorem Jr{Γ:B8}{S:List A7}{w:World}{v:Value}(xs:List Int)(hw:Wd Γ S w)(hr:O9 Γ S v 1 (xs.map fun x=>[.int .i64 x])) :
  Calls Tryz.prog 118 #[v] w fun e w'=>e=.returned (.int .i64 (JQ xs))∧Wd Γ S w':=by
 obtain⟨a,n,c,rfl,hn,hnc,hc⟩:=hr.shape;simp only[List.length_map]at hn
 refine A3 Tryz.func118 rfl rfl ?_
 refine A4 ?_;refine C8 (fun μ ρ w=>∃(k:Nat),μ+k=n∧Has ρ [(3,.int .i64 0),(6,.slice a n c),(7,.int .i64 n),(8,.int .i64 k)]∧JQ xs=JQ (xs.drop k)∧Wd Γ S w) n ⟨0,by omega,⟨rfl,rfl,rfl,rfl,trivial⟩,rfl,hw⟩ ?_
 clear hw;rintro μ ρ w ⟨k,hk,hρ,ho,hw⟩
 rw[hρ.eq];refine A4 ?_;refine A0 rfl (fun h=>?_) (fun h=>?_)
 ·have hkn:k<n:=by simpa using h
  obtain⟨x,hx⟩:=C0 (l:=xs) (k:=k) (by omega)
  have hd:xs.drop k=x::xs.drop (k+1):=by
   obtain⟨h1,h2⟩:=List.getElem?_eq_some_iff.1 hx
   rw[←h2];exact(List.drop_eq_getElem_cons h1)
  rw[hd]at ho;refine A4 ?_;refine A0 rfl (fun h2=>?_) (fun h2=>?_)
  ·refine A4 ?_;have h2:¬x=0:=by simpa using h2
   refine⟨_,rfl,C9 rfl ?_,hw⟩
   rw[ho];unfold JQ z8;rw[if_neg h2]
  ·refine A4 ?_;have h2:x=0:=by simpa using h2
   refine⟨μ-1,by omega,k+1,by omega,⟨rfl,rfl,rfl,rfl,trivial⟩,?_,hw⟩
   rw[ho];show z8 x _=_;unfold z8;rw[if_pos h2]
 ·have hkn:¬k<n:=by simpa using h
  refine A4 ?_;refine⟨_,rfl,C9 rfl ?_,hw⟩
  rw[ho,List.drop_eq_nil_of_le (by omega)];rfl
end Go.Proofs.YtlimglpjpcfpdaaGreat
end
section
open Go
namespace Mk
section
variable {P:Program}{n:Nat}{opa:Array Oper}{Γ:B8}{S:List A7}{QQ:Exit→Fr→World→Prop}{K:Value→World→Prop}{ρ:Fr}{w:World}{rest:List Oper}{sz:Nat}{rows:List (List Value)}
variable {d:Option Tmp}{T U ty:TypeId}{pos:String}{es:Array Edge}{g:Option (Nat×Bool)}{x y z:Operand}{v:Value}
theorem Li{L r:List Value}{p f m sz N:Nat}(hp:p+sz≤N)(hN:N≤L.length)(hr:r.length=m)(hfm:f+m≤sz) :
  (L.take (p+f)++r++L.drop (p+f+r.length)).take N=(L.take N).take p++(((L.drop p).take sz).take f++r++((L.drop p).take sz).drop (f+m))++(L.take N).drop (p+sz):=by
 refine List.ext_getElem? fun i=>?_
 simp only[List.getElem?_append,List.getElem?_take,List.getElem?_drop,List.length_append,List.length_take,List.length_drop,hr]
 repeat' split
 all_goals first|omega|rfl|(congr 1;omega)|skip
theorem MD{E k f m i n c:Nat}{a:Option Addr}{v:Value}{r row:List Value}(hn:(P.info? T).map (·.size)=some m)(hw:Wd Γ S w)(hx:ev ρ x=.pointer (some ⟨aB a,aO a+k*sz+f,none⟩))(hy:ev ρ y=v)(hv:v.cells.toList=r)(hl:r.length=m)
  (h1:r.all (·.oneCell')=true) (hi:S[i]? = some (.own (.slice a n c) E sz rows)) (hkl:k<n) (hrow:rows[k]? = some row) (hfm:f+m≤sz) (hk:∀w',Wd Γ (S.set i (.own (.slice a n c) E sz (rows.set k (row.take f++r++row.drop (f+m))))) w'→K undef w'):Step P ⟨d,.store T x y,ty,pos,es,g⟩ ρ w K:=by
 obtain⟨bs0,hr0⟩:=hw.own_holds hi
 unfold A7.own at hr0;obtain⟨q0,a',n',c',e1,e2,e3,e4,e5⟩:=hr0;cases e1
 rcases e5 with⟨hc,_⟩|⟨b,cur,g1,g2,g3,g4,g5⟩
 ·omega
 ·subst g1;have hrl:row.length=sz:=q0 row (List.mem_of_getElem? hrow)
  have hnew:(row.take f++r++row.drop (f+m)).length=sz:=by simp[hl,hrl];omega
  have hx':ev ρ x=.pointer (some ⟨b,k*sz+f,none⟩):=by rw[hx];simp[aB,aO]
  have hks:k*sz+sz≤cur.size:=by
   rw[g4,show k*sz+sz=(k+1)*sz from by rw[Nat.add_mul];omega];exact Nat.mul_le_mul_right _ (by omega)
  have hfit:k*sz+f+0+r.length≤cur.size:=by rw[hl];omega
  have hst:=run_storeCells_at P b (k*sz+f) E r 0 cur w g3 hfit (fun u hu=>(List.all_eq_true.1 h1) u hu)
  simp only[Nat.add_zero]at hst
  have hsz:v.cells.size=m:=by rw[←hl,←hv];simp
  have hr:(execOp (ev ρ) ⟨d,.store T x y,ty,pos,es,g⟩).run P w=.ok .skip (w.setRow b (cur.toList.take (k*sz+f)++r++cur.toList.drop (k*sz+f+r.length)).toArray):=by
   cases hq:P.info? T with
   | none=>simp[hq]at hn
   | some q=>
    have hs:q.size=m:=by simpa[hq] using hn
    have hz:(Go.sizeOf T).run P w=.ok m w:=by simp[Go.sizeOf,typeInfo,hq,hs]
    have hsv:(storeVar T ⟨b,k*sz+f,none⟩ v).run P w=.ok () (w.setRow b (cur.toList.take (k*sz+f)++r++cur.toList.drop (k*sz+f+r.length)).toArray):=by
     unfold storeVar;rw[Sem.run_bind,hz];simp only[Result.andThen_ok,hsz,ne_eq,not_true_eq_false,if_false,hv]
     exact hst
    simp only[execOp,hx',hy,Instr.storeAt,Instr.sureAddr,Sem.run_bind,Sem.run_pure,Result.andThen_ok,hsv]
  have hfin:=hk _ (hw.upd hi (w':=w.setRow b (cur.toList.take (k*sz+f)++r++cur.toList.drop (k*sz+f+r.length)).toArray) ⟨rfl,rfl,rfl,(by first|exact Nat.le_refl _|exact Nat.le_succ _),by simp⟩ fun bs hr' hnd hlt=>by
   unfold A7.own at hr' ⊢
   obtain⟨q0',a2,n2,c2,f1,f2,f3,f4,f5⟩:=hr';cases f1
   rcases f5 with⟨hc,_⟩|⟨b2,cur2,k1,k2,k3,k4,k5⟩
   ·omega
   ·cases k1
    rw[show hp w b=some (.cells cur E (0,0)) from g3]at k3;cases k3
    refine⟨bs,⟨?_,_,_,_,rfl,by simpa using f2,f3,f4,.inr ⟨b,_,rfl,k2,setRow_heap w b cur _ E _ g3,?_,?_⟩⟩,hnd,fun x hx=>⟨by have:=hlt x hx;simpa using this,.inl hx⟩,fun k' _ hne=>setRow_other w b k' _ (fun e=>hne (by simp[k2,e]))⟩
    ·intro r' hr';rcases List.mem_or_eq_of_mem_set hr' with h|rfl
     ·exact q0 r' h
     ·exact hnew
    ·simp only[List.size_toArray,List.length_append,List.length_take,List.length_drop,Array.length_toList];omega
    ·have hkn:k*sz+sz≤n*sz:=by rw[show k*sz+sz=(k+1)*sz from by rw[Nat.add_mul];omega];exact Nat.mul_le_mul_right _ (by omega)
     have hns:n*sz≤cur.toList.length:=by rw[Array.length_toList,g4];exact Nat.mul_le_mul_right _ e3
     have e0:=Q4 (k:=k) (r:=row) q0 hrl (by omega)
     have e9:rows.set k row=rows:=by
      refine List.ext_getElem? fun i=>?_
      rw[List.getElem?_set];split
      ·rename_i h;subst h;rw[hrow];simp;omega
      ·rfl
     rw[e9]at e0;rw[Q4 q0 hnew (by omega),←g5]
     have hrw:row=(cur.toList.drop (k*sz)).take sz:=by
      have:row=((cur.toList.take (n*sz)).drop (k*sz)).take sz:=by
       rw[g5,e0,List.append_assoc,List.drop_append_of_le_length (by rw[List.length_take,←g5,List.length_take];omega)]
       have:((rows.flatten.take (k*sz)).drop (k*sz))=[]:=by rw[List.drop_eq_nil_iff,List.length_take];omega
       rw[this,List.nil_append,List.take_append_of_le_length (by omega),List.take_of_length_le (by omega)]
      rw[this,List.drop_take,List.take_take,Nat.min_eq_left (by omega)]
     rw[hrw];exact Li hkn hns hl hfm
    )
  unfold Step;rw[hr];exact hfin
theorem Pd{E k f i m mm c sz:Nat}{a:Option Addr}{r row:List Value}{rows:List (List Value)}[hn:Kk P T m](h:∀w',Wd Γ (S.set i (.own (.slice a mm c) E sz (rows.set k (row.take f++r++row.drop (f+m))))) w'→L P n opa QQ rest ρ w')(hrow:rows[k]? = some row)(hw:Wd Γ S w:=by exact hw)(hx:ev ρ x=.pointer (some ⟨aB a,aO a+k*sz+f,none⟩):=by exact rfl)
  (hy:ev ρ y=v:=by exact R7) (hv:v.cells.toList=r:=by exact rfl) (hl:r.length=m:=by exact rfl) (h1:r.all (·.oneCell')=true:=by exact rfl) (hi:S[i]? = some (.own (.slice a mm c) E sz rows):=by exact p7) (hk:k<mm:=by omega) (hfm:f+m≤sz:=by omega) :
  L P n opa QQ (⟨none,.store T x y,ty,pos,es,none⟩::rest) ρ w:=H1 rfl rfl (MD hn.h hw hx hy hv hl h1 hi hk hrow hfm h)
end
end Mk
end
