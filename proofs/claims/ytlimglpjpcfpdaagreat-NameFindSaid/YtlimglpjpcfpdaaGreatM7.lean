/- Texts of this proof, one behind another. -/
import Derived.Test.YtlimglpjpcfpdaaGreatM6
import Derived.Test.YtlimglpjpcfpdaaGreatM3
set_option linter.unusedVariables false
set_option linter.unusedSimpArgs false
section
open Go Mk
namespace Go.Proofs.YtlimglpjpcfpdaaGreat
set_option maxHeartbeats 32000000
attribute [local irreducible] Calls cI cB E1 G1 I1
theorem PX{m:List (ByteArray×Service)}{ws:List B4}{ss:List Service}(hI:Inv m ws)(h2:H9 m ss):ss.length≤64∧∀s∈ss,F9 s.Name=true∧S6 s=false:=by
 refine⟨by have:=u1 h2;have:=hI.ml;omega,fun s hs=>?_⟩
 obtain⟨p,hp,rfl⟩:=List.mem_map.1 ((h2.perm.mem_iff).1 hs)
 exact hI.gd p hp
theorem Ni{fs:List C1}{ss:List Service}(h:fs.map C1.fact=ss.map B3)(hg:∀s∈ss,F9 s.Name=true∧S6 s=false):∀f∈fs,AU f.fact:=fun f hf=>by
 have hm:f.fact∈fs.map C1.fact:=List.mem_map.2 ⟨f,hf,rfl⟩
 rw[h]at hm;obtain⟨s,hs,e⟩:=List.mem_map.1 hm
 rw[←e];obtain⟨h1,h2⟩:=hg s hs
 have h3:=Aq h1
 unfold S6 BZ at h2;simp only[Bool.or_eq_false_iff,Bool.not_eq_false',Bool.and_eq_true,decide_eq_true_eq,decide_eq_false_iff_not]at h2
 refine⟨show 4≤100000 by decide,show Ci.size≤100000 by decide,fun v hv=>?_⟩
 have hv:v∈R0 s:=hv
 unfold R0 at hv;simp only[List.mem_cons,List.not_mem_nil,or_false]at hv
 have hz:(⟨#[]⟩:ByteArray).size≤9223372036854775807:=by decide
 rcases hv with rfl|rfl|rfl|rfl
 ·exact⟨by show (-9223372036854775808:Int)≤0∧(0:Int)≤9223372036854775807;decide,by show s.Name.size≤_;omega⟩
 ·exact⟨by show (-9223372036854775808:Int)≤s.Core∧s.Core≤9223372036854775807;omega,hz⟩
 ·exact⟨by show (-9223372036854775808:Int)≤s.Object∧s.Object≤9223372036854775807;omega,hz⟩
 ·exact⟨by show (-9223372036854775808:Int)≤s.Kind∧s.Kind≤9223372036854775807;omega,hz⟩
theorem La{fs:List C1}{ss:List Service}(h:facts fs=ss.map B3)(hg:ss.length≤64):fs.length≤50000:=by
 have h2:=congrArg List.length h
 unfold facts at h2;rw[List.length_map,List.length_map]at h2;omega
def Sr:ByteArray:=⟨#[48,49,50,51]⟩
def Tc:ByteArray:=⟨#[115,101,108,101,99,116,32,78,44,32,75,32,119,104,101,114,101,32,115,101,114,118,105,99,101,40,78,44,32,67,44,32,95,44,32,75,41,44,32,67,32,61,32]⟩
def nfS(c:Nat):ByteArray:=Tc++E9 Sr c (c+1)
theorem Nn:∀c:Nat,c<4→I6 (E9 Sr c (c+1))=Lib.decDigits c
 | 0,_=>by rw[Lib.decDigits_one (by decide)];rfl
 | 1,_=>by rw[Lib.decDigits_one (by decide)];rfl
 | 2,_=>by rw[Lib.decDigits_one (by decide)];rfl
 | 3,_=>by rw[Lib.decDigits_one (by decide)];rfl
 | c+4,h=>by omega
theorem Ul{P:Program}{ρ:Fr}{w:World}{d:Option Tmp}{T ty:TypeId}{pos:String}{es:Array Edge}{g:Option (Nat×Bool)}{x lo hi:Operand}{m:Nat}{l h:Int}[BN P T](hm:m<4)(hx:ev ρ x=.string Sr)(hl:ev ρ lo=.int .i64 l)(hh:ev ρ hi=.int .i64 h)(e1:l=((m:Nat):Int))(e2:h=((m+1:Nat):Int)) :
  Mk.Yields P ⟨d,.slice T x (some lo) (some hi) none,ty,pos,es,g⟩ ρ w (.string (E9 Sr m (m+1))):=by
 subst e1;subst e2;have:=Bm (P:=P) (T:=T) (d:=d) (ty:=ty) (pos:=pos) (es:=es) (g:=g) (w:=w) hx hl hh (by omega) (by omega) (by have:Sr.size=4:=rfl;omega)
 rwa [Int.toNat_natCast,Int.toNat_natCast]at this
theorem Lb{c:Nat}(h:c<4):(E9 Sr c (c+1)).size=1:=by
 rw[←K9,Nn c h,Lib.decDigits_one (by omega)];rfl
theorem Im{c:Nat}(h:c<4):(nfS c).size=44:=by
 unfold nfS;rw[ByteArray.size_append,Lb h];rfl
theorem QZ{n:Nat}:qL (Dr n)=I6 Tc++Lib.decDigits n:=by
 obtain⟨c1,c2,c3,c4,c5,c6,c7,-⟩:=IX;have e1:gL (HL n)=[67,32,61,32]++Lib.decDigits n:=by
  have v1:oL ⟨D8,iV n⟩=Lib.decDigits n:=by
   unfold oL;rw[if_neg (fun q=>q rfl)];unfold RP;show Lib.itoa n=_
   unfold Lib.itoa;rw[if_neg (show ¬((n:Nat):Int)<0 by omega)];rfl
  have v2:oL ⟨FY,N3⟩=[67]:=by unfold oL;rw[if_pos c3];rfl
  show oL ⟨FY,N3⟩++32::(I6 Tb++32::(oL ⟨D8,iV n⟩++[]))=_
  rw[v1,v2];have:I6 Tb=[61]:=rfl
  rw[this];simp
 have e2:gL Fb=[115,101,114,118,105,99,101,40,78,44,32,67,44,32,95,44,32,75,41]:=by decide +kernel
 show I6 HM++((32::(I6 CB++t8 [By]))++32::(I6 J4++32::(gL Fb++s8 [HL n])))=_
 unfold s8 t8;rw[List.flatMap_cons,List.flatMap_cons,List.flatMap_nil,List.flatMap_nil,e1,e2];have s1:I6 HM=[115,101,108,101,99,116]:=rfl
 have s2:I6 J4=[119,104,101,114,101]:=rfl
 have s3:I6 CB=[78]:=rfl
 have s4:I6 By=[75]:=rfl
 have s5:I6 Tc=[115,101,108,101,99,116,32,78,44,32,75,32,119,104,101,114,101,32,115,101,114,118,105,99,101,40,78,44,32,67,44,32,95,44,32,75,41,44,32,67,32,61,32]:=rfl
 rw[s1,s2,s3,s4,s5];simp
theorem OQ{c:Nat}(h:c<4):j4 (nfS c)=(Dr (c:Int),⟨0,0⟩,0):=by
 have e:nfS c=N5 (qL (Dr (c:Int))):=Ay (by
  rw[QZ,show I6 (N5 (I6 Tc++Lib.decDigits c))=I6 Tc++Lib.decDigits c from W8 _];unfold nfS;rw[Si,Nn c h])
 have hs:=Im h
 rw[e]at hs ⊢
 have h64:Bq (c:Int):=by unfold Bq;omega
 refine KV (Tp (OH h64) Iw) ?_
 have:(N5 (qL (Dr (c:Int)))).size=(qL (Dr (c:Int))).length:=by unfold N5;show (List.toArray _).size=_;simp
 omega
theorem Su{ss:List Service}{c:Int}{i:Nat}{s:Service}(hs:ss[i]? = some s)(h:¬s.Core=c):(Fa (ss.take (i+1)) c).length=(Fa (ss.take i) c).length:=by
 unfold Fa;rw[List.take_add_one,hs,List.filter_append,List.length_map,List.length_map,List.length_append];simp[h]
theorem Sz{ss:List Service}{c:Int}{i:Nat}{s:Service}(hs:ss[i]? = some s)(h:s.Core=c):(Fa ss c)[(Fa (ss.take i) c).length]? = some [wV s.Name,iV s.Kind]∧(Fa (ss.take (i+1)) c).length=(Fa (ss.take i) c).length+1:=by
 constructor
 ·have e:ss=ss.take i++s::ss.drop (i+1):=by
   have h1:=List.take_append_drop i ss
   have h2:ss.drop i=s::ss.drop (i+1):=by
    obtain⟨h3,h4⟩:=List.getElem?_eq_some_iff.1 hs
    rw[List.drop_eq_getElem_cons h3,h4]
   rw[h2]at h1;exact h1.symm
  have e2:Fa ss c=Fa (ss.take i) c++Fa (s::ss.drop (i+1)) c:=by
   unfold Fa;rw[←List.map_append,←List.filter_append,←e]
  rw[e2,List.getElem?_append_right (Nat.le_refl _),Nat.sub_self];unfold Fa;rw[List.filter_cons,if_pos (by simp[h])]
  rfl
 ·unfold Fa;rw[List.take_add_one,hs,List.filter_append,List.length_map,List.length_map,List.length_append];simp[h]
theorem _root_.Mk.Wd.nfS{Γ:B8}{b bm r:Nat}{vs v1 v2:Value}{m:List (ByteArray×Service)}{ws:List B4}{ss:List Service}{S1 S:List A7}{B:A7}{w:World}(hw:Wd Γ (D4 b bm vs m ws++(L1 r v1 v2 ss ws++(S1++(B::S)))) w):Wd Γ (D4 b bm vs m ws++(B::S)) w:=by
 have h1:Wd Γ (D4 b bm vs m ws++(S1++(B::S))) w:=hw.ds [3,3,3]
 have h2:Wd Γ (S1++(D4 b bm vs m ws++(B::S))) w:=h1.perm (List.perm_append_comm_assoc _ _ _)
 clear hw h1;induction S1 with
 | nil=>exact h2
 | cons x S1 ih=>exact ih h2.drop
theorem IG{N:Nat}{Γ:B8}{S:List A7}{w:World}{b bm:Nat}{vs va vg:Value}{m:List (ByteArray×Service)}{ws:List B4}{ss:List Service}{gs:List H4}{q:E7}(hI:Inv m ws)(h2:H9 m ss)(hq:QR Γ va vg gs q)(hok:T4 N q)(hw:Wd Γ (D4 b bm vs m ws++S) w)(hN:N≤9223372036854775807:=by first|decide|assumption) :
  Calls Tryz.prog 10 #[.pointer (some ⟨b,0,none⟩),.agg #[va,vg]] w fun e w'=>∃(Γ':B8) (v:Value) (L:List K4),Γ.le Γ'∧e=.returned (.tuple #[v,.int .i64 (E1 (ss.map B3) q)])∧RW Γ' v L∧rowsOf L=G1 (ss.map B3) q∧Wd Γ' (D4 b bm vs m ws++S) w':=by
 obtain⟨hsl,hgd⟩:=PX hI h2
 obtain⟨ga,gn,gc,rfl,-,-,-⟩:=hq.goals.shape;obtain⟨sa,sn,sc,rfl,-,-,-⟩:=hq.sel.shape;refine A3 Tryz.func10 rfl rfl ?_
 repeat first|refine B6 ?_|refine B7 ?_;intro w hw
 refine E5 ?_;intro b3 w hw;have hw:Wd Γ (.blk b3 (.cells #[.slice sa sn sc,.slice ga gn gc] 26)::(D4 b bm vs m ws++S)) w:=hw
 repeat first|refine B6 ?_|refine B7 ?_;intro w hw
 have hwX:Wd Γ ([.blk b3 (.cells #[.slice sa sn sc,.slice ga gn gc] 26)]++((D4 b bm vs m ws++S)++[])) w:=by rw[List.append_nil];exact hw
 refine Hw [.blk b3 (.cells #[.slice sa sn sc,.slice ga gn gc] 26)] [fun _=>(D4 b bm vs m ws++S),fun _=>[]] [[],[0],[],[0,1],[0],[],[0],[]] [[],[0],[],[0,1],[0],[1],[0],[]] [[7,9,10,4],[9]] hwX ?_
 clear hwX hw;refine gY ?_
 refine gS (c:=0) (v:=undef) (F:=fun _=>(D4 b bm vs m ws++S)) (L3 (T:=Value×List C1) (fun t g=>g 7=t.1) (fun t=>A7.kn Γ (fun Γ=>RL Γ t.1 t.2∧facts t.2=(ss).map B3) (fun Γ Γ' h q=>⟨q.1.mono h,q.2⟩)::(D4 b bm vs m ws++S))) (fun Γ' g w Y hle5 hw=>?_) ?_ rfl rfl rfl rfl
 ·rw[List.append_assoc]at hw;refine Y8 (vs:=#[.pointer (some ⟨b,0,none⟩)]) (EvL.eqA (xs:=[.tmp 6]) (vs:=[.pointer (some ⟨b,0,none⟩)]) (EvL.cons (by rfl) EvL.nil)) ((EQ Γ' _ w b bm vs m ws ss hI h2 hw).mono fun e w hq=>?_)
  obtain⟨v,Γ1,fs,rfl,hle6,hfk,hfe,hw1⟩:=hq;obtain⟨Γ2,hle7,hrep,hw2⟩:=hw1.freeze;refine⟨_,rfl,Γ2,hle6.trans hle7,(fun h=>(by cases h)),?_⟩
  have hFO:=Ni hfe hgd
  have hRL:RL Γ2 v fs:=⟨hrep,fun f hf=>⟨(hfk f hf).mono hle7,hFO f hf⟩⟩
  rw[←List.append_assoc]at hw2;exact L8 (T:=Value×List C1) (φ:=fun t g=>g 7=t.1) (R:=fun t=>A7.kn Γ (fun Γ=>RL Γ t.1 t.2∧facts t.2=(ss).map B3) (fun Γ Γ' h q=>⟨q.1.mono h,q.2⟩)::(D4 b bm vs m ws++S)) (v,fs) rfl (Wd.knIn ((hle5.trans hle6).trans hle7) ⟨hRL,hfe⟩ hw2)
 refine gY (v:=.agg #[.slice sa sn sc,.slice ga gn gc]) ?_
 refine gS2 (c:=0) (c2:=1) (v:=undef) (F:=(L3 (T:=Value×List C1) (fun t g=>g 7=t.1) (fun t=>A7.kn Γ (fun Γ=>RL Γ t.1 t.2∧facts t.2=(ss).map B3) (fun Γ Γ' h q=>⟨q.1.mono h,q.2⟩)::(D4 b bm vs m ws++S)))) (G:=fun _=>[]) (L3 (T:=Value×List K4) (fun t g=>g 9=.tuple #[t.1,.int .i64 (E1 (ss.map B3) q)]) (fun t=>A7.kn Γ (fun Γ=>RW Γ t.1 t.2∧rowsOf t.2=G1 (ss.map B3) q) (fun Γ Γ' h q=>⟨q.1.mono h,q.2⟩)::(D4 b bm vs m ws++S))) (L3 (T:=Value×List K4) (fun t g=>g 9=.tuple #[t.1,.int .i64 (E1 (ss.map B3) q)]) (fun _=>[])) (fun Γ' g w Y hle5 hw=>?_) ?_ (by first|exact rfl|exact A6|exact((A1 (by decide)).trans A6)|exact((A1 (by decide)).trans ((A1 (by decide)).trans A6))|exact((A1 (by decide)).trans rfl)|exact((A1 (by decide)).trans ((A1 (by decide)).trans rfl))) (by first|exact rfl|exact A6|exact((A1 (by decide)).trans A6)|exact((A1 (by decide)).trans ((A1 (by decide)).trans A6))|exact((A1 (by decide)).trans rfl)|exact((A1 (by decide)).trans ((A1 (by decide)).trans rfl)))
 ·obtain⟨t,ht,hw1⟩:=G3 hw
  have ht:g 7=t.1:=ht
  obtain⟨q1,q2⟩:=Wd.knOut (i:=0) hle5 hw1 rfl
  refine Y8 (vs:=#[t.1,.agg #[.slice sa sn sc,.slice ga gn gc]]) (EvL.eqA (xs:=[.tmp 7,.tmp 8]) (vs:=[t.1,.agg #[.slice sa sn sc,.slice ga gn gc]]) (EvL.cons (by exact ht) (EvL.cons (by rfl) EvL.nil))) ((GX q1 (La q2 (by omega)) (hq.mono hle5) hok hw1.drop).mono fun e w hq=>?_)
  obtain⟨Γ1,v,L,hle6,rfl,hRW,hro,hw2⟩:=hq;rw[q2]at hro ⊢
  refine⟨_,rfl,Γ1,hle6,(fun h=>(by cases h)),?_⟩
  have hw3:=Wd.knIn (Γ0:=Γ) (p:=fun Γ=>RW Γ v L∧rowsOf L=G1 (ss.map B3) q) (hp:=fun Γ Γ' h q=>⟨q.1.mono h,q.2⟩) (hle5.trans hle6) ⟨hRW,hro⟩ hw2
  refine L8 (T:=Value×List K4) (φ:=fun t g=>g 9=.tuple #[t.1,.int .i64 (E1 (ss.map B3) q)]) (R:=fun t=>A7.kn Γ (fun Γ=>RW Γ t.1 t.2∧rowsOf t.2=G1 (ss.map B3) q) (fun Γ Γ' h q=>⟨q.1.mono h,q.2⟩)::(D4 b bm vs m ws++S)) (v,L) rfl ?_
  have hw4:Wd Γ1 (([]:List A7)++((A7.kn Γ (fun Γ=>RW Γ v L∧rowsOf L=G1 (ss.map B3) q) (fun Γ Γ' h q=>⟨q.1.mono h,q.2⟩)::(D4 b bm vs m ws++S))++(([.blk b3 (.cells #[.slice sa sn sc,.slice ga gn gc] 26)])++Y))) w:=hw3
  exact Wd.swapApp (L8 (T:=Value×List K4) (φ:=fun t g=>g 9=.tuple #[t.1,.int .i64 (E1 (ss.map B3) q)]) (R:=fun _=>[]) (v,L) rfl hw4)
 refine gS (c:=0) (v:=undef) (F:=(L3 (T:=Value×List K4) (fun t g=>g 9=.tuple #[t.1,.int .i64 (E1 (ss.map B3) q)]) (fun t=>A7.kn Γ (fun Γ=>RW Γ t.1 t.2∧rowsOf t.2=G1 (ss.map B3) q) (fun Γ Γ' h q=>⟨q.1.mono h,q.2⟩)::(D4 b bm vs m ws++S)))) (L3 (T:=Value×List K4) (fun t g=>g 10=t.1) (fun t=>A7.kn Γ (fun Γ=>RW Γ t.1 t.2∧rowsOf t.2=G1 (ss.map B3) q) (fun Γ Γ' h q=>⟨q.1.mono h,q.2⟩)::(D4 b bm vs m ws++S))) (fun Γ' g w Y hle5 hw=>?_) ?_ (by first|exact rfl|exact A6|exact((A1 (by decide)).trans A6)|exact((A1 (by decide)).trans ((A1 (by decide)).trans A6))|exact((A1 (by decide)).trans rfl)|exact((A1 (by decide)).trans ((A1 (by decide)).trans rfl))) rfl rfl rfl
 ·obtain⟨t,ht,hw1⟩:=G3 hw
  have ht:g 9=.tuple #[t.1,.int .i64 (E1 (ss.map B3) q)]:=ht
  refine Yields.step (Y3 (v:=t.1) ht rfl) ⟨Γ',.refl _,(fun h=>(by cases h)),?_⟩
  exact L8 (T:=Value×List K4) (φ:=fun t g=>g 10=t.1) (R:=fun t=>A7.kn Γ (fun Γ=>RW Γ t.1 t.2∧rowsOf t.2=G1 (ss.map B3) q) (fun Γ Γ' h q=>⟨q.1.mono h,q.2⟩)::(D4 b bm vs m ws++S)) t rfl hw1
 refine gC (v:=.int .i64 (E1 (ss.map B3) q)) (fun Γ' Y w g hle5 hw=>?_) rfl rfl rfl ?_
 ·have hw1:Wd Γ' (([.blk b3 (.cells #[.slice sa sn sc,.slice ga gn gc] 26)])++((((L3 (T:=Value×List K4) (fun t g=>g 9=.tuple #[t.1,.int .i64 (E1 (ss.map B3) q)]) (fun _=>[])) (D6 [9] g C6))++[])++Y)) w:=hw
  obtain⟨t,ht,-⟩:=G3 (hw1.perm OS)
  exact Yields.step (Y3 (v:=.int .i64 (E1 (ss.map B3) q)) ht rfl) ⟨rfl,hw⟩
 refine gS (c:=0) (v:=undef) (F:=(L3 (T:=Value×List K4) (fun t g=>g 10=t.1) (fun t=>A7.kn Γ (fun Γ=>RW Γ t.1 t.2∧rowsOf t.2=G1 (ss.map B3) q) (fun Γ Γ' h q=>⟨q.1.mono h,q.2⟩)::(D4 b bm vs m ws++S)))) (L3 (T:=Value×List K4) (fun t g=>g 4=t.1) (fun t=>A7.kn Γ (fun Γ=>RW Γ t.1 t.2∧rowsOf t.2=G1 (ss.map B3) q) (fun Γ Γ' h q=>⟨q.1.mono h,q.2⟩)::(D4 b bm vs m ws++S))) (fun Γ' g w Y hle5 hw=>?_) ?_ (by first|exact rfl|exact A6|exact((A1 (by decide)).trans A6)|exact((A1 (by decide)).trans ((A1 (by decide)).trans A6))|exact((A1 (by decide)).trans rfl)|exact((A1 (by decide)).trans ((A1 (by decide)).trans rfl))) rfl rfl rfl
 ·obtain⟨t,ht,hw1⟩:=G3 hw
  have ht:g 10=t.1:=ht
  refine Yields.step (p8 (v:=t.1) ht) ⟨Γ',.refl _,(fun h=>(by cases h)),?_⟩
  exact L8 (T:=Value×List K4) (φ:=fun t g=>g 4=t.1) (R:=fun t=>A7.kn Γ (fun Γ=>RW Γ t.1 t.2∧rowsOf t.2=G1 (ss.map B3) q) (fun Γ Γ' h q=>⟨q.1.mono h,q.2⟩)::(D4 b bm vs m ws++S)) t rfl hw1
 refine gY ?_
 refine UD fun Γp w g hleP hw=>?_
 have hw1:Wd Γp (([.blk b3 (.cells #[.slice sa sn sc,.slice ga gn gc] 26)])++((L3 (T:=Value×List K4) (fun t g=>g 4=t.1) (fun t=>A7.kn Γ (fun Γ=>RW Γ t.1 t.2∧rowsOf t.2=G1 (ss.map B3) q) (fun Γ Γ' h q=>⟨q.1.mono h,q.2⟩)::(D4 b bm vs m ws++S))) (D6 [4] g C6)++((L3 (T:=Value×List K4) (fun t g=>g 9=.tuple #[t.1,.int .i64 (E1 (ss.map B3) q)]) (fun _=>[])) (D6 [9] g C6)++[]))) w:=hw
 obtain⟨t,ht,hw2⟩:=G3 hw1.swapApp
 have ht:g 4=t.1:=ht
 obtain⟨hRW,hro⟩:=Wd.knOut (i:=0) hleP hw2 rfl
 obtain⟨-,-,hw3⟩:=G3 ((hw2.drop.perm NQ):Wd Γp ((L3 (T:=Value×List K4) (fun t g=>g 9=.tuple #[t.1,.int .i64 (E1 (ss.map B3) q)]) (fun _=>[])) (D6 [9] g C6)++((D4 b bm vs m ws++S)++([.blk b3 (.cells #[.slice sa sn sc,.slice ga gn gc] 26)]))) w)
 clear hw hw1 hw2;have hw:Wd Γp ((D4 b bm vs m ws++S)++([.blk b3 (.cells #[.slice sa sn sc,.slice ga gn gc] 26)])) w:=hw3
 clear hw3;refine Kz (l:=[(4,t.1),(5,.int .i64 (E1 (ss.map B3) q))]) ⟨ht,rfl,trivial⟩ fun ρ hρ=>?_
 rw[hρ.eq];clear hρ ht;repeat first|refine B6 ?_|refine B7 ?_;intro w hw
 exact⟨_,rfl,Γp,t.1,t.2,hleP,rfl,hRW,hro,hw.perm List.perm_append_comm |>.drop⟩
theorem Mf{Γ:B8}:PG Tryz.prog Γ 6 [] (.bool true):=⟨fun S w hw=>(Mm (d9 w) [] w (Cf w)).mono fun e w' ⟨he,S',h⟩=>⟨he,RA hw (O1 h)⟩⟩
theorem HB{Γ:B8}{S:List A7}{w:World}{va vs vg:Value}{xs:List Step}{gs:List H4}{q:E7}(core:Int)(ha:D3 Γ va 12 (xs.map enc))(hq:QR Γ vs vg gs q)(hqo:q.Goals.length≤3→q.Sel.length≤8→T4 9223372036854775807 q)(hw:Wd Γ S w) :
  Calls Tryz.prog 3 #[va,.int .i64 core,.agg #[vs,vg]] w fun e w'=>∃Γ',Γ.le Γ'∧e=.returned (.bool true)∧Wd Γ' S w':=by
 have pA:∀Γ,PG Tryz.prog Γ 6 [] (.bool true):=fun Γ=>Mf
 obtain⟨a,n,c,rfl,hn,hnc,hc⟩:=ha.shape;simp only[List.length_map]at hn
 obtain⟨ga,gn,gc,rfl,hgn,-,-⟩:=hq.goals.shape;obtain⟨sa,sn,sc,rfl,hsn,-,-⟩:=hq.sel.shape;simp only[List.length_map]at hgn hsn
 have hql:q.Goals.length=gn:=by rw[←hq.eq,List.length_map];exact hgn.symm
 refine A3 Tryz.func3 rfl rfl ?_
 repeat first|refine B6 ?_|refine B7 ?_;intro w hw
 refine E5 ?_;intro b5 w hw;repeat first|refine B6 ?_|refine B7 ?_;intro w hw
 refine C5 ?_;refine(LE Γ _ w hw).mono ?_
 clear hw;rintro e w ⟨b,bm,rfl,hw⟩
 refine⟨_,rfl,?_⟩;repeat first|refine B6 ?_|refine B7 ?_;intro w hw
 refine E5 ?_;intro r w hw;have hw:Wd Γ (D4 b bm (.slice none 0 0) [] []++(L1 r (.slice none 0 0) (.slice none 0 0) [] []++([]++(.blk b5 (.cells #[.slice sa sn sc,.slice ga gn gc] 26)::S)))) w:=by
  have h1:=Wd.addNil (a:=none) (E:=37) (sz:=4) (Wd.addNil (a:=none) (E:=39) (sz:=3) hw)
  exact h1.ps [1,1,2,5,5,5]
 repeat first|refine B6 ?_|refine B7 ?_;intro w hw
 refine A0 rfl (fun h=>?_) (fun h=>?_)
 ·clear h;have pA:=pA Γ
  repeat first|refine B6 ?_|refine B7 ?_;intro w hw
  exact⟨_,rfl,Γ,.refl _,G7 rfl (by simp),hw.ds [0,0,0,0,0,0,0]⟩
 have hsm:gn≤3∧sn≤8:=by
  simp at h
  omega
 clear h;have hok:=hqo (by omega) (by omega)
 clear hqo;repeat first|refine B6 ?_|refine B7 ?_;intro w hw
 refine C8 (fun μ ρ w=>∃(k:Nat) (m:List (ByteArray×Service)) (ws:List B4) (ss:List Service) (vs v1 v2:Value) (S1:List A7),μ+k=n∧Has ρ [(0,.slice a n c),(1,.int .i64 core),(5,.pointer (some ⟨b5,0,none⟩)),(7,.pointer (some ⟨b,0,none⟩)),(8,.pointer (some ⟨r,0,none⟩)),(9,.int .i64 k)]∧Inv m ws∧Dv m∧H9 m ss∧Wd Γ (D4 b bm vs m ws++(L1 r v1 v2 ss ws++(S1++(.blk b5 (.cells #[.slice sa sn sc,.slice ga gn gc] 26)::S)))) w) n ⟨0,[],[],[],_,_,_,[],by omega,⟨rfl,rfl,rfl,rfl,rfl,rfl,trivial⟩,RB,QI,⟨List.Perm.refl _,List.Pairwise.nil⟩,hw⟩ ?_
 clear hw;rintro μ ρ w ⟨k,m,ws,ss,vs,v1,v2,S1,hk,hρ,hI,hV,h2,hw⟩
 rw[hρ.eq];clear hρ;repeat first|refine B6 ?_|refine B7 ?_;intro w hw
 refine A0 rfl (fun h=>?_) (fun h=>?_)
 ·have hkn:k<n:=by simp only[Bool.and_eq_true,decide_eq_true_eq]at h;omega
  clear h;obtain⟨x,hx⟩:=C0 (l:=xs) (k:=k) (by omega)
  repeat first|refine B6 ?_|refine B7 ?_;intro w hw
  refine C5 ?_;refine(TP Γ _ w b bm vs m ws r v1 v2 ss x hI hV h2 hw).mono ?_
  clear hw;rintro e w ⟨rfl,vs',v1',v2',m',ws',ss',S2,hI',hV',h2',hw⟩
  refine⟨_,rfl,?_⟩;rw[←List.append_assoc S2]at hw;generalize S2++S1=S3 at hw
  repeat first|refine B6 ?_|refine B7 ?_;intro w hw
  refine A0 rfl (fun h=>by simp at h) (fun _=>?_)
  repeat first|refine B6 ?_|refine B7 ?_;intro w hw
  exact⟨μ-1,by omega,k+1,m',ws',ss',vs',v1',v2',S3,by omega,⟨rfl,rfl,rfl,rfl,rfl,rfl,trivial⟩,hI',hV',h2',hw⟩
 clear h hk;obtain⟨hsl,hgd⟩:=PX hI h2
 replace hw:=hw.nfS (B:=.blk b5 (.cells #[.slice sa sn sc,.slice ga gn gc] 26)) (S:=S)
 obtain⟨c',hc',hcc⟩:∃c':Nat,(c':Int)=core%4∧c'<4:=⟨(core%4).toNat,by have:=Int.emod_nonneg core (show (4:Int)≠0 by omega);omega,by have:=Int.emod_lt_of_pos core (show (0:Int)<4 by omega);omega⟩
 haveI pp:PC Tryz.prog 8 [.int .i64 core,.int .i64 4] (.int .i64 (c':Int)):=by rw[hc'];infer_instance
 repeat first|refine B6 ?_|refine B7 ?_;intro w hw
 refine lY (v:=.string (E9 Sr c' (c'+1))) ?_ (hy:=Ul hcc rfl rfl rfl rfl (by omega))
 refine lY (v:=.string (nfS c')) ?_ (hy:=Jj rfl rfl (by have:=Lb (c:=c') (by omega);have:Tc.size=43:=rfl;omega))
 refine C5 (vs:=[.string (nfS c')]) ?_
 refine(KL (nfS c') (by have:=Im (c:=c') (by omega);omega) hw).mono ?_
 clear hw;rintro e w ⟨Γ1,qs,qg,ghs,hle1,rfl,hqr,hw⟩
 rw[OQ hcc]at hqr ⊢
 obtain⟨a1,n1,c1,rfl,-,-⟩:=hqr.sel.shape;obtain⟨a2,n2,c2,rfl,-,-⟩:=hqr.goals.shape;refine⟨_,rfl,?_⟩;repeat first|refine B6 ?_|refine B7 ?_;intro w hw
 refine B2 ?_;intro b11 w hw;refine B2 ?_;intro b12 w hw;refine B0 ?_;intro w hw;refine B0 ?_;intro w hw;have hw:Wd Γ1 (.blk b12 (.cells (enc (⟨0,0⟩:F1)).toArray 44)::.blk b11 (.cells #[.slice a1 n1 c1,.slice a2 n2 c2] 26)::(D4 b bm vs m ws++(.blk b5 (.cells #[.slice sa sn sc,.slice ga gn gc] 26)::S))) w:=hw
 repeat first|refine B6 ?_|refine B7 ?_;intro w hw
 refine C5 (vs:=[.pointer (some ⟨b,0,none⟩),.agg #[.slice a1 n1 c1,.slice a2 n2 c2]]) ?_
 have hI64:Bq (c':Int):=by unfold Bq;omega
 refine(IG hI h2 hqr (OH hI64) (hw.ps [4,4,4])).mono ?_
 clear hw;rintro e w ⟨Γ2,v1,R1,hle2,rfl,hRW1,hro1,hw⟩
 obtain⟨sE,sL⟩:=Om (ss:=ss) (fun s hs=>(hgd s hs).1) (O0 hI h2) hsl (c:=(c':Int))
 rw[sE];rw[sL]at hro1;refine⟨_,rfl,?_⟩;have hrep1:=hRW1.rep
 obtain⟨ra,rn,rc,rfl,hrn,-,-⟩:=hrep1.shape;simp only[List.length_map]at hrn
 have hR1len:(Fa ss (c':Int)).length=rn:=by rw[←hro1,hrn];exact List.length_map ..
 have hrn64:rn≤64:=by
  rw[←hR1len];unfold Fa;rw[List.length_map];exact Nat.le_trans (List.length_filter_le _ _) hsl
 repeat first|refine B6 ?_|refine B7 ?_;intro w hw
 refine A0 rfl (fun h=>by simp at h) (fun h=>?_)
 clear h;repeat first|refine B6 ?_|refine B7 ?_;intro w hw
 refine C5 ?_;refine(X6 Γ2 _ w b bm vs m ws hI.ml hw).mono ?_
 clear hw;rintro e w ⟨vb,ys,rfl,hys,hw⟩
 obtain rfl:=DN hI hys h2
 refine⟨_,rfl,?_⟩;obtain⟨la,ln,lc,rfl,hln,-,-⟩:=hw.own_shape (i:=0) rfl
 simp only[List.length_map]at hln
 obtain⟨Γ3,hle3,hsv,hw⟩:=hw.freeze;have hrep1:=hrep1.mono hle3
 have hRW1:=hRW1.mono hle3
 repeat first|refine B6 ?_|refine B7 ?_;intro w hw
 refine C8 (fun μ ρ w=>∃(i:Nat),μ+i=ln∧Has ρ [(5,.pointer (some ⟨b5,0,none⟩)),(7,.pointer (some ⟨b,0,none⟩)),(10,.int .i64 c'),(14,.slice ra rn rc),(16,.slice la ln lc),(17,.int .i64 ((Fa (ys.take i) (c':Int)).length:Nat)),(18,.int .i64 i)]∧Wd Γ3 (D4 b bm vs m ws++(.blk b12 (.cells (enc (⟨0,0⟩:F1)).toArray 44)::.blk b11 (.cells #[.slice a1 n1 c1,.slice a2 n2 c2] 26)::.blk b5 (.cells #[.slice sa sn sc,.slice ga gn gc] 26)::S)) w) ln ⟨0,by omega,⟨rfl,rfl,rfl,rfl,rfl,rfl,rfl,trivial⟩,hw⟩ ?_
 clear hw;rintro μ ρ w ⟨i,hi,hρ,hw⟩
 rw[hρ.eq];clear hρ;repeat first|refine B6 ?_|refine B7 ?_;intro w hw
 refine A0 rfl (fun h=>?_) (fun h=>?_)
 ·have hiln:i<ln:=by have:=of_decide_eq_true h;omega
  clear h;obtain⟨s,hs⟩:=C0 (l:=ys) (k:=i) (by omega)
  obtain⟨kk,hkk⟩:∃kk,kk=(Fa (ys.take i) (c':Int)).length:=⟨_,rfl⟩
  rw[←hkk];repeat first|refine B6 ?_|refine B7 ?_;intro w hw
  refine A0 rfl (fun h=>?_) (fun h=>?_)
  ·have hne:¬s.Core=(c':Int):=of_decide_eq_true h
   clear h;repeat first|refine B6 ?_|refine B7 ?_;intro w hw
   exact⟨μ-1,by omega,i+1,by omega,⟨rfl,rfl,rfl,rfl,rfl,congrArg (fun n:Nat=>Value.int .i64 n) (by rw[Su hs hne,hkk]),rfl,trivial⟩,hw⟩
  have heq:s.Core=(c':Int):=by have:=of_decide_eq_false h;exact Classical.not_not.1 this
  clear h;obtain⟨hat,hnx⟩:=Sz hs heq
  rw[←hkk]at hat hnx
  have hkn:kk<rn:=by rw[←hR1len];exact(List.getElem?_eq_some_iff.1 hat).1
  obtain⟨⟨pv,pr⟩,hp⟩:=C0 (l:=R1) (k:=kk) (by omega)
  have hpr:pr=[wV s.Name,iV s.Kind]:=by
   rw[←hro1]at hat;unfold rowsOf at hat;rw[List.getElem?_map,hp]at hat;exact Option.some.inj hat
  subst hpr;have hpo:D3 Γ3 pv 3 ([wV s.Name,iV s.Kind].map enc):=hRW1.ok _ (List.mem_of_getElem? hp)
  obtain⟨pa,pn,pc,rfl,hpn,hpnc,hpc⟩:=hpo.shape;have hpn:pn=2:=hpn
  subst hpn;repeat first|refine B6 ?_|refine B7 ?_;intro w hw
  refine L4 (by kernel_rfl) (by kernel_rfl) hw ?_
  repeat(first|(first|refine Al ?_|(apply O5;first|(apply U3;first|refine qP ?_|refine OD ?_)|refine qY ?_)|(apply J0;first|(apply U3;first|refine NG ?_|refine FX ?_)|refine qG ?_))|refine qG ?_ (hy:=by intro hc w hw;exact T3 (hrep1.rd hw) A9 A9 (by omega) (by omega))|refine qG ?_ (hy:=by intro hc w hw;exact H5 (k:=kk) (u:=.slice pa 2 pc) A9 (hrep1.rd hw) (B1 hp))|refine qG ?_ (hy:=by intro hc w hw;exact T3 (hpo.rd hw) A9 A9 (by omega) (by omega))|refine qG ?_ (hy:=by intro hc w hw;exact K7 (k:=0) (r:=enc (wV s.Name)) A9 (hpo.rd hw) rfl)|refine qG ?_ (hy:=by intro hc w hw;exact K7 (k:=1) (r:=enc (iV s.Kind)) A9 (hpo.rd hw) rfl)|refine qG ?_ (hy:=by intro hc w hw;exact T3 (hsv.rd hw) A9 A9 (by omega) (by omega))|refine qG ?_ (hy:=by intro hc w hw;exact K6 A9 (hsv.rd hw) (B1 hs) rfl)|refine qG ?_ (hy:=by intro hc w hw;exact Cp (a:=wV s.Name) (b:=wV s.Name) A9 A9 rfl)|refine qG ?_ (hy:=by intro hc w hw;exact Cp (a:=iV s.Kind) (b:=iV s.Kind) A9 A9 rfl))
  clear hw;intro w hw;refine A0 rfl (fun h=>?_) (fun h=>?_)
  ·exfalso
   simp at h
   omega
  clear h;repeat first|refine B6 ?_|refine B7 ?_;intro w hw
  exact⟨μ-1,by omega,i+1,by omega,⟨rfl,rfl,rfl,rfl,rfl,congrArg (Value.int .i64) (by rw[hnx];omega),rfl,trivial⟩,hw⟩
 have hiln:ln≤i:=by have:=of_decide_eq_false h;omega
 clear h;rw[List.take_of_length_le (show ys.length≤i by omega),hR1len]
 clear hiln hi;have hle03:=hle1.trans (hle2.trans hle3)
 have hq3:=hq.mono hle03
 repeat first|refine B6 ?_|refine B7 ?_;intro w hw
 refine C5 (vs:=[.pointer (some ⟨b,0,none⟩),.agg #[.slice sa sn sc,.slice ga gn gc]]) ?_
 refine(IG hI h2 hq3 hok hw).mono ?_
 clear hw;rintro e w ⟨Γ4,v2,R2,hle4,rfl,hRW2,hro2,hw⟩
 refine⟨_,rfl,?_⟩;have hrep2:=hRW2.rep
 obtain⟨xa,xn,xc,rfl,hxn,hxnc,hxc⟩:=hrep2.shape;simp only[List.length_map]at hxn
 repeat first|refine B6 ?_|refine B7 ?_;intro w hw
 have hq:=hq3.mono hle4
 have hwX:Wd Γ4 ([.blk b5 (.cells #[.slice sa sn sc,.slice ga gn gc] 26)]++((D4 b bm vs m ws++(.blk b12 (.cells (enc (⟨0,0⟩:F1)).toArray 44)::.blk b11 (.cells #[.slice a1 n1 c1,.slice a2 n2 c2] 26)::S))++[])) w:=by rw[List.append_nil];exact hw.ps [5]
 refine Hw [.blk b5 (.cells #[.slice sa sn sc,.slice ga gn gc] 26)] [fun _=>(D4 b bm vs m ws++(.blk b12 (.cells (enc (⟨0,0⟩:F1)).toArray 44)::.blk b11 (.cells #[.slice a1 n1 c1,.slice a2 n2 c2] 26)::S)),fun _=>[]] [[],[0],[],[0],[0,1],[0],[],[0],[]] [[],[0],[],[0],[0,1],[0],[1],[0],[]] [[155,157,153,158,21],[153]] hwX ?_
 clear hwX hw;refine gY ?_
 refine gS (c:=0) (v:=undef) (F:=fun _=>(D4 b bm vs m ws++(.blk b12 (.cells (enc (⟨0,0⟩:F1)).toArray 44)::.blk b11 (.cells #[.slice a1 n1 c1,.slice a2 n2 c2] 26)::S))) (L3 (T:=Value×List C1) (fun t g=>g 155=t.1) (fun t=>A7.kn Γ4 (fun Γ=>RL Γ t.1 t.2∧facts t.2=(ys).map B3) (fun Γ Γ' h q=>⟨q.1.mono h,q.2⟩)::(D4 b bm vs m ws++(.blk b12 (.cells (enc (⟨0,0⟩:F1)).toArray 44)::.blk b11 (.cells #[.slice a1 n1 c1,.slice a2 n2 c2] 26)::S)))) (fun Γ' g w Y hle5 hw=>?_) ?_ rfl rfl rfl rfl
 ·rw[List.append_assoc]at hw;refine Y8 (vs:=#[.pointer (some ⟨b,0,none⟩)]) (EvL.eqA (xs:=[.tmp 154]) (vs:=[.pointer (some ⟨b,0,none⟩)]) (EvL.cons (by rfl) EvL.nil)) ((EQ Γ' _ w b bm vs m ws ys hI h2 hw).mono fun e w hq=>?_)
  obtain⟨v,Γ1,fs,rfl,hle6,hfk,hfe,hw1⟩:=hq;obtain⟨Γ2,hle7,hrep,hw2⟩:=hw1.freeze;refine⟨_,rfl,Γ2,hle6.trans hle7,(fun h=>(by cases h)),?_⟩
  have hFO:=Ni hfe hgd
  have hRL:RL Γ2 v fs:=⟨hrep,fun f hf=>⟨(hfk f hf).mono hle7,hFO f hf⟩⟩
  rw[←List.append_assoc]at hw2;exact L8 (T:=Value×List C1) (φ:=fun t g=>g 155=t.1) (R:=fun t=>A7.kn Γ4 (fun Γ=>RL Γ t.1 t.2∧facts t.2=(ys).map B3) (fun Γ Γ' h q=>⟨q.1.mono h,q.2⟩)::(D4 b bm vs m ws++(.blk b12 (.cells (enc (⟨0,0⟩:F1)).toArray 44)::.blk b11 (.cells #[.slice a1 n1 c1,.slice a2 n2 c2] 26)::S))) (v,fs) rfl (Wd.knIn ((hle5.trans hle6).trans hle7) ⟨hRL,hfe⟩ hw2)
 refine gY (v:=.agg #[.slice sa sn sc,.slice ga gn gc]) ?_
 refine gS (c:=0) (v:=undef) (F:=(L3 (T:=Value×List C1) (fun t g=>g 155=t.1) (fun t=>A7.kn Γ4 (fun Γ=>RL Γ t.1 t.2∧facts t.2=(ys).map B3) (fun Γ Γ' h q=>⟨q.1.mono h,q.2⟩)::(D4 b bm vs m ws++(.blk b12 (.cells (enc (⟨0,0⟩:F1)).toArray 44)::.blk b11 (.cells #[.slice a1 n1 c1,.slice a2 n2 c2] 26)::S))))) (L3 (T:=Value×List K4) (fun t g=>g 157=.tuple #[t.1,.int .i64 (E1 (ys.map B3) q)]) (fun t=>A7.kn Γ4 (fun Γ=>RW Γ t.1 t.2∧rowsOf t.2=G1 (ys.map B3) q) (fun Γ Γ' h q=>⟨q.1.mono h,q.2⟩)::(D4 b bm vs m ws++(.blk b12 (.cells (enc (⟨0,0⟩:F1)).toArray 44)::.blk b11 (.cells #[.slice a1 n1 c1,.slice a2 n2 c2] 26)::S)))) (fun Γ' g w Y hle5 hw=>?_) ?_ (by first|exact rfl|exact A6|exact((A1 (by decide)).trans A6)|exact((A1 (by decide)).trans ((A1 (by decide)).trans A6))|exact((A1 (by decide)).trans rfl)|exact((A1 (by decide)).trans ((A1 (by decide)).trans rfl))) rfl rfl rfl
 ·obtain⟨t,ht,hw1⟩:=G3 hw
  have ht:g 155=t.1:=ht
  obtain⟨q1,q2⟩:=Wd.knOut (i:=0) hle5 hw1 rfl
  refine Y8 (vs:=#[t.1,.agg #[.slice sa sn sc,.slice ga gn gc]]) (EvL.eqA (xs:=[.tmp 155,.tmp 156]) (vs:=[t.1,.agg #[.slice sa sn sc,.slice ga gn gc]]) (EvL.cons (by exact ht) (EvL.cons (by rfl) EvL.nil))) ((GX q1 (La q2 (by omega)) (hq.mono hle5) hok hw1.drop).mono fun e w hq=>?_)
  obtain⟨Γ1,v,L,hle6,rfl,hRW,hro,hw2⟩:=hq;rw[q2]at hro ⊢
  refine⟨_,rfl,Γ1,hle6,(fun h=>(by cases h)),?_⟩
  have hw3:=Wd.knIn (Γ0:=Γ4) (p:=fun Γ=>RW Γ v L∧rowsOf L=G1 (ys.map B3) q) (hp:=fun Γ Γ' h q=>⟨q.1.mono h,q.2⟩) (hle5.trans hle6) ⟨hRW,hro⟩ hw2
  exact L8 (T:=Value×List K4) (φ:=fun t g=>g 157=.tuple #[t.1,.int .i64 (E1 (ys.map B3) q)]) (R:=fun t=>A7.kn Γ4 (fun Γ=>RW Γ t.1 t.2∧rowsOf t.2=G1 (ys.map B3) q) (fun Γ Γ' h q=>⟨q.1.mono h,q.2⟩)::(D4 b bm vs m ws++(.blk b12 (.cells (enc (⟨0,0⟩:F1)).toArray 44)::.blk b11 (.cells #[.slice a1 n1 c1,.slice a2 n2 c2] 26)::S))) (v,L) rfl hw3
 refine gS2 (c:=0) (c2:=1) (v:=undef) (F:=(L3 (T:=Value×List K4) (fun t g=>g 157=.tuple #[t.1,.int .i64 (E1 (ys.map B3) q)]) (fun t=>A7.kn Γ4 (fun Γ=>RW Γ t.1 t.2∧rowsOf t.2=G1 (ys.map B3) q) (fun Γ Γ' h q=>⟨q.1.mono h,q.2⟩)::(D4 b bm vs m ws++(.blk b12 (.cells (enc (⟨0,0⟩:F1)).toArray 44)::.blk b11 (.cells #[.slice a1 n1 c1,.slice a2 n2 c2] 26)::S))))) (G:=fun _=>[]) (L3 (T:=Value×List K4) (fun t g=>g 153=.tuple #[t.1,.int .i64 (E1 (ys.map B3) q)]) (fun t=>A7.kn Γ4 (fun Γ=>RW Γ t.1 t.2∧rowsOf t.2=G1 (ys.map B3) q) (fun Γ Γ' h q=>⟨q.1.mono h,q.2⟩)::(D4 b bm vs m ws++(.blk b12 (.cells (enc (⟨0,0⟩:F1)).toArray 44)::.blk b11 (.cells #[.slice a1 n1 c1,.slice a2 n2 c2] 26)::S)))) (L3 (T:=Value×List K4) (fun t g=>g 153=.tuple #[t.1,.int .i64 (E1 (ys.map B3) q)]) (fun _=>[])) (fun Γ' g w Y hle5 hw=>?_) ?_ (by first|exact rfl|exact A6|exact((A1 (by decide)).trans A6)|exact((A1 (by decide)).trans ((A1 (by decide)).trans A6))|exact((A1 (by decide)).trans rfl)|exact((A1 (by decide)).trans ((A1 (by decide)).trans rfl))) (by first|exact rfl|exact A6|exact((A1 (by decide)).trans A6)|exact((A1 (by decide)).trans ((A1 (by decide)).trans A6))|exact((A1 (by decide)).trans rfl)|exact((A1 (by decide)).trans ((A1 (by decide)).trans rfl)))
 ·obtain⟨t,ht,hw1⟩:=G3 hw
  have ht:g 157=.tuple #[t.1,.int .i64 (E1 (ys.map B3) q)]:=ht
  refine Yields.step (DK (v:=.tuple #[t.1,.int .i64 (E1 (ys.map B3) q)]) ht) ⟨Γ',.refl _,(fun h=>(by cases h)),?_⟩
  refine L8 (T:=Value×List K4) (φ:=fun t g=>g 153=.tuple #[t.1,.int .i64 (E1 (ys.map B3) q)]) (R:=fun t=>A7.kn Γ4 (fun Γ=>RW Γ t.1 t.2∧rowsOf t.2=G1 (ys.map B3) q) (fun Γ Γ' h q=>⟨q.1.mono h,q.2⟩)::(D4 b bm vs m ws++(.blk b12 (.cells (enc (⟨0,0⟩:F1)).toArray 44)::.blk b11 (.cells #[.slice a1 n1 c1,.slice a2 n2 c2] 26)::S))) t rfl ?_
  exact Wd.swapApp (L8 (T:=Value×List K4) (φ:=fun t g=>g 153=.tuple #[t.1,.int .i64 (E1 (ys.map B3) q)]) (R:=fun _=>[]) t rfl hw1)
 refine gS (c:=0) (v:=undef) (F:=(L3 (T:=Value×List K4) (fun t g=>g 153=.tuple #[t.1,.int .i64 (E1 (ys.map B3) q)]) (fun t=>A7.kn Γ4 (fun Γ=>RW Γ t.1 t.2∧rowsOf t.2=G1 (ys.map B3) q) (fun Γ Γ' h q=>⟨q.1.mono h,q.2⟩)::(D4 b bm vs m ws++(.blk b12 (.cells (enc (⟨0,0⟩:F1)).toArray 44)::.blk b11 (.cells #[.slice a1 n1 c1,.slice a2 n2 c2] 26)::S))))) (L3 (T:=Value×List K4) (fun t g=>g 158=t.1) (fun t=>A7.kn Γ4 (fun Γ=>RW Γ t.1 t.2∧rowsOf t.2=G1 (ys.map B3) q) (fun Γ Γ' h q=>⟨q.1.mono h,q.2⟩)::(D4 b bm vs m ws++(.blk b12 (.cells (enc (⟨0,0⟩:F1)).toArray 44)::.blk b11 (.cells #[.slice a1 n1 c1,.slice a2 n2 c2] 26)::S)))) (fun Γ' g w Y hle5 hw=>?_) ?_ (by first|exact rfl|exact A6|exact((A1 (by decide)).trans A6)|exact((A1 (by decide)).trans ((A1 (by decide)).trans A6))|exact((A1 (by decide)).trans rfl)|exact((A1 (by decide)).trans ((A1 (by decide)).trans rfl))) rfl rfl rfl
 ·obtain⟨t,ht,hw1⟩:=G3 hw
  have ht:g 153=.tuple #[t.1,.int .i64 (E1 (ys.map B3) q)]:=ht
  refine Yields.step (Y3 (v:=t.1) ht rfl) ⟨Γ',.refl _,(fun h=>(by cases h)),?_⟩
  exact L8 (T:=Value×List K4) (φ:=fun t g=>g 158=t.1) (R:=fun t=>A7.kn Γ4 (fun Γ=>RW Γ t.1 t.2∧rowsOf t.2=G1 (ys.map B3) q) (fun Γ Γ' h q=>⟨q.1.mono h,q.2⟩)::(D4 b bm vs m ws++(.blk b12 (.cells (enc (⟨0,0⟩:F1)).toArray 44)::.blk b11 (.cells #[.slice a1 n1 c1,.slice a2 n2 c2] 26)::S))) t rfl hw1
 refine gC (v:=.int .i64 (E1 (ys.map B3) q)) (fun Γ' Y w g hle5 hw=>?_) rfl rfl rfl ?_
 ·have hw1:Wd Γ' (([.blk b5 (.cells #[.slice sa sn sc,.slice ga gn gc] 26)])++((((L3 (T:=Value×List K4) (fun t g=>g 153=.tuple #[t.1,.int .i64 (E1 (ys.map B3) q)]) (fun _=>[])) (D6 [153] g C6))++[])++Y)) w:=hw
  obtain⟨t,ht,-⟩:=G3 (hw1.perm OS)
  exact Yields.step (Y3 (v:=.int .i64 (E1 (ys.map B3) q)) ht rfl) ⟨rfl,hw⟩
 refine gS (c:=0) (v:=undef) (F:=(L3 (T:=Value×List K4) (fun t g=>g 158=t.1) (fun t=>A7.kn Γ4 (fun Γ=>RW Γ t.1 t.2∧rowsOf t.2=G1 (ys.map B3) q) (fun Γ Γ' h q=>⟨q.1.mono h,q.2⟩)::(D4 b bm vs m ws++(.blk b12 (.cells (enc (⟨0,0⟩:F1)).toArray 44)::.blk b11 (.cells #[.slice a1 n1 c1,.slice a2 n2 c2] 26)::S))))) (L3 (T:=Value×List K4) (fun t g=>g 21=t.1) (fun t=>A7.kn Γ4 (fun Γ=>RW Γ t.1 t.2∧rowsOf t.2=G1 (ys.map B3) q) (fun Γ Γ' h q=>⟨q.1.mono h,q.2⟩)::(D4 b bm vs m ws++(.blk b12 (.cells (enc (⟨0,0⟩:F1)).toArray 44)::.blk b11 (.cells #[.slice a1 n1 c1,.slice a2 n2 c2] 26)::S)))) (fun Γ' g w Y hle5 hw=>?_) ?_ (by first|exact rfl|exact A6|exact((A1 (by decide)).trans A6)|exact((A1 (by decide)).trans ((A1 (by decide)).trans A6))|exact((A1 (by decide)).trans rfl)|exact((A1 (by decide)).trans ((A1 (by decide)).trans rfl))) rfl rfl rfl
 ·obtain⟨t,ht,hw1⟩:=G3 hw
  have ht:g 158=t.1:=ht
  refine Yields.step (p8 (v:=t.1) ht) ⟨Γ',.refl _,(fun h=>(by cases h)),?_⟩
  exact L8 (T:=Value×List K4) (φ:=fun t g=>g 21=t.1) (R:=fun t=>A7.kn Γ4 (fun Γ=>RW Γ t.1 t.2∧rowsOf t.2=G1 (ys.map B3) q) (fun Γ Γ' h q=>⟨q.1.mono h,q.2⟩)::(D4 b bm vs m ws++(.blk b12 (.cells (enc (⟨0,0⟩:F1)).toArray 44)::.blk b11 (.cells #[.slice a1 n1 c1,.slice a2 n2 c2] 26)::S))) t rfl hw1
 refine gY ?_
 refine UD fun Γp w g hleP hw=>?_
 have hw1:Wd Γp (([.blk b5 (.cells #[.slice sa sn sc,.slice ga gn gc] 26)])++((L3 (T:=Value×List K4) (fun t g=>g 21=t.1) (fun t=>A7.kn Γ4 (fun Γ=>RW Γ t.1 t.2∧rowsOf t.2=G1 (ys.map B3) q) (fun Γ Γ' h q=>⟨q.1.mono h,q.2⟩)::(D4 b bm vs m ws++(.blk b12 (.cells (enc (⟨0,0⟩:F1)).toArray 44)::.blk b11 (.cells #[.slice a1 n1 c1,.slice a2 n2 c2] 26)::S)))) (D6 [21] g C6)++((L3 (T:=Value×List K4) (fun t g=>g 153=.tuple #[t.1,.int .i64 (E1 (ys.map B3) q)]) (fun _=>[])) (D6 [153] g C6)++[]))) w:=hw
 obtain⟨t,ht,hw2⟩:=G3 hw1.swapApp
 have ht:g 21=t.1:=ht
 obtain⟨hRW,hro⟩:=Wd.knOut (i:=0) hleP hw2 rfl
 obtain⟨-,-,hw3⟩:=G3 ((hw2.drop.perm NQ):Wd Γp ((L3 (T:=Value×List K4) (fun t g=>g 153=.tuple #[t.1,.int .i64 (E1 (ys.map B3) q)]) (fun _=>[])) (D6 [153] g C6)++((D4 b bm vs m ws++(.blk b12 (.cells (enc (⟨0,0⟩:F1)).toArray 44)::.blk b11 (.cells #[.slice a1 n1 c1,.slice a2 n2 c2] 26)::S))++([.blk b5 (.cells #[.slice sa sn sc,.slice ga gn gc] 26)]))) w)
 clear hw hw1 hw2;have hw:Wd Γp ((D4 b bm vs m ws++(.blk b12 (.cells (enc (⟨0,0⟩:F1)).toArray 44)::.blk b11 (.cells #[.slice a1 n1 c1,.slice a2 n2 c2] 26)::S))++([.blk b5 (.cells #[.slice sa sn sc,.slice ga gn gc] 26)])) w:=hw3
 clear hw3;obtain⟨⟨v3,R3⟩,hbt⟩:∃t',t'=t:=⟨t,rfl⟩
 subst hbt;have hrep3:D3 Γp v3 1 (R3.map cR):=hRW.rep
 obtain⟨ya,yn,yc,rfl,hyn,-,-⟩:=hrep3.shape;simp only[List.length_map]at hyn
 have hrep2p:=hrep2.mono hleP
 have hRW2p:=hRW2.mono hleP
 have hro:rowsOf R3=G1 (ys.map B3) q:=hro
 have h23:rowsOf R2=rowsOf R3:=hro2.trans hro.symm
 have hxy:xn=yn:=by
  have h4:=congrArg List.length h23
  unfold rowsOf at h4;rw[List.length_map,List.length_map]at h4;omega
 have hRW3:RW Γp (.slice ya yn yc) R3:=hRW
 refine Kz (l:=[(14,.slice ra rn rc),(17,.int .i64 (rn:Nat)),(19,.slice xa xn xc),(20,.int .i64 (E1 (ys.map B3) q)),(21,.slice ya yn yc),(22,.int .i64 (E1 (ys.map B3) q))]) ⟨rfl,rfl,rfl,rfl,ht,rfl,trivial⟩ fun ρ hρ=>?_
 rw[hρ.eq];clear hρ ht;generalize E1 (ys.map B3) q=er at *
 repeat first|refine B6 ?_|refine B7 ?_;intro w hw
 refine A0 rfl (fun h=>?_) (fun h=>?_)
 ·exfalso
  simp at h
  omega
 clear h;repeat first|refine B6 ?_|refine B7 ?_;intro w hw
 refine C8 (fun μ ρ w=>∃(i:Nat),μ+i=xn∧Has ρ [(14,.slice ra rn rc),(17,.int .i64 (rn:Nat)),(19,.slice xa xn xc),(21,.slice ya yn yc),(23,.int .i64 i)]∧Wd Γp ((D4 b bm vs m ws++(.blk b12 (.cells (enc (⟨0,0⟩:F1)).toArray 44)::.blk b11 (.cells #[.slice a1 n1 c1,.slice a2 n2 c2] 26)::S))++[.blk b5 (.cells #[.slice sa sn sc,.slice ga gn gc] 26)]) w) xn ⟨0,by omega,⟨rfl,rfl,rfl,rfl,rfl,trivial⟩,hw⟩ ?_
 clear hw;rintro μ ρ w ⟨i,hi,hρ,hw⟩
 rw[hρ.eq];clear hρ;repeat first|refine B6 ?_|refine B7 ?_;intro w hw
 refine A0 rfl (fun h=>?_) (fun h=>?_)
 ·have hin:i<xn:=by have:=of_decide_eq_true h;omega
  clear h;obtain⟨⟨pv,pr⟩,hp⟩:=C0 (l:=R2) (k:=i) (by omega)
  obtain⟨⟨qv,qr⟩,hqq⟩:=C0 (l:=R3) (k:=i) (by omega)
  have hpq:pr=qr:=by
   have h5:(rowsOf R2)[i]? = (rowsOf R3)[i]?:=by rw[h23]
   unfold rowsOf at h5;rw[List.getElem?_map,List.getElem?_map,hp,hqq]at h5;exact Option.some.inj h5
  subst hpq;have hpo:D3 Γp pv 3 (pr.map enc):=hRW2p.ok _ (List.mem_of_getElem? hp)
  have hqo:D3 Γp qv 3 (pr.map enc):=hRW3.ok _ (List.mem_of_getElem? hqq)
  have hcmp:=QN hpo hqo rfl
  rw[Ks.refl]at hcmp;obtain⟨pa,pn,pc,rfl,hpn,-,-⟩:=hpo.shape;obtain⟨qa,qn,qc,rfl,hqn,-,-⟩:=hqo.shape;have hpqn:pn=qn:=hpn.trans hqn.symm
  repeat first|refine B6 ?_|refine B7 ?_;intro w hw
  refine L4 (by kernel_rfl) (by kernel_rfl) hw ?_
  repeat(first|(first|refine Al ?_|(apply O5;first|(apply U3;first|refine qP ?_|refine OD ?_)|refine qY ?_)|(apply J0;first|(apply U3;first|refine NG ?_|refine FX ?_)|refine qG ?_))|refine qY ?_ (hy:=by intro w hw;exact T3 (hrep2p.rd hw) rfl rfl (by omega) (by omega))|refine qY ?_ (hy:=by intro w hw;exact T3 (hrep3.rd hw) rfl rfl (by omega) (by omega))|refine qY ?_ (hy:=by intro w hw;exact H5 (k:=i) (u:=.slice pa pn pc) rfl (hrep2p.rd hw) (B1 hp))|refine qY ?_ (hy:=by intro w hw;exact H5 (k:=i) (u:=.slice qa qn qc) rfl (hrep3.rd hw) (B1 hqq))|refine qG ?_ (hy:=by intro hc w hw;exact T3 (hrep2p.rd hw) A9 A9 (by omega) (by omega))|refine qG ?_ (hy:=by intro hc w hw;exact T3 (hrep3.rd hw) A9 A9 (by omega) (by omega))|refine qG ?_ (hy:=by intro hc w hw;exact H5 (k:=i) (u:=.slice pa pn pc) A9 (hrep2p.rd hw) (B1 hp))|refine qG ?_ (hy:=by intro hc w hw;exact H5 (k:=i) (u:=.slice qa qn qc) A9 (hrep3.rd hw) (B1 hqq)))
  clear hw;intro w hw;refine A0 rfl (fun h=>?_) (fun h=>?_)
  ·exfalso
   simp at h
   omega
  clear h;repeat first|refine B6 ?_|refine B7 ?_;intro w hw
  exact⟨μ-1,by omega,i+1,by omega,⟨rfl,rfl,rfl,rfl,rfl,trivial⟩,hw⟩
 have hin:xn≤i:=by have:=of_decide_eq_false h;omega
 clear h;have pA:=pA Γp
 repeat first|refine B6 ?_|refine B7 ?_;intro w hw
 refine⟨_,rfl,Γp,hle03.trans (hle4.trans hleP),G7 rfl (by simp),?_⟩
 have hw:=hw.ds [0,0,0,0,0]
 exact(hw.perm List.perm_append_comm).drop
end Go.Proofs.YtlimglpjpcfpdaaGreat
end
section
open Go Mk
open Go.ChangeShapes Go.WideShapes Go.ChangeAt Go.RowKit
namespace Go.Proofs.YtlimglpjpcfpdaaGreat
section
variable {H:Type}{en:TypeId×Value→H}{W W':World}{base:Nat}{sp:Nat→Bool}{held:Bool}{S:List A7}
theorem Br{α:Type}[Inhabited α]{F:α→List Value}{p:α→Prop}{t e sz:Nat}(hc:Tryz.prog.cellsOf e=sz)(h0:0<sz)(hF:∀x,(F x).length=sz)(ht:Tryz.prog.underlying t=some (.slice e))
  (hel:∀ {n:Nat} {cs:List Value} {y:DataW H×List MemPlace},DataW.trod en Tryz.prog W base sp held n e cs=some y→∃x:α,cs=F x∧p x)
  {n:Nat} {v:Value} {y:DataW H×List MemPlace} (h:DataW.trod en Tryz.prog W base sp held n t [v]=some y):∃xs:List α,D3 (d9 W) v sz (xs.map F)∧∀x∈xs,p x:=by
 rcases Deep.open_slice ht h with⟨h0,-⟩|⟨a,len,cap,m,k,D,Pl,h1,-,hlc,hcm,hm,-,hel2⟩
 ·cases h0
  exact⟨[],D3.nil,fun x hx=>by cases hx⟩
 ·cases h1
  have hlm:len≤m:=by rw[hm];split <;> omega
  have hx:∀i,i<len→∃x:α,p x∧∀j u,(F x)[j]? = some u→W.cell? (a.add (i*sz+j))=some u:=fun i hi=>by
   obtain⟨cs',h1,h2⟩:=hel2 i (by omega)
   rw[hc]at h1;obtain⟨-,hl,hat⟩:=World.cells?_some h1
   obtain⟨x,rfl,hp⟩:=hel h2
   refine⟨x,hp,fun j u hu=>?_⟩
   have hj:j<sz:=by rw[←hl];exact(List.getElem?_eq_some_iff.1 hu).1
   have:=hat j hj
   rw[hu,Go.Deep.add_add]at this;exact this
  obtain⟨f,hf⟩:∃f:Nat→α,∀i,i<len→p (f i)∧∀j u,(F (f i))[j]? = some u→W.cell? (a.add (i*sz+j))=some u:=by
   refine⟨fun i=>if hi:i<len then (hx i hi).choose else default,fun i hi=>?_⟩
   simp only[hi,dif_pos]
   exact(hx i hi).choose_spec
  refine⟨(List.range len).map f,?_,fun x hx=>?_⟩
  ·unfold D3;refine⟨fun r hr=>?_,some a,len,cap,rfl,by simp,hlc,hcm,fun hpos=>?_⟩
   ·obtain⟨x,-,rfl⟩:=List.mem_map.1 hr
    exact hF x
   ·have hpos:0<len:=by simpa using hpos
    obtain⟨u0,hu0⟩:∃u,(F (f 0))[0]? = some u:=⟨_,List.getElem?_eq_getElem (by rw[hF];exact h0)⟩
    have h00:=(hf 0 hpos).2 0 u0 hu0
    obtain⟨g,o,spt⟩:=a;have h01:W.cell? ⟨g,o,spt⟩=some u0:=by
     rw[Nat.zero_mul]at h00;simpa[Addr.add] using h00
    unfold World.cell? at h01
    cases hg:W.heap[g]? with
    | none=>rw[hg]at h01;simp at h01
    | some ob=>
     rw[hg]at h01;cases ob with
     | cells cur e fr=>
      cases spt with
      | some q=>simp at h01
      | none=>
       refine⟨g,o,cur,e,fr,rfl,hg,fun j u hj=>?_⟩
       obtain⟨i,r,row,h1,h2,h3⟩:=FS (sz:=sz) (rows:=((List.range len).map f).map F) (fun r hr=>by
        obtain⟨x,-,rfl⟩:=List.mem_map.1 hr
        exact hF x) hj
       rw[List.getElem?_map,List.getElem?_map]at h1;have hi:i<len:=by
        by_cases hi:i<len
        ·exact hi
        ·rw[List.getElem?_eq_none (by simpa using hi)]at h1;simp at h1
       rw[List.getElem?_range hi]at h1;simp only[Option.map_some,Option.some.injEq]at h1
       subst h1;have h4:W.cell? ⟨g,o+(i*sz+r),none⟩=some u:=by
        have h5:=(hf i hi).2 r u h2
        rwa [show Addr.add ⟨g,o,none⟩ (i*sz+r)=⟨g,o+(i*sz+r),none⟩ from by
         unfold Addr.add;by_cases h0:i*sz+r=0
         ·rw[if_pos h0,h0];rfl
         ·rw[if_neg h0]]at h5
       unfold World.cell? at h4
       rw[hg]at h4;rw[h3];simpa using h4
     | _=>simp at h01
  ·obtain⟨i,hi,rfl⟩:=List.mem_map.1 hx
   exact(hf i (List.mem_range.1 hi)).1
theorem UA:∀cs:List Value,cs.length=3→∃a b c,cs=[a,b,c]
 | [a,b,c],_=>⟨a,b,c,rfl⟩
theorem Tr:∀cs:List Value,cs.length=2→∃a b,cs=[a,b]
 | [a,b],_=>⟨a,b,rfl⟩
theorem Nc{n:Nat}{cs:List Value}{y:DataW H×List MemPlace}(h:DataW.trod en Tryz.prog W base sp held n 54 cs=some y):∃x:Val,cs=enc x∧d3 x:=by
 obtain⟨xs,k,-,-,hl,hxl,hf⟩:=DataW.trod_struct Tryz.underlying54 h
 have hl:cs.length=3:=hl.trans (by kernel_rfl)
 obtain⟨c0,c1,c2,rfl⟩:=UA cs hl
 have e0:Tryz.prog.cellsOf 3=1:=by kernel_rfl
 have e1:Tryz.prog.cellsOf 2=1:=by kernel_rfl
 have e2:Tryz.prog.cellsOf 9=1:=by kernel_rfl
 have g0:DataW.trod en Tryz.prog W base sp held k 3 (([c0,c1,c2].drop 0).take (Tryz.prog.cellsOf 3))=xs[0]?:=hf 0 { name:= "Kind",type:=3,offset:=0,embedded:=false,tag:= "",pkgPath:= "",byteOffset:=0 } rfl
 have g1:DataW.trod en Tryz.prog W base sp held k 2 (([c0,c1,c2].drop 1).take (Tryz.prog.cellsOf 2))=xs[1]?:=hf 1 { name:= "Int",type:=2,offset:=1,embedded:=false,tag:= "",pkgPath:= "",byteOffset:=8 } rfl
 have g2:DataW.trod en Tryz.prog W base sp held k 9 (([c0,c1,c2].drop 2).take (Tryz.prog.cellsOf 9))=xs[2]?:=hf 2 { name:= "Word",type:=9,offset:=2,embedded:=false,tag:= "",pkgPath:= "",byteOffset:=16 } rfl
 rw[e0]at g0;rw[e1]at g1;rw[e2]at g2;have hxl:xs.length=3:=hxl
 rw[List.getElem?_eq_getElem (by omega)]at g0 g1 g2
 obtain⟨a,ha,-,-⟩:=DataW.trod_int Tryz.underlying3 g0
 obtain⟨b,hb,-,hw⟩:=DataW.trod_int Tryz.underlying2 g1
 obtain⟨s,hs,-,hsz⟩:=DataW.trod_string Tryz.underlying9 g2
 simp only[List.drop_zero,List.take_succ_cons,List.take_zero,List.drop_succ_cons,List.cons.injEq,and_true]at ha hb hs
 subst ha;subst hb;subst hs;refine⟨⟨a,b,s⟩,rfl,?_,Nat.le_trans hsz (by decide)⟩
 simp only[Lit.wf,IntKind.min,IntKind.max,IntKind.bits,IntKind.signed]at hw
 simpa using hw
theorem UH:∀cs:List Value,cs.length=4→∃a b c d,cs=[a,b,c,d]
 | [a,b,c,d],_=>⟨a,b,c,d,rfl⟩
theorem TI:∀cs:List Value,cs.length=15→∃a0 a1 a2 a3 a4 a5 a6 a7 a8 a9 a10 a11 a12 a13 a14,cs=[a0,a1,a2,a3,a4,a5,a6,a7,a8,a9,a10,a11,a12,a13,a14]
 | [a0,a1,a2,a3,a4,a5,a6,a7,a8,a9,a10,a11,a12,a13,a14],_=>⟨a0,a1,a2,a3,a4,a5,a6,a7,a8,a9,a10,a11,a12,a13,a14,rfl⟩
theorem Dh{n:Nat}{cs:List Value}{y:DataW H×List MemPlace}(h:DataW.trod en Tryz.prog W base sp held n 9 cs=some y):∃x:ByteArray,cs=[.string x]∧x.size≤9223372036854775807:=by
 obtain⟨s,hs,-,hsz⟩:=DataW.trod_string Tryz.underlying9 h
 exact⟨s,hs,Nat.le_trans hsz (by decide)⟩
theorem Lu{n:Nat}{v:Value}{y:DataW H×List MemPlace}(h:DataW.trod en Tryz.prog W base sp held n 23 [v]=some y):∃xs:List ByteArray,D3 (d9 W) v 1 (A8 xs)∧∀x∈xs,x.size≤9223372036854775807:=
 Br (F:=fun s:ByteArray=>[Value.string s]) (p:=fun s=>s.size≤9223372036854775807) (sz:=1) (e:=9) (by kernel_rfl) (by decide) (fun x=>rfl) Tryz.underlying23 (fun h=>Dh h) h
theorem FH{n:Nat}{cs:List Value}{y:DataW H×List MemPlace}(h:DataW.trod en Tryz.prog W base sp held n 125 cs=some y):∃x:K0,cs=enc x∧Ab x:=by
 obtain⟨xs,k,-,-,hl,hxl,hf⟩:=DataW.trod_struct Tryz.underlying125 h
 have hl:cs.length=4:=hl.trans (by kernel_rfl)
 obtain⟨c0,c1,c2,c3,rfl⟩:=UH cs hl
 have e0:Tryz.prog.cellsOf 9=1:=by kernel_rfl
 have e1:Tryz.prog.cellsOf 54=3:=by kernel_rfl
 have q0:=hf 0 _ rfl
 have q1:=hf 1 _ rfl
 have g0:DataW.trod en Tryz.prog W base sp held k 9 (([c0,c1,c2,c3].drop 0).take (Tryz.prog.cellsOf 9))=xs[0]?:=q0
 have g1:DataW.trod en Tryz.prog W base sp held k 54 (([c0,c1,c2,c3].drop 1).take (Tryz.prog.cellsOf 54))=xs[1]?:=q1
 rw[e0]at g0;rw[e1]at g1;have hxl:xs.length=2:=hxl
 rw[List.getElem?_eq_getElem (by omega)]at g0 g1
 obtain⟨s,hs,-,hsz⟩:=DataW.trod_string Tryz.underlying9 g0
 obtain⟨v,hv,hn⟩:=Nc g1
 simp only[List.drop_zero,List.take_succ_cons,List.take_zero,List.drop_succ_cons,List.cons.injEq,and_true]at hs hv
 subst hs;obtain⟨vk,vn,vw⟩:=v;refine⟨⟨s,⟨vk,vn,vw⟩⟩,?_,Nat.le_trans hsz (by decide),hn⟩
 have hv:[c1,c2,c3]=[Value.int .i64 vk,.int .i64 vn,.string vw]:=hv
 show Value.string s::[c1,c2,c3]=_
 rw[hv];rfl
theorem Lv{n:Nat}{v:Value}{y:DataW H×List MemPlace}(h:DataW.trod en Tryz.prog W base sp held n 123 [v]=some y):∃xs:List K0,D3 (d9 W) v 4 (xs.map enc)∧∀x∈xs,Ab x:=
 Br (sz:=4) (e:=125) (by kernel_rfl) (by decide) (fun x=>rfl) Tryz.underlying123 (fun h=>FH h) h
theorem Ex{n:Nat}{c:Value}{y:DataW H×List MemPlace}(h:DataW.trod en Tryz.prog W base sp held n 2 [c]=some y):∃b:Int,c=.int .i64 b∧Bq b:=by
 obtain⟨b,hb,-,hw⟩:=DataW.trod_int Tryz.underlying2 h
 simp only[List.cons.injEq,and_true]at hb
 refine⟨b,hb,?_⟩
 simp only[Lit.wf,IntKind.min,IntKind.max,IntKind.bits,IntKind.signed]at hw
 unfold Bq;simpa using hw
theorem GW{n:Nat}{c:Value}{y:DataW H×List MemPlace}(h:DataW.trod en Tryz.prog W base sp held n 3 [c]=some y):∃b:Int,c=.int .i64 b:=by
 obtain⟨b,hb,-,hw⟩:=DataW.trod_int Tryz.underlying3 h
 simp only[List.cons.injEq,and_true]at hb
 exact⟨b,hb⟩
set_option maxHeartbeats 4000000 in
theorem MU{n:Nat}{cs:List Value}{y:DataW H×List MemPlace}(h:DataW.trod en Tryz.prog W base sp held n 127 cs=some y):∃x:H4,cs=cG x∧LB (d9 W) x∧FQ 9223372036854775807 x.g:=by
 obtain⟨xs,k,-,-,hl,hxl,hf⟩:=DataW.trod_struct Tryz.underlying127 h
 have hl:cs.length=15:=hl.trans (by kernel_rfl)
 obtain⟨c0,c1,c2,c3,c4,c5,c6,c7,c8,c9,c10,c11,c12,c13,c14,rfl⟩:=TI cs hl
 have e0:Tryz.prog.cellsOf 3=1:=by kernel_rfl
 have e1:Tryz.prog.cellsOf 9=1:=by kernel_rfl
 have e2:Tryz.prog.cellsOf 123=1:=by kernel_rfl
 have e3:Tryz.prog.cellsOf 125=4:=by kernel_rfl
 have e4:Tryz.prog.cellsOf 2=1:=by kernel_rfl
 have q0:=hf 0 _ rfl
 have g0:DataW.trod en Tryz.prog W base sp held k 3 (([c0,c1,c2,c3,c4,c5,c6,c7,c8,c9,c10,c11,c12,c13,c14].drop 0).take (Tryz.prog.cellsOf 3))=xs[0]?:=q0
 have q1:=hf 1 _ rfl
 have g1:DataW.trod en Tryz.prog W base sp held k 9 (([c0,c1,c2,c3,c4,c5,c6,c7,c8,c9,c10,c11,c12,c13,c14].drop 1).take (Tryz.prog.cellsOf 9))=xs[1]?:=q1
 have q2:=hf 2 _ rfl
 have g2:DataW.trod en Tryz.prog W base sp held k 123 (([c0,c1,c2,c3,c4,c5,c6,c7,c8,c9,c10,c11,c12,c13,c14].drop 2).take (Tryz.prog.cellsOf 123))=xs[2]?:=q2
 have q3:=hf 3 _ rfl
 have g3:DataW.trod en Tryz.prog W base sp held k 3 (([c0,c1,c2,c3,c4,c5,c6,c7,c8,c9,c10,c11,c12,c13,c14].drop 3).take (Tryz.prog.cellsOf 3))=xs[3]?:=q3
 have q4:=hf 4 _ rfl
 have g4:DataW.trod en Tryz.prog W base sp held k 125 (([c0,c1,c2,c3,c4,c5,c6,c7,c8,c9,c10,c11,c12,c13,c14].drop 4).take (Tryz.prog.cellsOf 125))=xs[4]?:=q4
 have q5:=hf 5 _ rfl
 have g5:DataW.trod en Tryz.prog W base sp held k 125 (([c0,c1,c2,c3,c4,c5,c6,c7,c8,c9,c10,c11,c12,c13,c14].drop 8).take (Tryz.prog.cellsOf 125))=xs[5]?:=q5
 have q6:=hf 6 _ rfl
 have g6:DataW.trod en Tryz.prog W base sp held k 2 (([c0,c1,c2,c3,c4,c5,c6,c7,c8,c9,c10,c11,c12,c13,c14].drop 12).take (Tryz.prog.cellsOf 2))=xs[6]?:=q6
 have q7:=hf 7 _ rfl
 have g7:DataW.trod en Tryz.prog W base sp held k 2 (([c0,c1,c2,c3,c4,c5,c6,c7,c8,c9,c10,c11,c12,c13,c14].drop 13).take (Tryz.prog.cellsOf 2))=xs[7]?:=q7
 have q8:=hf 8 _ rfl
 have g8:DataW.trod en Tryz.prog W base sp held k 2 (([c0,c1,c2,c3,c4,c5,c6,c7,c8,c9,c10,c11,c12,c13,c14].drop 14).take (Tryz.prog.cellsOf 2))=xs[8]?:=q8
 have hxl:xs.length=9:=hxl
 rw[e0,List.getElem?_eq_getElem (by omega)]at g0 g3
 rw[e1,List.getElem?_eq_getElem (by omega)]at g1
 rw[e2,List.getElem?_eq_getElem (by omega)]at g2
 rw[e3,List.getElem?_eq_getElem (by omega)]at g4 g5
 rw[e4,List.getElem?_eq_getElem (by omega)]at g6 g7 g8
 obtain⟨kd,rfl⟩:=GW g0
 obtain⟨rs,hrs,hrsz⟩:=Dh g1
 obtain⟨az,ha,hai⟩:=Lv g2
 obtain⟨op,rfl⟩:=GW g3
 obtain⟨⟨lv,lk,ln,lw⟩,hlo,hli⟩:=FH g4
 obtain⟨⟨rv,rk,rn,rx⟩,hro,hri⟩:=FH g5
 obtain⟨o6,rfl,i6⟩:=Ex g6
 obtain⟨o7,rfl,i7⟩:=Ex g7
 obtain⟨o8,rfl,i8⟩:=Ex g8
 have hlo2:[c4,c5,c6,c7]=[Value.string lv,.int .i64 lk,.int .i64 ln,.string lw]:=hlo
 have hro2:[c8,c9,c10,c11]=[Value.string rv,.int .i64 rk,.int .i64 rn,.string rx]:=hro
 have hrs2:[c1]=[Value.string rs]:=hrs
 clear hlo hro hrs q0 q1 q2 q3 q4 q5 q6 q7 q8 g0 g1 g3 g4 g5 g6 g7 g8 hf hl h;simp only[List.cons.injEq,and_true]at hlo2 hro2 hrs2
 obtain⟨rfl,rfl,rfl,rfl⟩:=hlo2;obtain⟨rfl,rfl,rfl,rfl⟩:=hro2;subst hrs2;obtain⟨aa,an,ac,rfl,hal,hanc,hac⟩:=D3.shape ha
 rw[List.length_map]at hal;exact⟨⟨⟨kd,rs,az,op,⟨lv,lk,ln,lw⟩,⟨rv,rk,rn,rx⟩,o6,o7,o8⟩,aa,an,ac⟩,rfl,ha,⟨hrsz,by show az.length≤_;omega,hai,hli,hri,i6,i7,i8⟩⟩
instance:Inhabited H4:=⟨⟨⟨0,⟨#[]⟩,[],0,d5,d5,0,0,0⟩,none,0,0⟩⟩
theorem Ja{n:Nat}{v:Value}{y:DataW H×List MemPlace}(h:DataW.trod en Tryz.prog W base sp held n 24 [v]=some y):∃gs:List H4,D3 (d9 W) v 15 (gs.map cG)∧∀x∈gs,LB (d9 W) x∧FQ 9223372036854775807 x.g:=
 Br (sz:=15) (e:=127) (by kernel_rfl) (by decide) (fun x=>rfl) Tryz.underlying24 (fun h=>MU h) h
set_option maxRecDepth 100000 in
theorem Hs{r:Reach}{b:Nat}{v:Value}{d:DataW H}{pl:List MemPlace}(hk:Value.okWide Tryz.prog W r b 26 v)(h:DataW.Trod en Tryz.prog W base sp held 26 v d pl):∃(vs vg:Value) (gs:List H4) (q:E7),v=.agg #[vs,vg]∧QR (d9 W) vs vg gs q∧(q.Goals.length≤3→q.Sel.length≤8→T4 9223372036854775807 q):=by
 obtain⟨⟨cs⟩,rfl,-⟩:=okWide_struct Tryz.underlying26 hk
 obtain⟨n,h⟩:=h;have h:DataW.trod en Tryz.prog W base sp held n 26 cs=some (d,pl):=h
 obtain⟨xs,k,-,-,hl,hxl,hf⟩:=DataW.trod_struct Tryz.underlying26 h
 have hl:cs.length=2:=hl.trans (by kernel_rfl)
 obtain⟨c0,c1,rfl⟩:=Tr cs hl
 have e0:Tryz.prog.cellsOf 23=1:=by kernel_rfl
 have e1:Tryz.prog.cellsOf 24=1:=by kernel_rfl
 have q0:=hf 0 _ rfl
 have q1:=hf 1 _ rfl
 have g0:DataW.trod en Tryz.prog W base sp held k 23 (([c0,c1].drop 0).take (Tryz.prog.cellsOf 23))=xs[0]?:=q0
 have g1:DataW.trod en Tryz.prog W base sp held k 24 (([c0,c1].drop 1).take (Tryz.prog.cellsOf 24))=xs[1]?:=q1
 rw[e0]at g0;rw[e1]at g1;have hxl:xs.length=2:=hxl
 rw[List.getElem?_eq_getElem (by omega)]at g0 g1
 obtain⟨ss,hs,hsz⟩:=Lu g0
 obtain⟨gs,hg,hgo⟩:=Ja g1
 refine⟨c0,c1,gs,⟨ss,gs.map (·.g)⟩,rfl,⟨hs,hg,rfl,fun x hx=>(hgo x hx).1⟩,fun h3 h8=>⟨Nat.le_trans h8 (by decide),hsz,Nat.le_trans h3 (by decide),fun g hg'=>?_⟩⟩
 obtain⟨x,hx,rfl⟩:=List.mem_map.1 hg'
 exact(hgo x hx).2
end
end Go.Proofs.YtlimglpjpcfpdaaGreat
end
