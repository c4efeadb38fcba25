/- Texts of this proof, one behind another. -/
import Derived.Test.YtlimglpjpcfpdaaGreatDoorM5
import Derived.Test.YtlimglpjpcfpdaaGreatDoorM4
import Derived.Test.YtlimglpjpcfpdaaGreatDoorM3
set_option linter.unusedVariables false
set_option linter.unusedSimpArgs false
section
open Go Mk
namespace Go.Proofs.YtlimglpjpcfpdaaGreatDoor
set_option maxHeartbeats 4000000
attribute [local irreducible] Calls
def DZ(n:Int):List UInt8:=Lib.itoa n
def IM(v:Val):List UInt8:=if v.Kind=1 then DZ v.Num else if X9 v.Word=true then F4 v.Word else 34::(F4 v.Word++[34])
def oL(o:F1):List UInt8:=if o.Var≠C9 then F4 o.Var else IM o.Const
def Z6(os:List F1):List UInt8:=os.flatMap fun o=>44::32::oL o
def x7:List F1→List UInt8
 | []=>[]
 | o::os=>oL o++Z6 os
def GO(v:Int):List UInt8:=if v=0 then [] else if 0<v then 32::43::32::Lib.decDigits v.toNat else 32::45::32::Lib.decDigits v.natAbs
def gL(g:D6):List UInt8:=
 if g.Kind=3 then oL g.L++32::(F4 (Q6.getD g.Op.toNat C9)++32::(oL g.R++GO g.Off))
 else if g.Kind=4 then F4 g.L.Var++32::105::110::32::(DZ g.Low++32::46::46::32::DZ g.High)
 else (if g.Kind=2 then [110,111,116,32] else [])++(F4 g.Rel++40::(x7 g.Args++[41]))
def d4(gs:List D6):List UInt8:=gs.flatMap fun g=>44::32::gL g
def T3:List D6→List UInt8
 | []=>[]
 | g::gs=>gL g++d4 gs
def d3(ss:List ByteArray):List UInt8:=ss.flatMap fun s=>44::32::F4 s
def BN:List ByteArray→List UInt8
 | []=>[]
 | s::ss=>32::(F4 s++d3 ss)
def qL(q:D3):List UInt8:=F4 l8++(BN q.Sel++32::(F4 F7++32::T3 q.Goals))
theorem Tz.int{n:Int}(hn:U8 n){l:List UInt8}{ks:List T1}(hl:BE l)(h:Tz l ks):Tz (DZ n++l) (L4 n++ks):=by
 obtain⟨hv0,hv1⟩:=hn;unfold DZ L4 Lib.itoa;by_cases hn:n<0
 ·rw[if_pos hn,if_pos hn];have:=Tz.num (u:=n.natAbs) (by omega) hl h
  obtain⟨d,p,hd,hp,-⟩:=BF n.natAbs
  rw[hp]at this ⊢
  exact Tz.p2 (.inr ⟨rfl,(z8 hd).2.1⟩) this
 ·rw[if_neg hn,if_neg hn];exact Tz.num (by omega) hl h
theorem Tz.con{v:Val}(hv:U8 v.Num)(hr:I3 v=true){l:List UInt8}{ks:List T1}(hl:BE l)(h:Tz l ks):Tz (IM v++l) (AI v++ks):=by
 unfold IM AI;by_cases hk:v.Kind=1
 ·rw[if_pos hk,if_pos hk];exact Tz.int hv hl h
 ·rw[if_neg hk,if_neg hk];unfold I3 Ag at hr;simp only[Bool.or_eq_true,Bool.and_eq_true,decide_eq_true_eq]at hr
  have hr:=hr.resolve_left fun q=>hk q.1
  by_cases hw:X9 v.Word=true
  ·rw[if_pos hw,if_pos hw];unfold X9 O7 at hw;simp only[Bool.and_eq_true]at hw
   exact Tz.word hw.1.1.1.1 hl h
  ·rw[if_neg hw,if_neg hw];exact Tz.str (l:=l) hr.2.1.1 h
theorem BV{s:ByteArray}(h:s=I9∨R6 s=true):Ai s=true:=by
 rcases h with rfl|h
 ·decide +kernel
 ·unfold R6 O7 at h;simp only[Bool.and_eq_true]at h
  exact h.1.1.1
theorem Tz.op{o:F1}(hv:OV o){l:List UInt8}{ks:List T1}(hl:BE l)(h:Tz l ks):Tz (oL o++l) (Q4 o++ks):=by
 unfold oL;rcases hv with⟨h1,h2,h3⟩|⟨h1,h2⟩
 ·rw[if_neg (fun q=>q h1),CN h1];exact Tz.con h3 h2 hl h
 ·rw[if_pos (Dp h1),j9 (Dp h1)];exact Tz.word (BV h1) hl h
theorem Tz.pun{p:List UInt8}(hp:NK p){l:List UInt8}{ks:List T1}(h:Tz l ks):Tz (p++32::l) ((4,L5 p,0)::ks):=by
 cases p with
 | nil=>rcases hp with⟨c,e,-⟩|⟨c,d,e,-⟩ <;> cases e
 | cons c p=>
  obtain⟨k1,k2,k3⟩:=Ot (p:=p) (l:=32::l) hp (.inr ⟨_,rfl⟩)
  exact Tz.tok (v:=0) k2 k3 k1 (Tz.sp (by decide) h)
theorem Rk:J1 44=false:=by decide
theorem w41:J1 41=false:=by decide
theorem LR:J1 32=false:=by decide
theorem Tz.com{l:List UInt8}{ks:List T1}(h:Tz l ks):Tz (44::32::l) (pT 44::ks):=Tz.p1 (.inr (.inr rfl)) (Tz.sp (by decide) h)
theorem Dv{l:List UInt8}(hl:BE l):∀os:List F1,BE (Z6 os++l)
 | []=>hl
 | o::os=>by unfold Z6;rw[List.flatMap_cons];exact Rk
theorem Dy{l:List UInt8}(hl:BE l):∀os:List ByteArray,BE (d3 os++l)
 | []=>hl
 | o::os=>by unfold d3;rw[List.flatMap_cons];exact Rk
theorem EP:∀os:List D6,BE (d4 os)
 | []=>trivial
 | o::os=>by unfold d4;rw[List.flatMap_cons];exact Rk
theorem Tz.oTl{l:List UInt8}{ks:List T1}(hl:BE l)(h:Tz l ks):∀os:List F1,(∀o∈os,OV o)→Tz (Z6 os++l) (oTail os++ks)
 | [],_=>h
 | o::os,hv=>by
  have ih:=Tz.oTl hl h os fun u hu=>hv u (List.mem_cons_of_mem _ hu)
  have e1:Z6 (o::os)++l=44::32::(oL o++(Z6 os++l)):=by unfold Z6;rw[List.flatMap_cons];simp
  have e2:oTail (o::os)++ks=pT 44::(Q4 o++(oTail os++ks)):=by unfold Go.Proofs.YtlimglpjpcfpdaaGreatDoor.oTail;rw[List.flatMap_cons];simp
  rw[e1,e2];exact Tz.com (Tz.op (hv o (by simp)) (Dv hl os) ih)
theorem Tz.sTl{l:List UInt8}{ks:List T1}(hl:BE l)(h:Tz l ks):∀ss:List ByteArray,(∀s∈ss,R6 s=true)→Tz (d3 ss++l) (sTail ss++ks)
 | [],_=>h
 | o::os,hv=>by
  have ih:=Tz.sTl hl h os fun u hu=>hv u (List.mem_cons_of_mem _ hu)
  have e1:d3 (o::os)++l=44::32::(F4 o++(d3 os++l)):=by unfold d3;rw[List.flatMap_cons];simp
  have e2:Go.Proofs.YtlimglpjpcfpdaaGreatDoor.sTail (o::os)++ks=pT 44::(1,o,0)::(Go.Proofs.YtlimglpjpcfpdaaGreatDoor.sTail os++ks):=by unfold Go.Proofs.YtlimglpjpcfpdaaGreatDoor.sTail;rw[List.flatMap_cons];simp
  rw[e1,e2];exact Tz.com (Tz.word (BV (.inr (hv o (by simp)))) (Dy hl os) ih)
theorem Tz.argsQ{os:List F1}(hn:os≠[])(hv:∀o∈os,OV o){l:List UInt8}{ks:List T1}(hl:BE l)(h:Tz l ks):Tz (x7 os++l) (m5 os++ks):=by
 cases os with
 | nil=>exact absurd rfl hn
 | cons o os=>
  unfold x7 m5;rw[List.append_assoc,List.append_assoc];exact Tz.op (hv o (by simp)) (Dv hl os) (Tz.oTl hl h os fun u hu=>hv u (List.mem_cons_of_mem _ hu))
theorem Tz.off{v:Int}(hv:U8 v){l:List UInt8}{ks:List T1}(hl:BE l)(h:Tz l ks):Tz (GO v++l) (AG v++ks)∧BE (GO v++l):=by
 obtain⟨v0,v1⟩:=hv;unfold GO AG;by_cases h0:v=0
 ·rw[if_pos h0,if_pos h0];exact⟨h,hl⟩
 ·rw[if_neg h0,if_neg h0];by_cases hp:0<v
  ·rw[if_pos hp,if_pos hp];exact⟨Tz.sp (by decide) (Tz.pun (p:=[43]) (.inl ⟨43,rfl,by decide⟩) (Tz.num (by omega) hl h)),LR⟩
  ·rw[if_neg hp,if_neg hp];exact⟨Tz.sp (by decide) (Tz.pun (p:=[45]) (.inl ⟨45,rfl,by decide⟩) (Tz.num (by omega) hl h)),LR⟩
theorem OS{j:Nat}(h1:1≤j)(h2:j≤6):NK (F4 (Q6.getD j C9)):=by
 have hc:j=1∨j=2∨j=3∨j=4∨j=5∨j=6:=by omega
 rcases hc with rfl|rfl|rfl|rfl|rfl|rfl
 ·exact .inl ⟨61,rfl,by decide⟩
 ·exact .inr ⟨33,61,rfl,by decide⟩
 ·exact .inl ⟨60,rfl,by decide⟩
 ·exact .inr ⟨60,61,rfl,by decide⟩
 ·exact .inl ⟨62,rfl,by decide⟩
 ·exact .inr ⟨62,61,rfl,by decide⟩
theorem Tz.goal{g:D6}(hg:GV g){l:List UInt8}{ks:List T1}(hl:BE l)(h:Tz l ks):Tz (gL g++l) (q9 g++ks):=by
 obtain⟨gs,go,gr,gn,h64,l64,u64⟩:=hg;unfold P9 at gs;unfold F6 at go;unfold u1 at gn;unfold q9 gL;by_cases k3:g.Kind=3
 ·rw[if_neg (by omega),if_pos k3]at go
  rw[if_pos k3]at gn;rw[if_pos k3,if_pos k3];simp only[Bool.and_eq_true,decide_eq_true_eq]at gn
  rw[List.append_assoc,List.append_assoc,List.cons_append,List.cons_append,List.append_assoc,List.cons_append,List.append_assoc,List.append_assoc];obtain⟨t1,t2⟩:=Tz.off h64 hl h
  have t3:=Tz.op (go g.R (by simp)) t2 t1
  have t4:=Tz.pun (OS (j:=g.Op.toNat) (by omega) (by omega)) t3
  rw[GN]at t4;exact Tz.op (go g.L (by simp)) (show BE (32::_) from LR) (Tz.sp (by decide) t4)
 ·by_cases k4:g.Kind=4
  ·rw[if_neg (by omega),if_neg k3,if_pos k4]at gs go
   rw[if_neg k3,if_pos k4,if_neg k3,if_pos k4];simp only[Bool.and_eq_true,decide_eq_true_eq]at gs
   have hv:g.L.Var=I9∨R6 g.L.Var=true:=by
    rcases go g.L (by simp) with⟨q,-⟩|⟨q,-⟩
    ·exact absurd q gs.2
    ·exact q
   have t1:=Tz.int u64 hl h
   have t2:Tz (32::46::46::32::(DZ g.High++l)) ((4,Cp,0)::(L4 g.High++ks)):=Tz.sp (by decide) (Tz.pun (p:=[46,46]) (.inr ⟨46,46,rfl,by decide⟩) t1)
   have t3:=Tz.int l64 (show BE (32::_) from LR) t2
   have t4:Tz (F4 GQ++32::(DZ g.Low++32::46::46::32::(DZ g.High++l))) ((1,GQ,0)::(L4 g.Low++(4,Cp,0)::(L4 g.High++ks))):=Tz.word (by decide +kernel) (show BE (32::_) from LR) (Tz.sp (by decide) t3)
   have t5:=Tz.word (BV hv) (show BE (32::_) from LR) (Tz.sp (c:=32) (by decide) t4)
   rw[List.append_assoc];simp only[List.cons_append,List.append_assoc]
   exact t5
  ·by_cases k12:g.Kind=1∨g.Kind=2
   ·rw[if_pos k12]at go;rw[if_neg k3,if_neg k4,if_neg k3,if_neg k4];obtain⟨q1,q2,q3⟩:=gr (by unfold E3;rcases k12 with e|e <;> rw[e] <;> rfl)
    unfold O7 at q1;rw[Bool.and_eq_true]at q1;have t1:Tz (41::l) (pT 41::ks):=Tz.p1 (.inr (.inl rfl)) h
    have t2:=Tz.argsQ q3 go (show BE (41::l) from w41) t1
    have t3:Tz (40::(x7 g.Args++41::l)) (pT 40::(m5 g.Args++pT 41::ks)):=Tz.p1 (.inl rfl) t2
    have t4:=Tz.word q1.1 (show BE (40::_) by show J1 40=false;decide) t3
    rw[List.append_assoc,List.append_assoc,List.append_assoc];simp only[List.cons_append,List.append_assoc,List.nil_append]
    by_cases k2:g.Kind=2
    ·rw[if_pos k2,if_pos k2];exact Tz.word (t:=S8) (by decide +kernel) (show BE (32::_) from LR) (Tz.sp (by decide) t4)
    ·rw[if_neg k2,if_neg k2];exact t4
   ·rw[if_neg k12,if_neg k3,if_neg k4]at gs;cases gs
theorem Tz.gTl:∀gs:List D6,(∀g∈gs,GV g)→Tz (d4 gs) (Go.Proofs.YtlimglpjpcfpdaaGreatDoor.gTail gs)
 | [],_=>Tz.nil
 | g::gs,hv=>by
  have ih:=Tz.gTl gs fun u hu=>hv u (List.mem_cons_of_mem _ hu)
  have e1:d4 (g::gs)=44::32::(gL g++d4 gs):=by unfold d4;rw[List.flatMap_cons];simp
  have e2:Go.Proofs.YtlimglpjpcfpdaaGreatDoor.gTail (g::gs)=pT 44::(q9 g++Go.Proofs.YtlimglpjpcfpdaaGreatDoor.gTail gs):=by unfold Go.Proofs.YtlimglpjpcfpdaaGreatDoor.gTail;rw[List.flatMap_cons];simp
  rw[e1,e2];exact Tz.com (Tz.goal (hv g (by simp)) (EP gs) ih)
theorem Tz.query{q:D3}(hq:QV q):Tz (qL q) (Jt q):=by
 obtain⟨sel,gs⟩:=q;obtain⟨hs,hg,hne⟩:=hq;unfold qL Jt;dsimp only at *
 have t1:Tz (T3 gs) (V3 gs):=by
  cases gs with
  | nil=>exact absurd rfl hne
  | cons g gs=>
   exact Tz.goal (hg g (by simp)) (EP gs) (Tz.gTl gs fun u hu=>hg u (List.mem_cons_of_mem _ hu))
 have t2:Tz (F4 F7++32::T3 gs) ((1,F7,0)::V3 gs):=Tz.word (by decide +kernel) (show BE (32::_) from LR) (Tz.sp (by decide) t1)
 have t3:Tz (32::(F4 F7++32::T3 gs)) ((1,F7,0)::V3 gs):=Tz.sp (by decide) t2
 have t4:Tz (BN sel++32::(F4 F7++32::T3 gs)) (NO sel++(1,F7,0)::V3 gs)∧BE (BN sel++32::(F4 F7++32::T3 gs)):=by
  cases sel with
  | nil=>exact⟨t3,LR⟩
  | cons s ss=>
   refine⟨?_,LR⟩
   have:=Tz.word (BV (.inr (hs s (by simp)))) (Dy (show BE (32::_) from LR) ss) (Tz.sTl (show BE (32::_) from LR) t3 ss fun u hu=>hs u (List.mem_cons_of_mem _ hu))
   unfold BN NO;rw[List.cons_append,List.cons_append,List.append_assoc];exact Tz.sp (by decide) this
 exact Tz.word (by decide +kernel) t4.2 t4.1
theorem IK{q:D3}(hq:QV q)(hl:(qL q).length≤65536):P6 (L5 (qL q))=(q,⟨0,0⟩,0):=by
 obtain⟨toks,h1,h2⟩:=Lj (Tz.query hq) hl
 unfold P6;rw[h2];dsimp only
 rw[if_pos rfl];obtain⟨k,h3⟩:=F9.query (toks:=toks) (e:=u4 (L5 (qL q))) hq (by unfold F9;rw[List.drop_zero];exact h1)
 rw[h3]
theorem MR{q:D3}(ho:J2 q)(hv:T8 q=0):QV q:=by
 unfold T8 at hv;split at hv
 ·cases hv
 rename_i h1
 split at hv
 ·cases hv
 rename_i h2
 split at hv
 ·cases hv
 rename_i h3
 split at hv
 ·cases hv
 rename_i h4
 simp only[Bool.not_eq_false]at h1 h2 h3 h4
 unfold AZ at h1;unfold o5 at h2;unfold T4 at h3;unfold Ci at h4;simp only[Bool.and_eq_true,decide_eq_true_eq]at h1 h3
 have i2:=List.all_eq_true.1 h2
 have i3:=List.all_eq_true.1 h3.2
 have i4:=List.all_eq_true.1 h4
 have i1:=List.all_eq_true.1 h1.1.2
 refine⟨fun s hs=>List.all_eq_true.1 h3.1 s hs,fun g hg=>?_,fun q=>?_⟩
 ·have j2:=i2 g hg
  have j3:=i3 g hg
  have j1:=i1 g hg
  have hgo:=ho.goals g hg
  unfold Ad at j3;simp only[Bool.and_eq_true,Bool.not_eq_true']at j2 j3
  refine⟨j2.1,fun o hoo=>?_,fun ha=>?_,i4 g hg,hgo.off,hgo.low,hgo.high⟩
  ·have k3:=List.all_eq_true.1 j3.2 o hoo
   have k2:=List.all_eq_true.1 j2.2 o hoo
   have ko:U5 o:=by
    unfold F6 at hoo;split at hoo
    ·exact hgo.args o hoo
    ·split at hoo
     ·rcases List.mem_cons.1 hoo with rfl|hoo
      ·exact hgo.l
      ·rw[List.mem_singleton.1 hoo];exact hgo.r
     ·split at hoo
      ·rw[List.mem_singleton.1 hoo];exact hgo.l
      ·cases hoo
   unfold Ea at k3;unfold plainO at k2;by_cases hv:o.Var=C9
   ·left
    refine⟨hv,?_,ko.2.1⟩
    simp only[hv,decide_true,Bool.true_and]at k3
    simp only[Bool.and_eq_true,Bool.not_not]at k3
    exact k3.1.1
   ·right
    refine⟨?_,?_⟩
    ·by_cases ha:o.Var=I9
     ·exact .inl ha
     ·right
      simp[hv,ha]at k3
      exact k3
    ·simp[hv]at k2
     exact k2
  ·rw[ha,Bool.true_and]at j3;rw[ha]at j1;simp only[Bool.or_eq_false_iff,Bool.not_eq_false',Bool.not_true,Bool.false_or,Bool.and_eq_true,decide_eq_true_eq]at j1 j3
   exact⟨j3.1.1,j3.1.2,fun q=>by rw[q]at j1;simp at j1⟩
 ·rw[q]at h1;simp at h1
end Go.Proofs.YtlimglpjpcfpdaaGreatDoor
end
section
open Go Mk
namespace Go.Proofs.YtlimglpjpcfpdaaGreatDoor
set_option maxHeartbeats 16000000
attribute [local irreducible] Calls cI cB
def e7(o:F1):ByteArray:=L5 (oL o)
theorem PM{o:F1}(h:o.Var≠C9):e7 o=o.Var:=M6 (by unfold e7 oL;rw[if_pos h];exact H6 _)
theorem PQ{o:F1}(h:o.Var=C9)(hk:o.Const.Kind=1):e7 o=L8 o.Const.Num:=by
 unfold e7 oL IM;rw[if_neg (fun q=>q h),if_pos hk];rfl
theorem Nh{o:F1}(h:o.Var=C9)(hk:o.Const.Kind≠1)(hb:X9 o.Const.Word=true):e7 o=o.Const.Word:=M6 (by
 unfold e7 oL IM;rw[if_neg (fun q=>q h),if_neg hk,if_pos hb];exact H6 _)
theorem PH{o:F1}(h:o.Var=C9)(hk:o.Const.Kind≠1)(hb:X9 o.Const.Word=false):e7 o=(Am++o.Const.Word)++Am:=M6 (by
 unfold e7 oL IM;rw[if_neg (fun q=>q h),if_neg hk,if_neg (by rw[hb];decide)]
 rw[U2,U2];exact H6 _)
section
variable {Γ:B5}
theorem w4[hT:AQ Γ](o:F1)(ho:U5 o)(hwl:o.Const.Word.size≤100000):PG Tryz.prog Γ 110 [.agg (enc o).toArray] (.string (e7 o)):=⟨fun S w hw=>by
 obtain⟨V,v⟩:=o;have hF:=l7 (Γ:=Γ) v.Num ho.2.1.1 ho.2.1.2
 have hv1:V.size≤9223372036854775807:=ho.1
 have hv2:=ho.2.2
 have hv3:v.Word.size≤100000:=hwl
 haveI:SB v.Word:=Me hv2
 have p1:=f0 hv2
 refine A5 Tryz.func110 rfl rfl ?_
 repeat first|refine C3 ?_|refine C4 ?_;intro w hw
 refine K4 ?_;intro b1 w hw;have hw:Wd Γ (.blk b1 (.cells (enc (⟨V,v⟩:F1)).toArray 77)::S) w:=hw
 repeat first|refine C3 ?_|refine C4 ?_;intro w hw
 refine A0 rfl (fun h=>?_) (fun h=>?_)
 ·have h:V≠C9:=of_decide_eq_true h
  rw[PM (o:=⟨V,v⟩) h];repeat first|refine C3 ?_|refine C4 ?_;intro w hw
  exact⟨_,rfl,rfl,hw.drop⟩
 have h:V=C9:=by have:=of_decide_eq_false h;exact Classical.not_not.1 this
 repeat first|refine C3 ?_|refine C4 ?_;intro w hw
 refine A0 rfl (fun h2=>?_) (fun h2=>?_)
 ·have h2:v.Kind=1:=of_decide_eq_true h2
  rw[PQ (o:=⟨V,v⟩) h h2];repeat first|refine C3 ?_|refine C4 ?_;intro w hw
  exact⟨_,rfl,rfl,hw.drop⟩
 have h2:¬v.Kind=1:=of_decide_eq_false h2
 have e3:X9 v.Word=(O7 v.Word && !DJ v.Word&&decide (v.Word≠I9) && !R6 v.Word):=by unfold X9;simp
 repeat first|refine C3 ?_|refine C4 ?_;intro w hw
 refine A0 rfl (fun h3=>?_) (fun h3=>?_)
 ·have h3:X9 v.Word=true:=e3.trans h3
  rw[Nh (o:=⟨V,v⟩) h h2 h3];repeat first|refine C3 ?_|refine C4 ?_;intro w hw
  exact⟨_,rfl,rfl,hw.drop⟩
 ·have h3:X9 v.Word=false:=e3.trans h3
  rw[PH (o:=⟨V,v⟩) h h2 h3];repeat first|refine C3 ?_|refine C4 ?_;intro w hw
  refine lY (v:=.string (Am++v.Word)) ?_ (hy:=J3 rfl rfl (by have:Am.size=1:=rfl;have:(⟨#[34]⟩:ByteArray).size=1:=rfl;omega))
  repeat first|refine C3 ?_|refine C4 ?_;intro w hw
  refine lY (v:=.string ((Am++v.Word)++Am)) ?_ (hy:=J3 rfl rfl (by have:(⟨#[34]⟩:ByteArray).size=1:=rfl;have:Am.size=1:=rfl;rw[ByteArray.size_append];omega))
  repeat first|refine C3 ?_|refine C4 ?_;intro w hw
  exact⟨_,rfl,rfl,hw.drop⟩⟩
end
end Go.Proofs.YtlimglpjpcfpdaaGreatDoor
end
section
open Go Mk
namespace Go.Proofs.YtlimglpjpcfpdaaGreatDoor
set_option maxHeartbeats 4000000
theorem Fq{α:Type}(f:α→ByteArray)(g:α→List UInt8)(e:∀x,F4 (f x)=g x)(os:List α):Lib.joinTail (F4 k0) ((os.map f).map F4)=os.flatMap fun x=>44::32::g x:=by
 unfold Lib.joinTail;rw[List.flatMap_def,List.map_map,List.map_map];refine congrArg List.flatten (List.map_congr_left fun x _=>?_)
 show F4 k0++F4 (f x)=_
 rw[e];rfl
theorem CU{n:Int}(h:U8 n):(Lib.itoa n).length≤25:=by
 have:=x5 h.1 h.2
 have hs:(L8 n).size=(Lib.itoa n).length:=by show (List.toArray _).size=_;simp
 omega
theorem Gh{u:Nat}(h:u≤9223372036854775808):(Lib.decDigits u).length≤20:=by
 rw[Lib.decDigits_length];exact BB 19 u (by omega)
theorem EC{o:F1}(h:OV o):(oL o).length≤30:=by
 rcases h with⟨h0,hr,hi⟩|⟨hv,-⟩
 ·unfold oL IM;rw[if_neg (fun q=>q h0)];split
  ·have:=CU hi
   unfold DZ;omega
  ·rename_i h1
   have h2:o.Const.Word.size≤24:=by
    unfold I3 Ag at hr;simp only[Bool.or_eq_true,Bool.and_eq_true,decide_eq_true_eq]at hr
    rcases hr with q|q
    ·exact absurd q.1 h1
    ·exact q.2.2
   have h3:=G1 o.Const.Word
   split
   ·omega
   ·simp only[List.length_cons,List.length_append,List.length_nil];omega
 ·have h1:=Dp hv
  have h2:=V5 hv
  have h3:=G1 o.Var
  unfold oL;rw[if_pos h1];omega
theorem BK{o:F1}(h:OV o):(e7 o).size≤30:=by unfold e7;rw[O9];exact EC h
theorem Di:∀(os:List F1),(∀o∈os,OV o)→(Z6 os).length≤os.length*32
 | [],_=>by simp[Z6]
 | o::os,h=>by
  have h1:=Di os fun x hx=>h x (List.mem_cons_of_mem _ hx)
  have h2:=EC (h o List.mem_cons_self)
  unfold Z6 at h1 ⊢
  rw[List.flatMap_cons];simp only[List.length_cons,List.length_append]at h1 ⊢
  omega
theorem KP(os:List F1)(h:∀o∈os,OV o):(x7 os).length≤os.length*32:=by
 cases os with
 | nil=>simp[x7]
 | cons o os=>
  have h1:=Di os fun x hx=>h x (List.mem_cons_of_mem _ hx)
  have h2:=EC (h o List.mem_cons_self)
  unfold x7;simp only[List.length_cons,List.length_append]
  omega
theorem IT(os:List F1):x7 os=Lib.join ((os.map e7).map F4) (F4 k0):=by
 cases os with
 | nil=>rfl
 | cons o os=>
  have e:∀o:F1,F4 (e7 o)=oL o:=fun o=>H6 _
  rw[List.map_cons,List.map_cons,Lib.join_cons,Fq e7 oL e,e];rfl
def K0(g:D6):ByteArray:=L5 (gL g)
theorem Hy(j:Int):(Q6.getD j.toNat C9).size≤2:=by
 have:∀k:Nat,(Q6.getD k C9).size≤2:=fun k=>by
  match k with
  | 0|1|2|3|4|5|6=>decide
  | k+7=>show (C9).size≤2;decide
 exact this _
theorem Lb{v:Int}(h:U8 v):(GO v).length≤23:=by
 unfold U8 at h;unfold GO;split
 ·simp
 split
 ·have:=Gh (u:=v.toNat) (by omega)
  simp only[List.length_cons];omega
 ·have:=Gh (u:=v.natAbs) (by omega)
  simp only[List.length_cons];omega
theorem JH{g:D6}(h:GV g)(ha:g.Args.length≤8):(gL g).length≤400:=by
 have hs:=h.shape
 have ho:=h.ops
 have hr:=h.rel
 unfold gL;split
 ·rename_i h3
  have h1:OV g.L:=ho _ (by unfold F6;simp[h3])
  have h2:OV g.R:=ho _ (by unfold F6;simp[h3])
  have:=EC h1
  have:=EC h2
  have:=Hy g.Op
  have:=G1 (Q6.getD g.Op.toNat C9)
  have:=Lb h.off
  simp only[List.length_cons,List.length_append];omega
 split
 ·rename_i h3 h4
  have h1:OV g.L:=ho _ (by unfold F6;simp[h4])
  have h2:g.L.Var.size≤24:=by
   rcases h1 with⟨q,-⟩|⟨q,-⟩
   ·rw[q];decide
   ·exact V5 q
  have:=G1 g.L.Var
  have:=CU h.low
  have:=CU h.high
  unfold DZ;simp only[List.length_cons,List.length_append];omega
 ·rename_i h3 h4
  have hat:E3 g=true:=by
   unfold P9 at hs;unfold E3;by_cases q:g.Kind=1∨g.Kind=2
   ·rcases q with q|q <;> simp[q]
   ·rw[if_neg q,if_neg h3,if_neg h4]at hs;cases hs
  have h1:=AJ (hr hat).1
  have h2:=KP g.Args fun o hx=>ho o (by
   have:F6 g=g.Args:=by
    unfold F6;unfold E3 at hat;simp only[Bool.or_eq_true,decide_eq_true_eq]at hat
    rw[if_pos hat]
   rw[this];exact hx)
  have:=G1 g.Rel
  have h5:(if g.Kind=2 then [110,111,116,32] else ([]:List UInt8)).length≤4:=by split <;> simp
  simp only[List.length_cons,List.length_append,List.length_nil]
  omega
theorem Kk{g:D6}(h:GV g)(ha:g.Args.length≤8):(K0 g).size≤400:=by unfold K0;rw[O9];exact JH h ha
theorem Gt(gs:List D6):T3 gs=Lib.join ((gs.map K0).map F4) (F4 k0):=by
 cases gs with
 | nil=>rfl
 | cons o os=>
  have e:∀o:D6,F4 (K0 o)=gL o:=fun o=>H6 _
  rw[List.map_cons,List.map_cons,Lib.join_cons,Fq K0 gL e,e];rfl
theorem Kr{ss:List ByteArray}(h:ss≠[]):BN ss=32::Lib.join (ss.map F4) (F4 k0):=by
 cases ss with
 | nil=>exact absurd rfl h
 | cons s ss=>
  have h1:=Fq (fun s:ByteArray=>s) F4 (fun _=>rfl) ss
  rw[List.map_id']at h1;rw[List.map_cons,Lib.join_cons,h1];rfl
theorem Ic{q:D3}(hv:T8 q=0):q.Goals.length≤16∧q.Sel.length≤8∧∀g∈q.Goals,E3 g=true→g.Args.length≤8:=by
 unfold T8 at hv;split at hv
 ·cases hv
 rename_i h1
 simp only[Bool.not_eq_false]at h1
 unfold AZ at h1;simp only[Bool.and_eq_true,decide_eq_true_eq]at h1
 refine⟨h1.1.1.1.2,h1.1.1.2,fun g hg ha=>?_⟩
 have:=List.all_eq_true.1 h1.1.2 g hg
 rw[ha]at this;simp only[Bool.not_true,Bool.false_or,Bool.and_eq_true,decide_eq_true_eq]at this
 exact this.2
theorem Jq{q:D3}(hq:QV q)(hv:T8 q=0){g:D6}(hg:g∈q.Goals):g.Args.length≤8:=by
 by_cases ha:E3 g=true
 ·exact(Ic hv).2.2 g hg ha
 have hs:=(hq.goals g hg).shape
 unfold P9 at hs;unfold E3 at ha;simp only[Bool.or_eq_true,decide_eq_true_eq]at ha
 rw[if_neg ha]at hs;split at hs
 ·simp only[Bool.and_eq_true,decide_eq_true_eq]at hs;omega
 split at hs
 ·simp only[Bool.and_eq_true,decide_eq_true_eq]at hs;omega
 ·cases hs
theorem Ll{q:D3}(hq:QV q)(hv:T8 q=0):(qL q).length≤7000:=by
 obtain⟨l1,l2,-⟩:=Ic hv
 have g1:∀gs:List D6,(∀g∈gs,g∈q.Goals)→(d4 gs).length≤gs.length*402:=by
  intro gs;induction gs with
  | nil=>intro _;simp[d4]
  | cons g gs ih=>
   intro h;have h1:=ih fun x hx=>h x (List.mem_cons_of_mem _ hx)
   have h2:=JH (hq.goals g (h g List.mem_cons_self)) (Jq hq hv (h g List.mem_cons_self))
   unfold d4 at h1 ⊢
   rw[List.flatMap_cons];simp only[List.length_cons,List.length_append]at h1 ⊢
   omega
 have g2:(T3 q.Goals).length≤6432:=by
  cases hg:q.Goals with
  | nil=>simp[T3]
  | cons g gs=>
   have h1:=g1 gs fun x hx=>by rw[hg];exact List.mem_cons_of_mem _ hx
   have hm:g∈q.Goals:=by rw[hg];exact List.mem_cons_self
   have h2:=JH (hq.goals g hm) (Jq hq hv hm)
   rw[hg,List.length_cons]at l1;unfold T3;rw[List.length_append];omega
 have s1:∀ss:List ByteArray,(∀s∈ss,s∈q.Sel)→(d3 ss).length≤ss.length*26:=by
  intro ss;induction ss with
  | nil=>intro _;simp[d3]
  | cons s ss ih=>
   intro h;have h1:=ih fun x hx=>h x (List.mem_cons_of_mem _ hx)
   have h2:=V5 (.inr (hq.sel s (h s List.mem_cons_self)))
   have h3:=G1 s
   unfold d3 at h1 ⊢
   rw[List.flatMap_cons];simp only[List.length_cons,List.length_append]at h1 ⊢
   omega
 have s2:(BN q.Sel).length≤216:=by
  cases hs:q.Sel with
  | nil=>simp[BN]
  | cons s ss=>
   have h1:=s1 ss fun x hx=>by rw[hs];exact List.mem_cons_of_mem _ hx
   have hm:s∈q.Sel:=by rw[hs];exact List.mem_cons_self
   have h2:=V5 (.inr (hq.sel s hm))
   have h3:=G1 s
   rw[hs,List.length_cons]at l2;unfold BN;simp only[List.length_cons,List.length_append]
   omega
 have e1:(F4 l8).length=6:=rfl
 have e2:(F4 F7).length=5:=rfl
 unfold qL;simp only[List.length_cons,List.length_append]
 omega
def N8(q:D3):ByteArray:=if T8 q=0 then L5 (qL q) else C9
theorem EM{q:D3}(ho:J2 q)(hv:T8 q=0):P6 (N8 q)=(q,⟨0,0⟩,0):=by
 have hq:=MR ho hv
 unfold N8;rw[if_pos hv];exact IK hq (by have:=Ll hq hv;omega)
theorem Ct{q:D3}(ho:J2 q):(N8 q).size≤7000:=by
 unfold N8;split
 ·rename_i hv
  rw[O9];exact Ll (MR ho hv) hv
 ·decide
end Go.Proofs.YtlimglpjpcfpdaaGreatDoor
end
section
open Go Mk
namespace Go.Proofs.YtlimglpjpcfpdaaGreatDoor
set_option maxHeartbeats 16000000
attribute [local irreducible] Calls cI cB
def p7:ByteArray:=⟨#[32]⟩
def Ew:ByteArray:=⟨#[32,105,110,32]⟩
def FS:ByteArray:=⟨#[32,46,46,32]⟩
def CS:ByteArray:=⟨#[32,43,32]⟩
def AD:ByteArray:=⟨#[32,45,32]⟩
def IZ:ByteArray:=⟨#[40]⟩
def QS:ByteArray:=⟨#[41]⟩
def JW:ByteArray:=⟨#[110,111,116,32]⟩
theorem Dt(n:Int):F4 (L8 n)=Lib.itoa n:=H6 _
theorem Iz(o:F1):F4 (e7 o)=oL o:=H6 _
theorem HG{v:Int}(h:0<v):Lib.itoa v=Lib.decDigits v.toNat:=by
 unfold Lib.itoa;rw[if_neg (by omega)]
def W4(g:D6):ByteArray:=(((e7 g.L++p7)++Q6.getD g.Op.toNat C9)++p7)++e7 g.R
theorem Hu{g:D6}(h:g.Kind=3)(ho:g.Off=0):K0 g=W4 g:=M6 (by
 unfold K0 gL W4;rw[if_pos h,show F4 (L5 _)=_ from H6 _];simp only[U2,Iz]
 unfold GO;rw[if_pos ho,List.append_nil];show _=(((oL g.L++[32])++_)++[32])++oL g.R
 simp[List.append_assoc])
theorem Is{g:D6}(h:g.Kind=3)(ho:0<g.Off):K0 g=W4 g++(CS++L8 g.Off):=M6 (by
 unfold K0 gL W4;rw[if_pos h,show F4 (L5 _)=_ from H6 _];simp only[U2,Iz,Dt]
 unfold GO;rw[if_neg (by omega),if_pos ho,HG ho]
 show _=((((oL g.L++[32])++_)++[32])++oL g.R)++([32,43,32]++_)
 simp[List.append_assoc])
theorem Ia{g:D6}(h:g.Kind=3)(ho:g.Off<0):K0 g=W4 g++(AD++L8 (-g.Off)):=M6 (by
 unfold K0 gL W4;rw[if_pos h,show F4 (L5 _)=_ from H6 _];simp only[U2,Iz,Dt]
 unfold GO;rw[if_neg (by omega),if_neg (by omega),HG (by omega),show (-g.Off).toNat=g.Off.natAbs from by omega]
 show _=((((oL g.L++[32])++_)++[32])++oL g.R)++([32,45,32]++_)
 simp[List.append_assoc])
theorem LK{g:D6}(h:g.Kind=4):K0 g=(((g.L.Var++Ew)++L8 g.Low)++FS)++L8 g.High:=M6 (by
 unfold K0 gL DZ;rw[if_neg (by omega),if_pos h,show F4 (L5 _)=_ from H6 _]
 simp only[U2,Dt]
 show _=(((_++[32,105,110,32])++_)++[32,46,46,32])++_
 simp[List.append_assoc])
def Cl(g:D6):ByteArray:=((g.Rel++IZ)++L3 (g.Args.map e7))++QS
theorem FE{g:D6}(h3:¬g.Kind=3)(h4:¬g.Kind=4):K0 g=if g.Kind=2 then JW++Cl g else Cl g:=M6 (by
 unfold K0 gL Cl;rw[if_neg h3,if_neg h4,show F4 (L5 _)=_ from H6 _,IT];have hj:F4 (L3 (g.Args.map e7))=Lib.join ((g.Args.map e7).map F4) (F4 k0):=by
  unfold L3;exact H6 _
 split
 ·simp only[U2,hj]
  show [110,111,116,32]++(F4 g.Rel++40::(_++[41]))=[110,111,116,32]++(((_++[40])++_)++[41])
  simp[List.append_assoc]
 ·simp only[U2,hj]
  show []++(F4 g.Rel++40::(_++[41]))=((_++[40])++_)++[41]
  simp[List.append_assoc])
theorem De{Γ:B5}[hT:AQ Γ]{v:Value}{xs:List ByteArray}(hr:D2 Γ v 1 (xs.map fun s=>[.string s]))(hl:xs.length≤1000)(hsz:∀x∈xs,x.size≤1000):PG Tryz.prog Γ 46 [v,.string k0] (.string (L3 xs)):=⟨fun S w hw=>MF xs hr.rdS hl hsz hw⟩
end Go.Proofs.YtlimglpjpcfpdaaGreatDoor
end
section
open Go Mk
namespace Go.Proofs.YtlimglpjpcfpdaaGreatDoor
set_option maxHeartbeats 32000000
attribute [local irreducible] Calls cI cB
theorem Dh:p7.size=1∧Ew.size=4∧FS.size=4∧CS.size=3∧AD.size=3∧IZ.size=1∧QS.size=1∧JW.size=4:=by decide
theorem JI{g:D6}(hL:OV g.L)(hR:OV g.R):(W4 g).size≤70:=by
 have h1:=BK hL
 have h2:=BK hR
 have h3:=Hy g.Op
 obtain⟨s1,-⟩:=Dh;unfold W4;rw[ByteArray.size_append,ByteArray.size_append,ByteArray.size_append,ByteArray.size_append];omega
theorem ET{o:F1}(h:OV o):o.Const.Word.size≤100000:=by
 rcases h with⟨-,hr,-⟩|⟨-,hz⟩
 ·exact KY hr
 ·rw[hz];decide
theorem Fy{Γ0:B5}[hT0:AQ Γ0]{x:E5}(hg:GV x.g)(hok:S5 x.g)(h8:x.g.Args.length≤8)(hx0:GB Γ0 x):PG Tryz.prog Γ0 47 [.agg (cG x).toArray] (.string (K0 x.g)):=R3 fun Γ w hle0 hw=>by
 have hx:=hx0.mono hle0
 haveI hT:AQ Γ:=hT0.mono hle0
 obtain⟨l1,l2,l3⟩:=hx.len;obtain⟨s1,s2,s3,s4,s5,s6,s7,s8⟩:=Dh;have hshape:=hg.shape
 have hops:=hg.ops
 have hoff:=hg.off
 have hlow:=hg.low
 have hhigh:=hg.high
 unfold U8 at hoff hlow hhigh;refine A5 Tryz.func47 rfl rfl ?_
 repeat first|refine C3 ?_|refine C4 ?_;intro w hw
 refine K4 ?_;intro b1 w hw;have hw:Wd Γ [.blk b1 (.cells (cG x).toArray 79)] w:=hw
 repeat first|refine C3 ?_|refine C4 ?_;intro w hw
 refine A0 rfl (fun h3=>?_) (fun h3=>?_)
 ·have h3:x.g.Kind=3:=of_decide_eq_true h3
  have hL:OV x.g.L:=hops _ (by unfold F6;simp[h3])
  have hR:OV x.g.R:=hops _ (by unfold F6;simp[h3])
  have hnum:1≤x.g.Op∧x.g.Op≤6∧x.g.Off≠-9223372036854775808:=by
   have:=hg.num
   unfold u1 at this;rw[if_pos h3]at this;simpa[and_assoc] using this
  obtain⟨j,hj⟩:∃j:Nat,x.g.Op=(j:Int):=⟨x.g.Op.toNat,by omega⟩
  obtain⟨o,ho⟩:∃o,Q6[j]? = some o:=B8 (l:=Q6) (by show j<7;omega)
  have hoe:Q6.getD x.g.Op.toNat C9=o:=by
   rw[hj,Int.toNat_natCast,List.getD_eq_getElem?_getD,ho];rfl
  have hos:o.size≤2:=by rw[←hoe];exact Hy _
  have pL:=w4 (Γ:=Γ) x.g.L hok.l (ET hL)
  have pR:=w4 (Γ:=Γ) x.g.R hok.r (ET hR)
  have zL:=BK hL
  have zR:=BK hR
  have zC:=JI hL hR
  have zi:=x5 hoff.1 hoff.2
  have zn:=x5 (n:=-x.g.Off) (by omega) (by omega)
  have pI:=l7 (Γ:=Γ) x.g.Off hoff.1 hoff.2
  have pN:=l7 (Γ:=Γ) (-x.g.Off) (by omega) (by omega)
  repeat first|refine C3 ?_|refine C4 ?_;intro w hw
  have hwX:Wd Γ ([.blk b1 (.cells (cG x).toArray 79)]++[]) w:=hw
  refine v8 [.blk b1 (.cells (cG x).toArray 79)] [] [16,19] [[],[],[],[],[0],[],[],[0],[0],[],[],[],[],[],[],[]] hwX ?_
  clear hwX hw;refine m4 ?_;refine Ru (v:=.string (e7 x.g.L)) (vs:=[.agg (enc x.g.L).toArray]) ?_ (hp:=pL)
  refine mY (v:=.string (e7 x.g.L++p7)) ?_ (hy:=fun Y w g hw=>J3 (a:=e7 x.g.L) (b:=p7) rfl rfl (by omega))
  refine Fw (v:=undef) (T':=Addr) (fun t g=>g 16=.slice (some t) 7 7) (fun t=>[.own (.slice (some t) 7 7) 9 1 (Q6.map fun s=>[.string s])]) (fun _ _=>[]) (fun t g w Y _ hw=>?_) ?_
  ·refine(Aj hw).mono ?_
   rintro r w' ⟨q,rfl,hw'⟩
   exact⟨_,rfl,q,rfl,(fun h=>by cases h),hw'⟩
  refine m4 ?_;refine Y0 (v:=undef) (T':=Addr) (fun t g=>g 19=.pointer (some ⟨aB (some t),aO (some t)+j*1,none⟩)) (fun t=>[.own (.slice (some t) 7 7) 9 1 (Q6.map fun s=>[.string s])]) (fun t g w Y ht hw=>?_) ?_
  ·have ht:g 16=.slice (some t) 7 7:=ht
   refine Yields.step (n3 (j:=0) (i:=(j:Int)) hw rfl ht (congrArg (Value.int .i64) hj) (by omega) (by omega)) ⟨t,?_,(fun h=>by cases h),hw⟩
   rfl
  refine Y0 (v:=.string o) (T':=Unit) (fun _ _=>True) (fun _=>[]) (fun t g w Y ht hw=>?_) ?_
  ·have ht:g 19=.pointer (some ⟨aB (some t),aO (some t)+j*1,none⟩):=ht
   refine Yields.step (G6 (k:=j) (u:=.string o) ht (hw.own_rd (i:=0) rfl) (A7 ho)) ⟨(),trivial,(fun _=>rfl),?_⟩
   exact hw.drop
  refine m4 ?_;refine mY (v:=.string ((e7 x.g.L++p7)++o)) ?_ (hy:=fun Y w g hw=>J3 (a:=(e7 x.g.L++p7)) (b:=o) rfl rfl (by rw[ByteArray.size_append];omega))
  refine mY (v:=.string (((e7 x.g.L++p7)++o)++p7)) ?_ (hy:=fun Y w g hw=>J3 (a:=((e7 x.g.L++p7)++o)) (b:=p7) rfl rfl (by rw[ByteArray.size_append,ByteArray.size_append];omega))
  refine m4 ?_;refine Ru (v:=.string (e7 x.g.R)) (vs:=[.agg (enc x.g.R).toArray]) ?_ (hp:=pR)
  refine mY (v:=.string (W4 x.g)) ?_ (hy:=fun Y w g hw=>by
   unfold W4;rw[hoe];exact J3 (a:=((e7 x.g.L++p7)++o)++p7) (b:=e7 x.g.R) rfl rfl (by rw[ByteArray.size_append,ByteArray.size_append,ByteArray.size_append];omega))
  refine m4 ?_;refine BG fun t w g _ hw=>?_
  have hw:Wd Γ [.blk b1 (.cells (cG x).toArray 79)] w:=hw
  refine Lo (l:=[(1,.pointer (some ⟨b1,0,none⟩)),(3,.string (W4 x.g))]) ⟨rfl,rfl,trivial⟩ fun ρ hρ=>?_
  rw[hρ.eq];clear hρ;repeat first|refine C3 ?_|refine C4 ?_;intro w hw
  refine A0 rfl (fun h=>?_) (fun h=>?_)
  ·have h:0<x.g.Off:=of_decide_eq_true h
   rw[Is h3 h];repeat first|refine C3 ?_|refine C4 ?_;intro w hw
   refine lY (v:=.string (CS++L8 x.g.Off)) ?_ (hy:=J3 (a:=CS) (b:=L8 x.g.Off) rfl rfl (by have:(⟨#[32,43,32]⟩:ByteArray).size=3:=rfl;omega))
   refine lY (v:=.string (W4 x.g++(CS++L8 x.g.Off))) ?_ (hy:=J3 (a:=W4 x.g) (b:=(CS++L8 x.g.Off)) rfl rfl (by rw[ByteArray.size_append];omega))
   repeat first|refine C3 ?_|refine C4 ?_;intro w hw
   exact⟨_,rfl,Γ,B5.le.refl _,rfl,G3 hw⟩
  have h:¬0<x.g.Off:=of_decide_eq_false h
  repeat first|refine C3 ?_|refine C4 ?_;intro w hw
  refine A0 rfl (fun h2=>?_) (fun h2=>?_)
  ·have h2:x.g.Off<0:=of_decide_eq_true h2
   rw[Ia h3 h2];repeat first|refine C3 ?_|refine C4 ?_;intro w hw
   refine lY (v:=.string (AD++L8 (-x.g.Off))) ?_ (hy:=J3 (a:=AD) (b:=L8 (-x.g.Off)) rfl rfl (by have:(⟨#[32,45,32]⟩:ByteArray).size=3:=rfl;omega))
   refine lY (v:=.string (W4 x.g++(AD++L8 (-x.g.Off)))) ?_ (hy:=J3 (a:=W4 x.g) (b:=(AD++L8 (-x.g.Off))) rfl rfl (by rw[ByteArray.size_append];omega))
   repeat first|refine C3 ?_|refine C4 ?_;intro w hw
   exact⟨_,rfl,Γ,B5.le.refl _,rfl,G3 hw⟩
  ·have h2:¬x.g.Off<0:=of_decide_eq_false h2
   rw[Hu h3 (by omega)]
   repeat first|refine C3 ?_|refine C4 ?_;intro w hw
   exact⟨_,rfl,Γ,B5.le.refl _,rfl,G3 hw⟩
 have h3:¬x.g.Kind=3:=of_decide_eq_false h3
 repeat first|refine C3 ?_|refine C4 ?_;intro w hw
 refine A0 rfl (fun h4=>?_) (fun h4=>?_)
 ·have h4:x.g.Kind=4:=of_decide_eq_true h4
  have hL:OV x.g.L:=hops _ (by unfold F6;simp[h4])
  have hLs:x.g.L.Var.size≤24:=by
   rcases hL with⟨q,-⟩|⟨q,-⟩
   ·rw[q];decide
   ·exact V5 q
  have zl:=x5 hlow.1 hlow.2
  have zh:=x5 hhigh.1 hhigh.2
  have pL:=l7 (Γ:=Γ) x.g.Low hlow.1 hlow.2
  have pH:=l7 (Γ:=Γ) x.g.High hhigh.1 hhigh.2
  rw[LK h4];repeat first|refine C3 ?_|refine C4 ?_;intro w hw
  refine K5 (by kernel_rfl) (by kernel_rfl) hw ?_
  refine Ef ?_;refine qY (v:=.string (x.g.L.Var++Ew)) ?_ (hy:=fun w hw=>J3 (a:=x.g.L.Var) (b:=Ew) rfl rfl (by have:(⟨#[32,105,110,32]⟩:ByteArray).size=4:=rfl;omega))
  refine Ef ?_;refine qY (v:=.string ((x.g.L.Var++Ew)++L8 x.g.Low)) ?_ (hy:=fun w hw=>J3 (a:=(x.g.L.Var++Ew)) (b:=L8 x.g.Low) rfl rfl (by rw[ByteArray.size_append];omega))
  refine qY (v:=.string (((x.g.L.Var++Ew)++L8 x.g.Low)++FS)) ?_ (hy:=fun w hw=>J3 (a:=((x.g.L.Var++Ew)++L8 x.g.Low)) (b:=FS) rfl rfl (by have:(⟨#[32,46,46,32]⟩:ByteArray).size=4:=rfl;rw[ByteArray.size_append,ByteArray.size_append];omega))
  refine Ef ?_;refine qY (v:=.string ((((x.g.L.Var++Ew)++L8 x.g.Low)++FS)++L8 x.g.High)) ?_ (hy:=fun w hw=>J3 (a:=(((x.g.L.Var++Ew)++L8 x.g.Low)++FS)) (b:=L8 x.g.High) rfl rfl (by rw[ByteArray.size_append,ByteArray.size_append,ByteArray.size_append];omega))
  refine Ef ?_;clear hw;intro w hw;repeat first|refine C3 ?_|refine C4 ?_;intro w hw
  exact⟨_,rfl,Γ,B5.le.refl _,rfl,G3 hw⟩
 have h4:¬x.g.Kind=4:=of_decide_eq_false h4
 have hat:E3 x.g=true:=by
  unfold P9 at hshape;unfold E3;by_cases q:x.g.Kind=1∨x.g.Kind=2
  ·rcases q with q|q <;> simp[q]
  ·rw[if_neg q,if_neg h3,if_neg h4]at hshape;cases hshape
 have hrelS:=AJ (hg.rel hat).1
 have hOV:∀o∈x.g.Args,OV o:=fun o ho=>hops o (by
  have:F6 x.g=x.g.Args:=by
   unfold F6;unfold E3 at hat;simp only[Bool.or_eq_true,decide_eq_true_eq]at hat
   rw[if_pos hat]
  rw[this];exact ho)
 have hrep:D2 Γ x.hdr 4 (x.g.Args.map enc):=hx
 unfold E5.hdr at hrep;repeat first|refine C3 ?_|refine C4 ?_;intro w hw
 refine Aq (len:=x.N) ?_
 intro a4 w hw;have hw:Wd Γ [.own (.slice (some a4) x.N x.N) 9 1 (A3 (List.replicate x.N C9)),.blk b1 (.cells (cG x).toArray 79)] w:=by
  unfold A3;rw[List.map_replicate];exact hw
 repeat first|refine C3 ?_|refine C4 ?_;intro w hw
 refine Mg (fun ρ w=>∃ss:List ByteArray,Has ρ [(1,.pointer (some ⟨b1,0,none⟩)),(4,.slice (some a4) x.N x.N)]∧ss=x.g.Args.map e7∧Wd Γ [.own (.slice (some a4) x.N x.N) 9 1 (A3 ss),.blk b1 (.cells (cG x).toArray 79)] w) ?_ ?_
 ·repeat first|refine C3 ?_|refine C4 ?_;intro w hw
  refine C7 (fun μ ρ w=>∃(j:Nat) (ss:List ByteArray),μ+j=x.N∧Has ρ [(1,.pointer (some ⟨b1,0,none⟩)),(4,.slice (some a4) x.N x.N),(69,.slice x.A x.N x.C),(70,.int .i64 x.N),(71,.int .i64 j)]∧ss.length=x.N∧ss.take j=(x.g.Args.take j).map e7∧Wd Γ [.own (.slice (some a4) x.N x.N) 9 1 (A3 ss),.blk b1 (.cells (cG x).toArray 79)] w) x.N ⟨0,List.replicate x.N C9,by omega,⟨rfl,rfl,rfl,rfl,rfl,trivial⟩,by simp,by simp,hw⟩ ?_
  clear hw;rintro μ ρ w ⟨j,ss,hj,hρ,hsl,hst,hw⟩
  rw[hρ.eq];clear hρ;repeat first|refine C3 ?_|refine C4 ?_;intro w hw
  refine A0 rfl (fun h=>?_) (fun h=>?_)
  ·have hjn:j<x.N:=by have:=of_decide_eq_true h;omega
   clear h;obtain⟨o,ho⟩:=B8 (l:=x.g.Args) (k:=j) (by omega)
   have hom:=List.mem_of_getElem? ho
   have pO:=w4 (Γ:=Γ) o (hok.args o hom) (ET (hOV o hom))
   repeat first|refine C3 ?_|refine C4 ?_;intro w hw
   refine B4 ?_;intro b6 w hw;repeat first|refine C3 ?_|refine C4 ?_;intro w hw
   refine B0 ?_;intro w hw;have hw:Wd Γ [.blk b6 (.cells (enc o).toArray 77),.own (.slice (some a4) x.N x.N) 9 1 (A3 ss),.blk b1 (.cells (cG x).toArray 79)] w:=hw
   repeat first|refine C3 ?_|refine C4 ?_;intro w hw
   refine Bq (i:=1) ?_
   intro w hw;have hw:Wd Γ [.blk b6 (.cells (enc o).toArray 77),.own (.slice (some a4) x.N x.N) 9 1 ((A3 ss).set j [.string (e7 o)]),.blk b1 (.cells (cG x).toArray 79)] w:=hw
   rw[show (A3 ss).set j [.string (e7 o)]=A3 (ss.set j (e7 o)) from by unfold A3;rw[List.map_set]]at hw
   repeat first|refine C3 ?_|refine C4 ?_;intro w hw
   refine⟨μ-1,by omega,j+1,ss.set j (e7 o),by omega,⟨rfl,rfl,rfl,rfl,rfl,trivial⟩,by rw[List.length_set];exact hsl,?_,hw.drop⟩
   rw[List.take_add_one,List.take_set_of_le (Nat.le_refl _),hst,List.getElem?_set_self (by omega),List.take_add_one,ho,List.map_append];rfl
  ·have hjn:¬j<x.N:=by have:=of_decide_eq_false h;omega
   rw[List.take_of_length_le (by omega),List.take_of_length_le (by omega)]at hst
   repeat first|refine C3 ?_|refine C4 ?_;intro w hw
   exact⟨ss,⟨rfl,rfl,trivial⟩,hst,hw⟩
 clear hw;rintro ρ w ⟨ss,hρ,hss,hw⟩
 rw[hρ.eq];clear hρ;subst hss;obtain⟨Γ1,hle1,hfr,hw⟩:=hw.freeze;haveI hT1:AQ Γ1:=hT.mono hle1
 have hsz:∀s∈x.g.Args.map e7,s.size≤30:=fun s hs=>by
  obtain⟨o,ho,rfl⟩:=List.mem_map.1 hs
  exact BK (hOV o ho)
 have pJ:=De hfr (by rw[List.length_map];omega) (fun s hs=>Nat.le_trans (hsz s hs) (by decide))
 have zJ:(L3 (x.g.Args.map e7)).size≤8016:=by
  have:=Bf (x.g.Args.map e7) (fun s hs=>Nat.le_trans (hsz s hs) (by decide))
  rw[List.length_map]at this;omega
 have zR:(Cl x.g).size≤8100:=by
  unfold Cl;rw[ByteArray.size_append,ByteArray.size_append,ByteArray.size_append];omega
 repeat first|refine C3 ?_|refine C4 ?_;intro w hw
 refine K5 (by kernel_rfl) (by kernel_rfl) hw ?_
 refine Ef ?_;refine qY (v:=.string (x.g.Rel++IZ)) ?_ (hy:=fun w hw=>J3 (a:=x.g.Rel) (b:=IZ) rfl rfl (by have:(⟨#[40]⟩:ByteArray).size=1:=rfl;omega))
 refine Ef ?_;refine MG (v:=.string (L3 (x.g.Args.map e7))) (vs:=[.slice (some a4) x.N x.N,.string k0]) ?_ (hp:=pJ)
 refine qY (v:=.string ((x.g.Rel++IZ)++L3 (x.g.Args.map e7))) ?_ (hy:=fun w hw=>J3 (a:=(x.g.Rel++IZ)) (b:=L3 (x.g.Args.map e7)) rfl rfl (by rw[ByteArray.size_append];omega))
 refine qY (v:=.string (Cl x.g)) ?_ (hy:=fun w hw=>J3 (a:=(x.g.Rel++IZ)++L3 (x.g.Args.map e7)) (b:=QS) rfl rfl (by have:(⟨#[41]⟩:ByteArray).size=1:=rfl;rw[ByteArray.size_append,ByteArray.size_append];omega))
 refine Ef ?_;clear hw;intro w hw;repeat first|refine C3 ?_|refine C4 ?_;intro w hw
 refine A0 rfl (fun h2=>?_) (fun h2=>?_)
 ·have h2:x.g.Kind=2:=of_decide_eq_true h2
  rw[FE h3 h4,if_pos h2];repeat first|refine C3 ?_|refine C4 ?_;intro w hw
  refine lY (v:=.string (JW++Cl x.g)) ?_ (hy:=J3 (a:=JW) (b:=Cl x.g) rfl rfl (by have:(⟨#[110,111,116,32]⟩:ByteArray).size=4:=rfl;omega))
  repeat first|refine C3 ?_|refine C4 ?_;intro w hw
  exact⟨_,rfl,Γ1,hle1,rfl,G3 hw⟩
 ·have h2:¬x.g.Kind=2:=of_decide_eq_false h2
  rw[FE h3 h4,if_neg h2];repeat first|refine C3 ?_|refine C4 ?_;intro w hw
  exact⟨_,rfl,Γ1,hle1,rfl,G3 hw⟩
end Go.Proofs.YtlimglpjpcfpdaaGreatDoor
end
section
open Go Mk
namespace Go.Proofs.YtlimglpjpcfpdaaGreatDoor
set_option maxHeartbeats 32000000
attribute [local irreducible] Calls cI cB
def AF:ByteArray:=⟨#[32,119,104,101,114,101,32]⟩
def U7(ss:List ByteArray):ByteArray:=if 0<ss.length then l8++(p7++L3 ss) else l8
theorem Kh(ss:List ByteArray):F4 (U7 ss)=F4 l8++BN ss:=by
 unfold U7;split
 ·rename_i h
  have hne:ss≠[]:=fun q=>by rw[q]at h;exact absurd h (by decide)
  rw[Kr hne,U2,U2,show F4 (L3 ss)=Lib.join (ss.map F4) (F4 k0) from H6 _];rfl
 ·rename_i h
  have hn:ss=[]:=List.length_eq_zero_iff.1 (by omega)
  rw[hn];show _=F4 l8++[]
  rw[List.append_nil]
theorem Kv{q:D3}(hv:T8 q=0):N8 q=(U7 q.Sel++AF)++L3 (q.Goals.map K0):=M6 (by
 unfold N8 qL;rw[if_pos hv,show F4 (L5 _)=_ from H6 _,U2,U2,Kh,show F4 (L3 (q.Goals.map K0))=Lib.join ((q.Goals.map K0).map F4) (F4 k0) from H6 _,←Gt];show _=((_++_)++[32,119,104,101,114,101,32])++_
 have e:F4 F7=[119,104,101,114,101]:=rfl
 rw[e];simp[List.append_assoc])
theorem Dd{q:D3}(hv:¬T8 q=0):N8 q=C9:=by unfold N8;rw[if_neg hv]
theorem FO{Γ0:B5}[hT0:AQ Γ0]{vs vg:Value}{gs:List E5}{q:D3}(hq0:QR Γ0 vs vg gs q)(hok:J2 q):PG Tryz.prog Γ0 11 [.agg #[vs,vg]] (.string (N8 q)):=R3 fun Γ w hle0 hw=>by
 have hq:=hq0.mono hle0
 haveI hT:AQ Γ:=hT0.mono hle0
 obtain⟨ga,gn,gc,rfl,hgn,hgnc,hgc⟩:=hq.goals.shape;obtain⟨sa,sn,sc,rfl,hsn,hsnc,hsc⟩:=hq.sel.shape;simp only[List.length_map]at hgn hsn
 have hnl:=hq.nlen
 have pV:=U9 hq hok
 refine A5 Tryz.func11 rfl rfl ?_
 repeat first|refine C3 ?_|refine C4 ?_;intro w hw
 refine K4 ?_;intro b1 w hw;have hw:Wd Γ [.blk b1 (.cells #[.slice sa sn sc,.slice ga gn gc] 25)] w:=hw
 repeat first|refine C3 ?_|refine C4 ?_;intro w hw
 refine A0 rfl (fun h=>?_) (fun h=>?_)
 ·have h:¬T8 q=0:=of_decide_eq_true h
  rw[Dd h];repeat first|refine C3 ?_|refine C4 ?_;intro w hw
  exact⟨_,rfl,Γ,B5.le.refl _,rfl,G3 hw⟩
 have hv:T8 q=0:=by have:=of_decide_eq_false h;exact Classical.not_not.1 this
 clear h;have hQ:=MR hok hv
 obtain⟨m1,m2,m3⟩:=Ic hv
 rw[Kv hv];have hss:∀s∈q.Sel,s.size≤24:=fun s hs=>V5 (.inr (hQ.sel s hs))
 have pS:=De hq.sel (by omega) (fun s hs=>Nat.le_trans (hss s hs) (by decide))
 have zS:(L3 q.Sel).size≤8016:=by
  have:=Bf q.Sel (fun s hs=>Nat.le_trans (hss s hs) (by decide))
  omega
 obtain⟨s1,-⟩:=Dh;have z6:l8.size=6:=rfl
 have z7:AF.size=7:=rfl
 have zQ:(U7 q.Sel).size≤8100:=by
  unfold U7;split
  ·rw[ByteArray.size_append,ByteArray.size_append];omega
  ·omega
 repeat first|refine C3 ?_|refine C4 ?_;intro w hw
 refine CQ (fun ρ w=>Has ρ [(1,.pointer (some ⟨b1,0,none⟩)),(3,.string (U7 q.Sel))]∧Wd Γ [.blk b1 (.cells #[.slice sa sn sc,.slice ga gn gc] 25)] w) ?_ ?_
 ·refine A0 rfl (fun h=>?_) (fun h=>?_)
  ·have h:0<sn:=by have:=of_decide_eq_true h;omega
   have e:U7 q.Sel=l8++(p7++L3 q.Sel):=by unfold U7;rw[if_pos (by omega)]
   rw[e];repeat first|refine C3 ?_|refine C4 ?_;intro w hw
   refine QZ (v:=.string (L3 q.Sel)) (vs:=[.slice sa sn sc,.string k0]) ?_ (hp:=pS)
   intro w hw;refine lY (v:=.string (p7++L3 q.Sel)) ?_ (hy:=J3 (a:=p7) (b:=L3 q.Sel) rfl rfl (by omega))
   refine lY (v:=.string (l8++(p7++L3 q.Sel))) ?_ (hy:=J3 (a:=l8) (b:=p7++L3 q.Sel) rfl rfl (by rw[ByteArray.size_append];omega))
   repeat first|refine C3 ?_|refine C4 ?_;intro w hw
   exact⟨⟨rfl,rfl,trivial⟩,hw⟩
  ·have h:¬0<sn:=by have:=of_decide_eq_false h;omega
   have e:U7 q.Sel=l8:=by unfold U7;rw[if_neg (by omega)]
   rw[e];repeat first|refine C3 ?_|refine C4 ?_;intro w hw
   exact⟨⟨rfl,rfl,trivial⟩,hw⟩
 clear hw;rintro ρ w ⟨hρ,hw⟩
 rw[hρ.eq];clear hρ;repeat first|refine C3 ?_|refine C4 ?_;intro w hw
 refine Aq (len:=gn) ?_
 intro a4 w hw;have hw:Wd Γ [.own (.slice (some a4) gn gn) 9 1 (A3 (List.replicate gn C9)),.blk b1 (.cells #[.slice sa sn sc,.slice ga gn gc] 25)] w:=by
  unfold A3;rw[List.map_replicate];exact hw
 repeat first|refine C3 ?_|refine C4 ?_;intro w hw
 refine Mg (fun ρ w=>∃ts:List ByteArray,Has ρ [(3,.string (U7 q.Sel)),(4,.slice (some a4) gn gn)]∧ts=q.Goals.map K0∧Wd Γ [.own (.slice (some a4) gn gn) 9 1 (A3 ts),.blk b1 (.cells #[.slice sa sn sc,.slice ga gn gc] 25)] w) ?_ ?_
 ·have hrg:=hq.goals
  repeat first|refine C3 ?_|refine C4 ?_;intro w hw
  refine C7 (fun μ ρ w=>∃(j:Nat) (ts:List ByteArray),μ+j=gn∧Has ρ [(3,.string (U7 q.Sel)),(4,.slice (some a4) gn gn),(25,.slice ga gn gc),(26,.int .i64 gn),(27,.int .i64 j)]∧ts.length=gn∧ts.take j=(q.Goals.take j).map K0∧Wd Γ [.own (.slice (some a4) gn gn) 9 1 (A3 ts),.blk b1 (.cells #[.slice sa sn sc,.slice ga gn gc] 25)] w) gn ⟨0,List.replicate gn C9,by omega,⟨rfl,rfl,rfl,rfl,rfl,trivial⟩,by simp,by simp,hw⟩ ?_
  clear hw;rintro μ ρ w ⟨j,ts,hj,hρ,htl,hst,hw⟩
  rw[hρ.eq];clear hρ;repeat first|refine C3 ?_|refine C4 ?_;intro w hw
  refine A0 rfl (fun h=>?_) (fun h=>?_)
  ·have hjn:j<gn:=by have:=of_decide_eq_true h;omega
   clear h;obtain⟨x,hx⟩:=B8 (l:=gs) (k:=j) (by omega)
   have hxm:=List.mem_of_getElem? hx
   have hxq:=hq.get hx
   have hgm:=List.mem_of_getElem? hxq
   have pO:=Fy (Γ0:=Γ) (hQ.goals x.g hgm) (hok.goals x.g hgm) (Jq hQ hv hgm) (hq.ok x hxm)
   repeat first|refine C3 ?_|refine C4 ?_;intro w hw
   refine B4 ?_;intro b6 w hw;repeat first|refine C3 ?_|refine C4 ?_;intro w hw
   refine B0 ?_;intro w hw;have hw:Wd Γ [.blk b6 (.cells (cG x).toArray 79),.own (.slice (some a4) gn gn) 9 1 (A3 ts),.blk b1 (.cells #[.slice sa sn sc,.slice ga gn gc] 25)] w:=hw
   repeat first|refine C3 ?_|refine C4 ?_;intro w hw
   refine Bq (i:=1) ?_
   intro w hw;have hw:Wd Γ [.blk b6 (.cells (cG x).toArray 79),.own (.slice (some a4) gn gn) 9 1 ((A3 ts).set j [.string (K0 x.g)]),.blk b1 (.cells #[.slice sa sn sc,.slice ga gn gc] 25)] w:=hw
   rw[show (A3 ts).set j [.string (K0 x.g)]=A3 (ts.set j (K0 x.g)) from by unfold A3;rw[List.map_set]]at hw
   repeat first|refine C3 ?_|refine C4 ?_;intro w hw
   refine⟨μ-1,by omega,j+1,ts.set j (K0 x.g),by omega,⟨rfl,rfl,rfl,rfl,rfl,trivial⟩,by rw[List.length_set];exact htl,?_,hw.drop⟩
   rw[List.take_add_one,List.take_set_of_le (Nat.le_refl _),hst,List.getElem?_set_self (by omega),List.take_add_one,hxq,List.map_append];rfl
  ·have hjn:¬j<gn:=by have:=of_decide_eq_false h;omega
   rw[List.take_of_length_le (by omega),List.take_of_length_le (by omega)]at hst
   repeat first|refine C3 ?_|refine C4 ?_;intro w hw
   exact⟨ts,⟨rfl,rfl,trivial⟩,hst,hw⟩
 clear hw;rintro ρ w ⟨ts,hρ,hts,hw⟩
 rw[hρ.eq];clear hρ;subst hts;obtain⟨Γ1,hle1,hfr,hw⟩:=hw.freeze;haveI hT1:AQ Γ1:=hT.mono hle1
 have hsz:∀s∈q.Goals.map K0,s.size≤400:=fun s hs=>by
  obtain⟨g,hg,rfl⟩:=List.mem_map.1 hs
  exact Kk (hQ.goals g hg) (Jq hQ hv hg)
 have pJ:=De hfr (by rw[List.length_map];omega) (fun s hs=>Nat.le_trans (hsz s hs) (by decide))
 have zJ:(L3 (q.Goals.map K0)).size≤17000:=by
  have:=Bf (q.Goals.map K0) (fun s hs=>Nat.le_trans (hsz s hs) (by decide))
  rw[List.length_map]at this;omega
 repeat first|refine C3 ?_|refine C4 ?_;intro w hw
 refine lY (v:=.string (U7 q.Sel++AF)) ?_ (hy:=J3 (a:=U7 q.Sel) (b:=AF) rfl rfl (by omega))
 repeat first|refine C3 ?_|refine C4 ?_;intro w hw
 refine QZ (v:=.string (L3 (q.Goals.map K0))) (vs:=[.slice (some a4) gn gn,.string k0]) ?_ (hp:=pJ)
 intro w hw;refine lY (v:=.string ((U7 q.Sel++AF)++L3 (q.Goals.map K0))) ?_ (hy:=J3 (a:=U7 q.Sel++AF) (b:=L3 (q.Goals.map K0)) rfl rfl (by rw[ByteArray.size_append];omega))
 repeat first|refine C3 ?_|refine C4 ?_;intro w hw
 exact⟨_,rfl,Γ1,hle1,rfl,G3 hw⟩
end Go.Proofs.YtlimglpjpcfpdaaGreatDoor
end
section
open Go Mk
namespace Go.Proofs.YtlimglpjpcfpdaaGreatDoor
set_option maxHeartbeats 4000000
theorem Iu{s:ByteArray}:(D4 s).1.length≤s.size:=by
 unfold D4;split
 ·simp
 ·have:=j5 (s:=s) (f:=s.size+1) (off:=0) (acc:=[]) (Nat.zero_le _)
  simpa using this
section
variable {toks:List Tok}{e:F8}
theorem BX{k k':Nat}{s:ByteArray}(h:R1 toks e k=.ok (s,k')):s.size≤24:=by
 unfold R1 at h;split at h
 ·split at h
  ·rename_i h2
   cases h
   exact h2
  ·cases h
 ·cases h
theorem Dc{k k':Nat}{v:Int}(h:u5 toks e k=.ok (v,k')):U8 v:=by
 unfold u5 at h;split at h
 ·obtain⟨z,-,rfl⟩:=I8 h
  exact y9 _
 ·obtain⟨z,-,rfl⟩:=I8 h
  exact y9 _
theorem Jd:Y5 H2:=⟨⟨by decide,by decide⟩,by decide⟩
theorem JG:U5 E0:=⟨by decide,Jd⟩
theorem Dw{k k':Nat}{o:F1}(h:ER toks e k=.ok (o,k')):U5 o:=by
 have z0:C9.size≤9223372036854775807:=by decide
 unfold ER at h;split at h
 ·obtain⟨s,hs,rfl⟩:=I8 h
  have h1:=BX hs
  unfold BI;split
  ·exact⟨by show s.size≤_;omega,Jd⟩
  ·exact⟨z0,⟨by show (-9223372036854775808:Int)≤0;decide,by show (0:Int)≤9223372036854775807;decide⟩,by show s.size≤_;omega⟩
 split at h
 ·split at h
  ·cases h
  ·rename_i h2
   cases h
   have h3:(B3 toks k).Text.size≤24:=by omega
   exact⟨z0,⟨by show (-9223372036854775808:Int)≤0;decide,by show (0:Int)≤9223372036854775807;decide⟩,by show (B3 toks k).Text.size≤_;omega⟩
 ·obtain⟨v,hv,rfl⟩:=I8 h
  exact⟨z0,Dc hv,z0⟩
theorem He:∀(f:Nat) {acc os:List F1} {k k':Nat},(∀o∈acc,U5 o)→Z0 toks e f acc k=.ok (os,k')→(∀o∈os,U5 o)∧os.length*2+k≤acc.length*2+k'
 | 0,acc,os,k,k',ha,h=>by
  unfold Z0 at h;cases h
  exact⟨ha,Nat.le_refl _⟩
 | f+1,acc,os,k,k',ha,h=>by
  unfold Z0 at h;split at h
  ·obtain⟨o,k1,h1,h2⟩:=D5 h
   have h3:=Aw h1
   have h4:=He f (acc:=acc++[o]) (by
    intro x hx;rcases List.mem_append.1 hx with hx|hx
    ·exact ha x hx
    ·rw[List.mem_singleton.1 hx];exact Dw h1) h2
   refine⟨h4.1,?_⟩
   have h5:=h4.2
   rw[List.length_append,List.length_singleton]at h5;omega
  ·cases h
   exact⟨ha,Nat.le_refl _⟩
theorem JP{kind:Int}{k k':Nat}{g:D6}(hN:toks.length≤2000)(h:EO toks e kind k=.ok (g,k')):S5 g∧k'≤toks.length:=by
 unfold EO at h;obtain⟨s,k1,h1,h⟩:=D5 h
 obtain⟨_,k2,h2,h⟩:=D5 h
 obtain⟨o,k3,h3,h⟩:=D5 h
 obtain⟨os,k4,h4,h⟩:=D5 h
 obtain⟨_,k5,h5,h⟩:=D5 h
 cases h
 have hs:=BX h1
 have ho:=Dw h3
 obtain⟨ha,hl⟩:=He _ (acc:=[o]) (fun x hx=>by rw[List.mem_singleton.1 hx];exact ho) h4
 have h6:=DT h5
 have h7:k4<toks.length:=by
  unfold o9 at h5;split at h5
  ·rename_i q;exact U4 (by decide) q
  ·cases h5
 rw[List.length_singleton]at hl;have z0:U8 0:=⟨by decide,by decide⟩
 exact⟨⟨by show s.size≤_;omega,by show os.length≤1000;omega,ha,JG,JG,z0,z0,z0⟩,by omega⟩
theorem PD{k k':Nat}{v:Int}(h:u5 toks e k=.ok (v,k')):k'≤toks.length:=by
 have num:∀ {most:Int} {j j':Nat} {v:Int},Y3 toks e most j=.ok (v,j')→j'≤toks.length:=fun {most j j' v} h=>by
  have h1:=V2 h
  unfold Y3 at h;split at h
  ·rename_i h2
   have:=W8 (toks:=toks) (at':=j) (by rw[h2];decide)
   omega
  ·cases h
 unfold u5 at h;split at h
 ·obtain⟨z,hz,-⟩:=I8 h
  exact num hz
 ·obtain⟨z,hz,-⟩:=I8 h
  exact num hz
theorem OJ{l:F1}{k k':Nat}{g:D6}(hl:U5 l)(h:HH toks e l k=.ok (g,k')):S5 g∧k'≤toks.length:=by
 unfold HH at h;obtain⟨lo,k1,h1,h⟩:=D5 h
 obtain⟨_,k2,h2,h⟩:=D5 h
 obtain⟨hi,k3,h3,h⟩:=D5 h
 cases h
 have z0:U8 0:=⟨by decide,by decide⟩
 exact⟨⟨by show C9.size≤_;decide,by show 0≤1000;decide,fun x hx=>(by cases hx),hl,JG,z0,Dc h1,Dc h3⟩,PD h3⟩
theorem Oo{k k':Nat}{v:Int}(hk:k≤toks.length)(h:Hh toks e k=.ok (v,k')):U8 v∧k'≤toks.length:=by
 have num:∀ {most:Int} {j j':Nat} {v:Int},Y3 toks e most j=.ok (v,j')→j'≤toks.length:=fun {most j j' v} h=>by
  have h1:=V2 h
  unfold Y3 at h;split at h
  ·rename_i h2
   have:=W8 (toks:=toks) (at':=j) (by rw[h2];decide)
   omega
  ·cases h
 unfold Hh at h;split at h
 ·obtain⟨z,hz,rfl⟩:=I8 h
  exact⟨y9 _,num hz⟩
 split at h
 ·obtain⟨z,hz,rfl⟩:=I8 h
  exact⟨y9 _,num hz⟩
 ·cases h
  exact⟨⟨by decide,by decide⟩,hk⟩
theorem ON{l:F1}{k k':Nat}{g:D6}(hl:U5 l)(h:HJ toks e l k=.ok (g,k')):S5 g∧k'≤toks.length:=by
 unfold HJ at h;split at h
 ·cases h
 obtain⟨r,k1,h1,h⟩:=D5 h
 obtain⟨o,k2,h2,h⟩:=D5 h
 cases h
 obtain⟨h3,h4⟩:=Oo (Hz h1) h2
 have z0:U8 0:=⟨by decide,by decide⟩
 exact⟨⟨by show C9.size≤_;decide,by show 0≤1000;decide,fun x hx=>(by cases hx),hl,Dw h1,h3,z0,z0⟩,h4⟩
theorem Gc{k k':Nat}{g:D6}(hN:toks.length≤2000)(h:S0 toks e k=.ok (g,k')):S5 g∧k'≤toks.length:=by
 unfold S0 at h;split at h
 ·exact JP hN h
 split at h
 ·exact JP hN h
 obtain⟨l,k1,h1,h⟩:=D5 h
 split at h
 ·exact OJ (Dw h1) h
 ·exact ON (Dw h1) h
theorem FX:∀(f:Nat) {acc os:List ByteArray} {k k':Nat},k≤toks.length→(∀o∈acc,o.size≤24)→W7 toks e f acc k=.ok (os,k')→(∀o∈os,o.size≤24)∧os.length*2+k≤acc.length*2+k'∧k'≤toks.length
 | 0,acc,os,k,k',hk,ha,h=>by
  unfold W7 at h;cases h
  exact⟨ha,Nat.le_refl _,hk⟩
 | f+1,acc,os,k,k',hk,ha,h=>by
  unfold W7 at h;split at h
  ·obtain⟨o,k1,h1,h2⟩:=D5 h
   have h3:=W9 h1
   have h4:=FX f (acc:=acc++[o]) (Bm h1) (by
    intro x hx;rcases List.mem_append.1 hx with hx|hx
    ·exact ha x hx
    ·rw[List.mem_singleton.1 hx];exact BX h1) h2
   refine⟨h4.1,?_,h4.2.2⟩
   have h5:=h4.2.1
   rw[List.length_append,List.length_singleton]at h5;omega
  ·cases h
   exact⟨ha,Nat.le_refl _,hk⟩
theorem FB(hN:toks.length≤2000):∀(f:Nat) {acc os:List D6} {k k':Nat},k≤toks.length→(∀o∈acc,S5 o)→W3 toks e f acc k=.ok (os,k')→(∀o∈os,S5 o)∧os.length*2+k≤acc.length*2+k'∧k'≤toks.length
 | 0,acc,os,k,k',hk,ha,h=>by
  unfold W3 at h;cases h
  exact⟨ha,Nat.le_refl _,hk⟩
 | f+1,acc,os,k,k',hk,ha,h=>by
  unfold W3 at h;split at h
  ·obtain⟨o,k1,h1,h2⟩:=D5 h
   have h3:=Dx h1
   have h0:=Gc hN h1
   have h4:=FB hN f (acc:=acc++[o]) h0.2 (by
    intro x hx;rcases List.mem_append.1 hx with hx|hx
    ·exact ha x hx
    ·rw[List.mem_singleton.1 hx];exact h0.1) h2
   refine⟨h4.1,?_,h4.2.2⟩
   have h5:=h4.2.1
   rw[List.length_append,List.length_singleton]at h5;omega
  ·cases h
   exact⟨ha,Nat.le_refl _,hk⟩
theorem LI{k:Nat}{q:D3}(hN:toks.length≤2000)(h:X5 toks e 0=.ok (q,k)):J2 q:=by
 unfold X5 at h;obtain⟨_,k1,h1,h⟩:=D5 h
 obtain⟨sel,k2,h2,h⟩:=D5 h
 unfold Jn at h;obtain⟨_,k3,h3,h⟩:=D5 h
 obtain⟨g,k4,h4,h⟩:=D5 h
 obtain⟨gs,k5,h5,h⟩:=D5 h
 split at h
 ·cases h
 cases h
 have hs:(∀s∈sel,s.size≤24)∧sel.length≤1000:=by
  unfold Kt at h2;split at h2
  ·cases h2
   exact⟨fun s hs=>(by cases hs),by simp⟩
  ·obtain⟨s,k6,h6,h7⟩:=D5 h2
   have h8:=FX _ (acc:=[s]) (Bm h6) (fun x hx=>by rw[List.mem_singleton.1 hx];exact BX h6) h7
   have h9:=W9 h6
   refine⟨h8.1,?_⟩
   have:=h8.2
   rw[List.length_singleton]at this;omega
 have h6:=Gc hN h4
 have h7:=FB hN _ (acc:=[g]) h6.2 (fun x hx=>by rw[List.mem_singleton.1 hx];exact h6.1) h5
 have h8:=Dx h4
 refine⟨hs.2,fun s h=>?_,?_,h7.1⟩
 ·have:=hs.1 s h;omega
 ·have:=h7.2
  rw[List.length_singleton]at this;show gs.length≤1000
  omega
end
theorem Kw{s:ByteArray}(hs:s.size≤2000):J2 (P6 s).1:=by
 have z:J2 ⟨[],[]⟩:=⟨by show 0≤1000;decide,fun s h=>(by cases h),by show 0≤1000;decide,fun s h=>(by cases h)⟩
 have hl:=Iu (s:=s)
 unfold P6;split
 ·cases h:X5 (D4 s).1 (u4 s) 0 with
  | error q=>exact z
  | ok q=>
   obtain⟨q,k⟩:=q;exact LI (by omega) h
 ·exact z
end Go.Proofs.YtlimglpjpcfpdaaGreatDoor
end
section
open Go Mk
namespace Go.Proofs.YtlimglpjpcfpdaaGreatDoor
set_option maxHeartbeats 32000000
attribute [local irreducible] Calls cI cB
def Qt(g:D6)(A:Option Addr)(N C:Nat):List Value:=
 [.int .i64 g.Kind,.string g.Rel,.slice A N C,.int .i64 g.Op,.string g.L.Var,.int .i64 g.L.Const.Kind,.int .i64 g.L.Const.Num,.string g.L.Const.Word,
  .string g.R.Var,.int .i64 g.R.Const.Kind,.int .i64 g.R.Const.Num,.string g.R.Const.Word,.int .i64 g.Off,.int .i64 g.Low,.int .i64 g.High]
theorem HU{Γ:B5}{va vg vb vh:Value}{gs hs:List E5}{q:D3}(ha:QR Γ va vg gs q)(hb:QR Γ vb vh hs q):PG Tryz.prog Γ 10 [.agg #[va,vg],.agg #[vb,vh]] (.bool true):=⟨fun S w hw=>by
 obtain⟨ga,gn,gc,rfl,hgn,hgnc,hgc⟩:=ha.goals.shape;obtain⟨sa,sn,sc,rfl,hsn,hsnc,hsc⟩:=ha.sel.shape;obtain⟨ya,yn,yc,rfl,hyn,hync,hyc⟩:=hb.goals.shape;obtain⟨xa,xn,xc,rfl,hxn,hxnc,hxc⟩:=hb.sel.shape;simp only[List.length_map]at hgn hsn hyn hxn
 have hgl:q.Goals.length=gs.length:=by rw[←ha.eq,List.length_map]
 have hhl:q.Goals.length=hs.length:=by rw[←hb.eq,List.length_map]
 have r1:=ha.sel
 have r2:=hb.sel
 have r3:=ha.goals
 have r4:=hb.goals
 refine A5 Tryz.func10 rfl rfl ?_
 repeat first|refine C3 ?_|refine C4 ?_;intro w hw
 refine K4 ?_;intro b2 w hw;refine K4 ?_;intro b3 w hw;have hw:Wd Γ (.blk b2 (.cells #[.slice sa sn sc,.slice ga gn gc] 25)::.blk b3 (.cells #[.slice xa xn xc,.slice ya yn yc] 25)::S) w:=hw.ps [1]
 repeat first|refine C3 ?_|refine C4 ?_;intro w hw
 refine A0 rfl (fun h=>?_) (fun h=>?_)
 ·exfalso
  simp at h
  omega
 clear h;repeat first|refine C3 ?_|refine C4 ?_;intro w hw
 refine C7 (fun μ ρ w=>∃(j:Nat),μ+j=sn∧Has ρ [(2,.pointer (some ⟨b2,0,none⟩)),(3,.pointer (some ⟨b3,0,none⟩)),(5,.int .i64 j)]∧Wd Γ (.blk b2 (.cells #[.slice sa sn sc,.slice ga gn gc] 25)::.blk b3 (.cells #[.slice xa xn xc,.slice ya yn yc] 25)::S) w) sn ⟨0,by omega,⟨rfl,rfl,rfl,trivial⟩,hw⟩ ?_
 clear hw;rintro μ ρ w ⟨j,hj,hρ,hw⟩
 rw[hρ.eq];clear hρ;repeat first|refine C3 ?_|refine C4 ?_;intro w hw
 refine A0 rfl (fun h=>?_) (fun h=>?_)
 ·have hjn:j<sn:=by have:=of_decide_eq_true h;omega
  clear h;obtain⟨s,hs⟩:=B8 (l:=q.Sel) (k:=j) (by omega)
  repeat first|refine C3 ?_|refine C4 ?_;intro w hw
  refine K5 (by kernel_rfl) (by kernel_rfl) hw ?_
  repeat(first|(first|refine Aa ?_|(apply O6;first|(apply T9;first|refine qP ?_|refine MG ?_)|refine qY ?_)|(apply J6;first|(apply T9;first|refine Nr ?_|refine En ?_)|refine qG ?_))|refine qY ?_ (hy:=fun w hw=>Q7 (r1.rd hw) rfl rfl (by omega) (by omega))|refine qY ?_ (hy:=fun w hw=>Q7 (r2.rd hw) rfl rfl (by omega) (by omega))|refine qY ?_ (hy:=fun w hw=>G6 (k:=j) (u:=.string s) rfl (r1.rd hw) (A7 hs))|refine qY ?_ (hy:=fun w hw=>G6 (k:=j) (u:=.string s) rfl (r2.rd hw) (A7 hs)))
  clear hw;intro w hw;refine A0 rfl (fun h=>?_) (fun h=>?_)
  ·exact absurd h (by simp)
  clear h;repeat first|refine C3 ?_|refine C4 ?_;intro w hw
  exact⟨μ-1,by omega,j+1,by omega,⟨rfl,rfl,rfl,trivial⟩,hw⟩
 clear h hj;repeat first|refine C3 ?_|refine C4 ?_;intro w hw
 refine C7 (fun μ ρ w=>∃(j:Nat),μ+j=gn∧Has ρ [(2,.pointer (some ⟨b2,0,none⟩)),(3,.pointer (some ⟨b3,0,none⟩)),(6,.int .i64 j)]∧Wd Γ (.blk b2 (.cells #[.slice sa sn sc,.slice ga gn gc] 25)::.blk b3 (.cells #[.slice xa xn xc,.slice ya yn yc] 25)::S) w) gn ⟨0,by omega,⟨rfl,rfl,rfl,trivial⟩,hw⟩ ?_
 clear hw;rintro μ ρ w ⟨j,hj,hρ,hw⟩
 rw[hρ.eq];clear hρ;repeat first|refine C3 ?_|refine C4 ?_;intro w hw
 refine A0 rfl (fun h=>?_) (fun h=>?_)
 ·have hjn:j<gn:=by have:=of_decide_eq_true h;omega
  clear h;obtain⟨x,hx⟩:=B8 (l:=gs) (k:=j) (by omega)
  obtain⟨y,hy⟩:=B8 (l:=hs) (k:=j) (by omega)
  have hxo:=ha.ok x (List.mem_of_getElem? hx)
  have hyo:=hb.ok y (List.mem_of_getElem? hy)
  have hxy:x.g=y.g:=by
   have h1:=ha.get hx
   have h2:=hb.get hy
   rw[h1]at h2;exact Option.some.inj h2
  obtain⟨l1,l2,l3⟩:=hxo.len;obtain⟨m1,m2,m3⟩:=hyo.len;obtain⟨g,A,N,C⟩:=x;obtain⟨g',A2,N2,C2⟩:=y;have hxy:g=g':=hxy
  subst hxy;simp only at l1 l2 l3 m1 m2 m3
  have r5:D2 Γ (.slice A N C) 4 (g.Args.map enc):=hxo
  have r6:D2 Γ (.slice A2 N2 C2) 4 (g.Args.map enc):=hyo
  repeat first|refine C3 ?_|refine C4 ?_;intro w hw
  refine Do 2 [[],[],[],[],[],[],[],[],[],[],[0],[1],[0],[1]] [[],[],[],[],[],[],[],[],[],[],[0],[1],[0],[1]] [[7],[8]] ?_ (hw:=hw)
  clear hw;repeat(first|refine mY ?_|refine mY ?_ (hy:=fun Y w g hw=>Q7 (r3.rd hw) rfl rfl (by omega) (by omega))|refine mY ?_ (hy:=fun Y w g hw=>Q7 (r4.rd hw) rfl rfl (by omega) (by omega))|refine mY ?_ (hy:=fun Y w _ hw=>H8 (k:=j) (r:=cG ⟨g,A,N,C⟩) rfl (r3.rd hw) (A7 hx))|refine mY ?_ (hy:=fun Y w _ hw=>H8 (k:=j) (r:=cG ⟨g,A2,N2,C2⟩) rfl (r4.rd hw) (A7 hy)))
  refine CH (c:=0) ?_
  refine CH (c:=1) ?_
  refine j4 (c:=0) ?_ (hM:=(A4 (by decide)).trans B2)
  refine j4 (c:=1) ?_ (hM:=(A4 (by decide)).trans B2)
  refine j0 fun w g' hw=>?_
  have hw:Wd Γ ((.blk b2 (.cells #[.slice sa sn sc,.slice ga gn gc] 25)::.blk b3 (.cells #[.slice xa xn xc,.slice ya yn yc] 25)::S)++([GR (g' 7) fun bb=>[.blk bb (.cells (cG ⟨g,A,N,C⟩).toArray 79)]]++([GR (g' 8) fun bb=>[.blk bb (.cells (cG ⟨g,A2,N2,C2⟩).toArray 79)]]++[]))) w:=hw
  have hw:=hw.flip
  have hw:Wd Γ (GR (g' 7) (fun bb=>[.blk bb (.cells (cG ⟨g,A,N,C⟩).toArray 79)])::GR (g' 8) (fun bb=>[.blk bb (.cells (cG ⟨g,A2,N2,C2⟩).toArray 79)])::.blk b2 (.cells #[.slice sa sn sc,.slice ga gn gc] 25)::.blk b3 (.cells #[.slice xa xn xc,.slice ya yn yc] 25)::S) w:=hw
  obtain⟨b7,h7,hw⟩:=hw.openAt;have hw:Wd Γ (.blk b7 (.cells (Qt g A N C).toArray 79)::GR (g' 8) (fun bb=>[.blk bb (.cells (cG ⟨g,A2,N2,C2⟩).toArray 79)])::.blk b2 (.cells #[.slice sa sn sc,.slice ga gn gc] 25)::.blk b3 (.cells #[.slice xa xn xc,.slice ya yn yc] 25)::S) w:=hw
  obtain⟨b8,h8,hw⟩:=(hw.ps [1]).openAt
  have hw:Wd Γ (.blk b8 (.cells (Qt g A2 N2 C2).toArray 79)::.blk b7 (.cells (Qt g A N C).toArray 79)::.blk b2 (.cells #[.slice sa sn sc,.slice ga gn gc] 25)::.blk b3 (.cells #[.slice xa xn xc,.slice ya yn yc] 25)::S) w:=hw
  refine Lo (l:=[(2,.pointer (some ⟨b2,0,none⟩)),(3,.pointer (some ⟨b3,0,none⟩)),(6,.int .i64 j),(7,.pointer (some ⟨b7,0,none⟩)),(8,.pointer (some ⟨b8,0,none⟩))]) ⟨rfl,rfl,rfl,h7,h8,trivial⟩ fun ρ hρ=>?_
  rw[hρ.eq];clear hρ h7 h8;repeat first|refine C3 ?_|refine C4 ?_;intro w hw
  refine lG (v:=.bool (decide (g.L≠g.L))) ?_ (hv:=fun hc=>by exact An (a:=g.L) (b:=g.L) A8 A8 rfl)
  repeat first|refine C3 ?_|refine C4 ?_;intro w hw
  refine lG (v:=.bool (decide (g.R≠g.R))) ?_ (hv:=fun hc=>by exact An (a:=g.R) (b:=g.R) A8 A8 rfl)
  repeat first|refine C3 ?_|refine C4 ?_;intro w hw
  refine A0 rfl (fun h=>?_) (fun h=>?_)
  ·exfalso
   simp at h
   omega
  clear h;repeat first|refine C3 ?_|refine C4 ?_;intro w hw
  refine C7 (fun μ2 ρ w=>∃(i:Nat),μ2+i=N∧Has ρ [(2,.pointer (some ⟨b2,0,none⟩)),(3,.pointer (some ⟨b3,0,none⟩)),(6,.int .i64 j),(7,.pointer (some ⟨b7,0,none⟩)),(8,.pointer (some ⟨b8,0,none⟩)),(9,.int .i64 i)]∧Wd Γ (.blk b8 (.cells (Qt g A2 N2 C2).toArray 79)::.blk b7 (.cells (Qt g A N C).toArray 79)::.blk b2 (.cells #[.slice sa sn sc,.slice ga gn gc] 25)::.blk b3 (.cells #[.slice xa xn xc,.slice ya yn yc] 25)::S) w) N ⟨0,by omega,⟨rfl,rfl,rfl,rfl,rfl,rfl,trivial⟩,hw⟩ ?_
  clear hw;rintro μ2 ρ w ⟨i,hi,hρ,hw⟩
  rw[hρ.eq];clear hρ;repeat first|refine C3 ?_|refine C4 ?_;intro w hw
  refine A0 rfl (fun h=>?_) (fun h=>?_)
  ·have hin:i<N:=by have:=of_decide_eq_true h;omega
   clear h;obtain⟨o,ho⟩:=B8 (l:=g.Args) (k:=i) (by omega)
   repeat first|refine C3 ?_|refine C4 ?_;intro w hw
   refine K5 (by kernel_rfl) (by kernel_rfl) hw ?_
   repeat(first|(first|refine Aa ?_|(apply O6;first|(apply T9;first|refine qP ?_|refine MG ?_)|refine qY ?_)|(apply J6;first|(apply T9;first|refine Nr ?_|refine En ?_)|refine qG ?_))|refine qY ?_ (hy:=fun w hw=>Q7 (r5.rd hw) rfl rfl (by omega) (by omega))|refine qY ?_ (hy:=fun w hw=>Q7 (r6.rd hw) rfl rfl (by omega) (by omega))|refine qY ?_ (hy:=fun w hw=>H8 (k:=i) (r:=enc o) rfl (r5.rd hw) (A7 ho))|refine qY ?_ (hy:=fun w hw=>H8 (k:=i) (r:=enc o) rfl (r6.rd hw) (A7 ho))|refine qY ?_ (hy:=fun w hw=>An (a:=o) (b:=o) rfl rfl rfl))
   clear hw;intro w hw;refine A0 rfl (fun h=>?_) (fun h=>?_)
   ·exact absurd h (by simp)
   clear h;repeat first|refine C3 ?_|refine C4 ?_;intro w hw
   exact⟨μ2-1,by omega,i+1,by omega,⟨rfl,rfl,rfl,rfl,rfl,rfl,trivial⟩,hw⟩
  clear h hi;repeat first|refine C3 ?_|refine C4 ?_;intro w hw
  exact⟨μ-1,by omega,j+1,by omega,⟨rfl,rfl,rfl,trivial⟩,hw.ds [0,0]⟩
 repeat first|refine C3 ?_|refine C4 ?_;intro w hw
 exact⟨_,rfl,rfl,hw.ds [0,0]⟩⟩
end Go.Proofs.YtlimglpjpcfpdaaGreatDoor
end
section
open Go Mk
namespace Go.Proofs.YtlimglpjpcfpdaaGreatDoor
set_option maxHeartbeats 16000000
def y4:ByteArray:=⟨#[115,101,108,101,99,116,32,88,32,119,104,101,114,101,32,112,40,88,44,32,89,41,44,32,112,40,89,44,32,95,41]⟩
def pQ:ByteArray:=⟨#[112]⟩
def xQ:ByteArray:=⟨#[88]⟩
def yQ:ByteArray:=⟨#[89]⟩
def Q8(i:Int):Val:=⟨1,i,⟨#[]⟩⟩
def IL:D3:=⟨[xQ],[J0 pQ [⟨xQ,H2⟩,⟨yQ,H2⟩],J0 pQ [⟨yQ,H2⟩,⟨I9,H2⟩]]⟩
def Hf:List H3:=[(pQ,[Q8 1,Q8 2]),(pQ,[Q8 2,Q8 3])]
theorem QO:(D4 y4).2.2=0:=by decide +kernel
theorem QU:∀i,i<2→∀j,j<2→NR (B3 (D4 y4).1 (3+7*i+2+2*j)):=fun i hi j hj=>by
 have h1:i=0∨i=1:=by omega
 have h2:j=0∨j=1:=by omega
 rcases h1 with rfl|rfl <;> rcases h2 with rfl|rfl <;> exact⟨by decide +kernel,by decide +kernel,by decide +kernel,by decide +kernel,by decide +kernel⟩
theorem QL:QP (D4 y4).1:=by
 refine⟨by decide +kernel,by decide +kernel,by decide +kernel,by decide +kernel,by decide +kernel,by decide +kernel,by decide +kernel,by decide +kernel,fun i hi=>?_,fun i hi=>?_⟩
 ·have h1:i=0∨i=1:=by omega
  have hv:=QU i hi
  have hc:∀j,j+1<2→I4 (D4 y4).1 (3+7*i+3+2*j) 4 G8=true:=fun j hj=>by
   have h2:j=0:=by omega
   subst h2;rcases h1 with rfl|rfl <;> decide +kernel
  rcases h1 with rfl|rfl
  ·exact⟨by decide +kernel,by decide +kernel,by decide +kernel,by decide +kernel,by decide,by decide,hv,hc,by decide +kernel,by decide +kernel⟩
  ·exact⟨by decide +kernel,by decide +kernel,by decide +kernel,by decide +kernel,by decide,by decide,hv,hc,by decide +kernel,by decide +kernel⟩
 ·have h1:i=0∨i=1:=by omega
  rcases h1 with rfl|rfl <;> decide +kernel
theorem NY:(⟨[(B3 (D4 y4).1 1).Text],U0 (D4 y4).1 2⟩:D3)=IL:=by
 have h1:(B3 (D4 y4).1 1).Text=xQ:=by decide +kernel
 have h2:(B3 (D4 y4).1 3).Text=pQ:=by decide +kernel
 have h3:(B3 (D4 y4).1 10).Text=pQ:=by decide +kernel
 have h4:C6 (D4 y4).1 5 2=[⟨xQ,H2⟩,⟨yQ,H2⟩]:=by decide +kernel
 have h5:C6 (D4 y4).1 12 2=[⟨yQ,H2⟩,⟨I9,H2⟩]:=by decide +kernel
 rw[h1];unfold U0;show (⟨[xQ],[J0 (B3 (D4 y4).1 3).Text (C6 (D4 y4).1 5 2),J0 (B3 (D4 y4).1 10).Text (C6 (D4 y4).1 12 2)]⟩:D3)=_
 rw[h2,h3,h4,h5];rfl
theorem Jk:Z7 Hf IL=0:=by decide +kernel
theorem QE:u9 Hf IL=[[Q8 1]]:=by
 unfold u9;rw[if_pos Jk];have:Gn Hf IL=[[Q8 1]]:=by decide +kernel
 unfold Qx;rw[this];rfl
theorem Qn:J2 IL:=by
 have hv:∀s:ByteArray,s.size≤10→U5 ⟨s,H2⟩:=fun s h=>⟨by show s.size≤9223372036854775807;omega,JN⟩
 have h0:U8 0:=⟨by decide,by decide⟩
 refine⟨by decide,fun s hs=>?_,by decide,fun g hg=>?_⟩
 ·have:s=xQ:=by simpa[IL] using hs
  subst this;decide
 ·have:g=J0 pQ [⟨xQ,H2⟩,⟨yQ,H2⟩]∨g=J0 pQ [⟨yQ,H2⟩,⟨I9,H2⟩]:=by simpa[IL] using hg
  rcases this with rfl|rfl
  ·refine⟨by decide,by decide,fun o ho=>?_,hv _ (by decide),hv _ (by decide),h0,h0,h0⟩
   have:o=⟨xQ,H2⟩∨o=⟨yQ,H2⟩:=by simpa[J0] using ho
   rcases this with rfl|rfl <;> exact hv _ (by decide)
  ·refine⟨by decide,by decide,fun o ho=>?_,hv _ (by decide),hv _ (by decide),h0,h0,h0⟩
   have:o=⟨yQ,H2⟩∨o=⟨I9,H2⟩:=by simpa[J0] using ho
   rcases this with rfl|rfl <;> exact hv _ (by decide)
theorem Hb:∀f∈Hf,Z8 f:=fun f hf=>by
 have:f=(pQ,[Q8 1,Q8 2])∨f=(pQ,[Q8 2,Q8 3]):=by simpa[Hf] using hf
 rcases this with rfl|rfl
 ·refine⟨by decide,by decide,fun v hv=>?_⟩
  have:v=Q8 1∨v=Q8 2:=by simpa using hv
  rcases this with rfl|rfl <;> exact⟨by decide,by decide⟩
 ·refine⟨by decide,by decide,fun v hv=>?_⟩
  have:v=Q8 2∨v=Q8 3:=by simpa using hv
  rcases this with rfl|rfl <;> exact⟨by decide,by decide⟩
attribute [local irreducible] Calls cI cB D4 Z7 u9 J4
theorem Kb{Γ:B5}:PG Tryz.prog Γ 7 [] (.bool true):=R3 fun Γ w _ hw=>by
 refine A5 Tryz.func7 rfl rfl ?_
 repeat first|refine C3 ?_|refine C4 ?_;intro w hw
 refine F0 [enc (Q8 1),enc (Q8 2)] ?_
 intro a9 w hw;repeat first|refine C3 ?_|refine C4 ?_;intro w hw
 refine D1 (vs:=[.string pQ,.slice (some a9) 2 2]) ?_
 refine(Gr Γ _ w _ pQ [Q8 1,Q8 2] (O4.own (i:=0) hw rfl) (by decide) hw).mono ?_
 clear hw;rintro e w ⟨⟨fr,fa,fn,fc,xs⟩,rfl,hf1,hw⟩
 refine⟨_,rfl,?_⟩;have hf1:(fr,xs)=(pQ,[Q8 1,Q8 2]):=hf1
 obtain⟨Γ1,hle1,hfo1,hw⟩:=hw.freeze;have hfo1:BD Γ1 ⟨fr,fa,fn,fc,xs⟩:=hfo1
 have hw:Wd Γ1 [] w:=hw.drop
 repeat first|refine C3 ?_|refine C4 ?_;intro w hw
 refine F0 [enc (Q8 2),enc (Q8 3)] ?_
 intro a13 w hw;repeat first|refine C3 ?_|refine C4 ?_;intro w hw
 refine D1 (vs:=[.string pQ,.slice (some a13) 2 2]) ?_
 refine(Gr Γ1 _ w _ pQ [Q8 2,Q8 3] (O4.own (i:=0) hw rfl) (by decide) hw).mono ?_
 clear hw;rintro e w ⟨⟨gr,ga,gn,gc,ys⟩,rfl,hf2,hw⟩
 refine⟨_,rfl,?_⟩;have hf2:(gr,ys)=(pQ,[Q8 2,Q8 3]):=hf2
 obtain⟨Γ2,hle2,hfo2,hw⟩:=hw.freeze;have hfo2:BD Γ2 ⟨gr,ga,gn,gc,ys⟩:=hfo2
 have hw:Wd Γ2 [] w:=hw.drop
 repeat first|refine C3 ?_|refine C4 ?_;intro w hw
 refine F0 [cF ⟨fr,fa,fn,fc,xs⟩,cF ⟨gr,ga,gn,gc,ys⟩] ?_
 intro a15 w hw;repeat first|refine C3 ?_|refine C4 ?_;intro w hw
 obtain⟨Γ3,hle3,hdb,hw⟩:=hw.freeze;have hfs:facts [(⟨fr,fa,fn,fc,xs⟩:B6),⟨gr,ga,gn,gc,ys⟩]=Hf:=by
  show [(fr,xs),(gr,ys)]=_
  rw[hf1,hf2];rfl
 have hRL:RL Γ3 (.slice (some a15) 2 2) [(⟨fr,fa,fn,fc,xs⟩:B6),⟨gr,ga,gn,gc,ys⟩]:=by
  refine⟨hdb,fun x hx=>?_⟩
  have hx2:x=⟨fr,fa,fn,fc,xs⟩∨x=⟨gr,ga,gn,gc,ys⟩:=by simpa using hx
  rcases hx2 with rfl|rfl
  ·exact⟨hfo1.mono (hle2.trans hle3),by show Z8 (fr,xs);rw[hf1];exact Hb _ (by simp[Hf])⟩
  ·exact⟨hfo2.mono hle3,by show Z8 (gr,ys);rw[hf2];exact Hb _ (by simp[Hf])⟩
 refine D1 (vs:=[.string y4]) ?_
 refine(IC y4 (by decide) QO QL hw).mono ?_
 clear hw;rintro e w ⟨Γ4,vs,vg,gs,hle4,rfl,hq,hw⟩
 rw[NY]at hq;obtain⟨qa,qn,qc,rfl,hqn,hqnc,hqc⟩:=hq.goals.shape;obtain⟨sa,sn,sc,rfl,hsn,hsnc,hsc⟩:=hq.sel.shape;refine⟨_,rfl,?_⟩;repeat first|refine C3 ?_|refine C4 ?_;intro w hw
 refine B4 ?_;intro b2 w hw;refine B4 ?_;intro b3 w hw;refine B0 (i:=1) ?_
 intro w hw;refine B0 (i:=0) ?_
 intro w hw;have hw:Wd Γ4 [.blk b2 (.cells #[.slice sa sn sc,.slice qa qn qc] 25),.blk b3 (.cells (enc (⟨0,0⟩:F8)).toArray 29)] w:=hw.ps [1]
 repeat first|refine C3 ?_|refine C4 ?_;intro w hw
 refine D1 (vs:=[.slice (some a15) 2 2,.agg #[.slice sa sn sc,.slice qa qn qc]]) ?_
 refine(Kg (hRL.mono hle4) (by simp) hq Qn hw).mono ?_
 clear hw;rintro e w ⟨Γ5,v,L,hle5,rfl,hL,hrows,hw⟩
 rw[hfs]at hrows ⊢
 rw[QE]at hrows;rw[Jk];obtain⟨pv,rfl⟩:∃pv,L=[(pv,[Q8 1])]:=by
  unfold rowsOf at hrows;match L,hrows with
  | [(pv,r)],h=>exact⟨pv,by simp at h;rw[h]⟩
  | [],h=>simp at h
  | _::_::_,h=>simp at h
 have hp:D2 Γ5 pv 3 [enc (Q8 1)]:=hL.ok (pv,[Q8 1]) (by simp)
 have hrep:D2 Γ5 v 1 [[pv]]:=hL.rep
 obtain⟨va,vn,vc,rfl,hvn,hvnc,hvc⟩:=hrep.shape;obtain⟨pa,pn,pc,rfl,hpn,hpnc,hpc⟩:=hp.shape;simp only[List.length_cons,List.length_nil,Nat.zero_add]at hvn hpn
 subst hvn hpn;refine⟨_,rfl,?_⟩;repeat first|refine C3 ?_|refine C4 ?_;intro w hw
 refine lG ?_ (hv:=fun hc=>by exact G6 (k:=0) (u:=.slice pa 1 pc) A8 (hL.rep.rd hw) rfl)
 repeat first|refine C3 ?_|refine C4 ?_;intro w hw
 refine lG ?_ (hv:=fun hc=>by exact G6 (k:=0) (u:=.slice pa 1 pc) A8 (hL.rep.rd hw) rfl)
 repeat first|refine C3 ?_|refine C4 ?_;intro w hw
 refine lG ?_ (hv:=fun hc=>by exact J8 (k:=0) (f:=1) (u:=.int .i64 1) A8 (hp.rd hw) rfl rfl)
 repeat first|refine C3 ?_|refine C4 ?_;intro w hw
 exact⟨_,rfl,Γ5,hle1.trans (hle2.trans (hle3.trans (hle4.trans hle5))),J5 rfl rfl,hw.ds [0,0]⟩
end Go.Proofs.YtlimglpjpcfpdaaGreatDoor
end
section
open Go Mk
namespace Go.Proofs.YtlimglpjpcfpdaaGreatDoor
set_option maxHeartbeats 32000000
attribute [local irreducible] Calls cI cB T8
theorem Ej{Γ:B5}[hT:AQ Γ]{S:List B1}{w:World}{vs vg:Value}{gs:List E5}{q:D3}(src:ByteArray)(hq:QR Γ vs vg gs q)(hin:Fo q)(hw:Wd Γ S w) :
  Calls Tryz.prog 4 #[.agg #[vs,vg],.string src] w fun e w'=>∃Γ',Γ.le Γ'∧e=.returned (.bool true)∧Wd Γ' S w':=by
 have pA:=fun Γ=>Kb (Γ:=Γ)
 obtain⟨ga,gn,gc,rfl,-,-,-⟩:=hq.goals.shape;obtain⟨sa,sn,sc,rfl,-,-,-⟩:=hq.sel.shape;have pF:=Qc hq
 refine A5 Tryz.func4 rfl rfl ?_
 repeat first|refine C3 ?_|refine C4 ?_;intro w hw
 refine K4 ?_;intro b2 w hw;have hw:Wd Γ (.blk b2 (.cells #[.slice sa sn sc,.slice ga gn gc] 25)::S) w:=hw
 repeat first|refine C3 ?_|refine C4 ?_;intro w hw
 refine A0 rfl (fun h=>?_) (fun h=>?_)
 ·clear h;have pA:=pA Γ
  repeat first|refine C3 ?_|refine C4 ?_;intro w hw
  exact⟨_,rfl,Γ,.refl _,rfl,hw.drop⟩
 have hfs:GP q=true∧src.size≤2000:=by
  simp at h
  exact⟨h.1,by omega⟩
 clear h;obtain⟨hfew,hsz⟩:=hfs;have hok:=Nv hfew hin
 have pFm:=FO hq hok
 have pV:=U9 hq hok
 have zF:=Ct hok
 repeat first|refine C3 ?_|refine C4 ?_;intro w hw
 refine CQ (fun ρ w=>∃Γ1:B5,Γ.le Γ1∧Has ρ [(1,.string src),(2,.pointer (some ⟨b2,0,none⟩))]∧Wd Γ1 (.blk b2 (.cells #[.slice sa sn sc,.slice ga gn gc] 25)::S) w) ?_ ?_
 ·refine A0 rfl (fun h=>?_) (fun h=>?_)
  ·have hv:T8 q=0:=of_decide_eq_true h
   clear h;repeat first|refine C3 ?_|refine C4 ?_;intro w hw
   refine D1 (vs:=[.string (N8 q)]) ?_
   refine(BC (N8 q) (by omega) hw).mono ?_
   clear hw;rintro e w ⟨Γ1,qs,qg,ghs,hle1,rfl,hqr,hw⟩
   rw[EM hok hv]at hqr ⊢
   have hqr:QR Γ1 qs qg ghs q:=hqr
   obtain⟨a1,n1,c1,rfl,-,-⟩:=hqr.sel.shape;obtain⟨a2,n2,c2,rfl,-,-⟩:=hqr.goals.shape;refine⟨_,rfl,?_⟩;have pSm:=HU (hq.mono hle1) hqr
   repeat first|refine C3 ?_|refine C4 ?_;intro w hw
   refine B4 ?_;intro b6 w hw;refine B4 ?_;intro b7 w hw;refine B0 ?_;intro w hw;refine B0 ?_;intro w hw;have hw:Wd Γ1 (.blk b7 (.cells (enc (⟨0,0⟩:F8)).toArray 29)::.blk b6 (.cells #[.slice a1 n1 c1,.slice a2 n2 c2] 25)::.blk b2 (.cells #[.slice sa sn sc,.slice ga gn gc] 25)::S) w:=hw
   repeat first|refine C3 ?_|refine C4 ?_;intro w hw
   refine A0 rfl (fun h=>?_) (fun h=>?_)
   ·exact absurd h (by simp)
   clear h;repeat first|refine C3 ?_|refine C4 ?_;intro w hw
   exact⟨Γ1,hle1,⟨rfl,rfl,trivial⟩,hw.ds [0,0]⟩
  ·have hv:¬T8 q=0:=of_decide_eq_false h
   clear h;rw[Dd hv]at pFm ⊢
   repeat first|refine C3 ?_|refine C4 ?_;intro w hw
   refine A0 rfl (fun h=>?_) (fun h=>?_)
   ·exact absurd h (by unfold C9;simp)
   clear h;repeat first|refine C3 ?_|refine C4 ?_;intro w hw
   exact⟨Γ,.refl _,⟨rfl,rfl,trivial⟩,hw⟩
 clear hw;rintro ρ w ⟨Γ1,hle1,hρ,hw⟩
 rw[hρ.eq];clear hρ;repeat first|refine C3 ?_|refine C4 ?_;intro w hw
 refine D1 (vs:=[.string src]) ?_
 refine(BC src (by omega) hw).mono ?_
 clear hw;rintro e w ⟨Γ2,qs,qg,ghs,hle2,rfl,hqa,hw⟩
 have hoka:=Kw hsz
 obtain⟨a1,n1,c1,rfl,-,-⟩:=hqa.sel.shape;obtain⟨a2,n2,c2,rfl,-,-⟩:=hqa.goals.shape;generalize (P6 src).1=qa at *
 generalize (P6 src).2.1=pa at *
 generalize (P6 src).2.2=ea at *
 refine⟨_,rfl,?_⟩;have pVa:=U9 hqa hoka
 repeat first|refine C3 ?_|refine C4 ?_;intro w hw
 refine B4 ?_;intro b9 w hw;refine B4 ?_;intro b10 w hw;refine B0 ?_;intro w hw;refine B0 ?_;intro w hw;have hw:Wd Γ2 (.blk b10 (.cells (enc pa).toArray 29)::.blk b9 (.cells #[.slice a1 n1 c1,.slice a2 n2 c2] 25)::.blk b2 (.cells #[.slice sa sn sc,.slice ga gn gc] 25)::S) w:=hw
 repeat first|refine C3 ?_|refine C4 ?_;intro w hw
 refine A0 rfl (fun h=>?_) (fun h=>?_)
 ·clear h;have pA:=pA Γ2
  repeat first|refine C3 ?_|refine C4 ?_;intro w hw
  exact⟨_,rfl,Γ2,hle1.trans hle2,rfl,hw.ds [0,0,0]⟩
 have hea:ea=0∧T8 qa=0:=by
  simp at h
  exact h
 clear h;obtain⟨-,hva⟩:=hea;haveI hT2:AQ Γ2:=(hT.mono hle1).mono hle2
 have pFa:=FO hqa hoka
 have zFa:=Ct hoka
 repeat first|refine C3 ?_|refine C4 ?_;intro w hw
 refine D1 (vs:=[.string (N8 qa)]) ?_
 refine(BC (N8 qa) (by omega) hw).mono ?_
 clear hw;rintro e w ⟨Γ3,us,ug,uhs,hle3,rfl,hqb,hw⟩
 rw[EM hoka hva]at hqb ⊢
 have hqb:QR Γ3 us ug uhs qa:=hqb
 obtain⟨x1,y1,z1,rfl,-,-⟩:=hqb.sel.shape;obtain⟨x2,y2,z2,rfl,-,-⟩:=hqb.goals.shape;refine⟨_,rfl,?_⟩;have pSm:=HU (hqa.mono hle3) hqb
 have pA:=pA Γ3
 repeat first|refine C3 ?_|refine C4 ?_;intro w hw
 refine B4 ?_;intro b12 w hw;refine B4 ?_;intro b13 w hw;refine B0 ?_;intro w hw;refine B0 ?_;intro w hw;have hw:Wd Γ3 (.blk b13 (.cells (enc (⟨0,0⟩:F8)).toArray 29)::.blk b12 (.cells #[.slice x1 y1 z1,.slice x2 y2 z2] 25)::.blk b10 (.cells (enc pa).toArray 29)::.blk b9 (.cells #[.slice a1 n1 c1,.slice a2 n2 c2] 25)::.blk b2 (.cells #[.slice sa sn sc,.slice ga gn gc] 25)::S) w:=hw
 repeat first|refine C3 ?_|refine C4 ?_;intro w hw
 exact⟨_,rfl,Γ3,hle1.trans (hle2.trans hle3),J5 rfl (by simp),hw.ds [0,0,0,0,0]⟩
end Go.Proofs.YtlimglpjpcfpdaaGreatDoor
end
