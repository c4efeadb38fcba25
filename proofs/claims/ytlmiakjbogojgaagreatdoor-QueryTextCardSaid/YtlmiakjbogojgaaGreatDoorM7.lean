/- Texts of this proof, one behind another. -/
import Derived.Test.YtlmiakjbogojgaaGreatDoorM6
import Derived.Test.YtlmiakjbogojgaaGreatDoorM2
import Derived.Lib.ItoaNum
import Derived.Test.YtlmiakjbogojgaaGreatDoorM3
import Derived.Test.YtlmiakjbogojgaaGreatDoorM4
import Derived.Test.YtlmiakjbogojgaaGreatDoorM5
set_option linter.unusedVariables false
set_option linter.unusedSimpArgs false
section
open Go Mk
namespace Go.Proofs.YtlmiakjbogojgaaGreatDoor
set_option maxHeartbeats 16000000
attribute [local irreducible] Calls cI cB C7
section
variable {Γ:C4}{S:List B5}{w:World}
theorem Iz(hw:Wd Γ S w)(args:Array Value)(hn:Nat.ble args.size 22=true) :
  CallsD Tryz.prog 29 args .returning w fun e u' w'=>e=.returned (.tuple #[])∧u'=.returning∧Wd Γ S w':=by
 refine GE Tryz.func29 rfl hn rfl rfl ?_
 refine Q7 ?_
 refine BG ?_
 refine lY (v:=.nilIface) ?_ (hy:=FT rfl)
 refine lY (v:=.bool false) ?_ (hy:=Qz Tryz.underlying20 rfl)
 refine R5 ?_
 refine A0 rfl (fun h=>by cases h) (fun _=>?_)
 refine Ca ?_
 exact⟨_,rfl,rfl,rfl,hw⟩
set_option maxRecDepth 8000 in
theorem LB(s:ByteArray)(hs:s.size≤1000000)(he:(C7 s).2.2=0)(hr:TM (C7 s).1)(hw:Wd Γ S w) :
  Calls Tryz.prog 7 #[.string s] w fun r w'=>∃Γ' vs vg gs,Γ.le Γ'∧r=.returned (.tuple #[.agg #[vs,vg],.agg (enc (⟨0,0⟩:C8)).toArray,.int .i64 0])∧QR Γ' vs vg gs ⟨[(D2 (C7 s).1 1).Text],l7 (C7 s).1 2⟩∧Wd Γ' S w':=by
 haveI hL:=HQ s (by omega)
 haveI hCn:=Fx s
 refine BW Tryz.func7 rfl rfl ?_
 refine S2 (m7 ?_)
 repeat first|refine A5 ?_|refine A6 ?_;intro w hw
 refine B7 ?_;intro b2 w hw;refine B7 ?_;intro b3 w hw;refine B7 ?_;intro b4 w hw;refine R5 ?_
 have hw:Wd Γ (.blk b2 (.cells #[.slice none 0 0,.slice none 0 0] 25)::.blk b3 (.cells (enc (⟨0,0⟩:C8)).toArray 29)::.blk b4 (.cells #[.int .i64 0] 30)::S) w:=hw.ps [1,2]
 refine S2 (m7 ?_)
 repeat first|refine A5 ?_|refine A6 ?_;intro w hw
 refine B9 ?_;refine(Jd Γ _ w s (Nat.le_trans hs (by decide)) hw).mono ?_
 clear hw;rintro r w ⟨v,rfl,hw⟩
 refine⟨_,rfl,?_⟩;repeat first|refine A5 ?_|refine A6 ?_;intro w hw
 refine A9 (i:=2) ?_
 intro w hw;refine A9 (i:=3) ?_
 intro w hw;refine R5 ?_
 have hw:Wd Γ (.own v 102 5 ((C7 s).1.map enc)::.blk b2 (.cells #[.slice none 0 0,.slice none 0 0] 25)::.blk b3 (.cells (enc (C7 s).2.1).toArray 29)::.blk b4 (.cells #[.int .i64 (C7 s).2.2] 30)::S) w:=hw
 generalize (C7 s).2.1=p1 at *
 generalize (C7 s).2.2=e1 at *
 generalize (C7 s).1=toks at *
 refine S2 (S2 (m7 ?_))
 repeat first|refine A5 ?_|refine A6 ?_;intro w hw
 refine BX rfl (fun h=>absurd he (by simpa using h)) (fun _=>?_)
 obtain⟨at',n,c,rfl,hn,-,-⟩:=hw.own_shape (i:=0) rfl
 simp only[List.length_map]at hn
 obtain⟨Γ1,hle,ht,hw⟩:=hw.freeze;refine m7 (Ca ?_)
 refine S2 (CV ?_)
 refine ID ((x7 (first:=[]) (cap:=[.tmp 2,.tmp 3,.tmp 4]) (f1:=[]) (c1:=[.pointer (some ⟨b2,0,none⟩),.pointer (some ⟨b3,0,none⟩),.pointer (some ⟨b4,0,none⟩)]) EvL.nil (EvL.cons rfl (EvL.cons rfl (EvL.cons rfl EvL.nil)))).step ?_)
 refine EK ?_
 refine KH ?_
 refine S2 (e7 ?_)
 repeat first|refine A5 ?_|refine A6 ?_;intro w hw
 refine S2 (e7 ?_)
 repeat first|refine A5 ?_|refine A6 ?_;intro w hw
 refine J5 ?_;intro bp w hw;repeat first|refine A5 ?_|refine A6 ?_;intro w hw
 have hw:Wd Γ1 (B3 bp at' n c 0 _ _::.blk b2 (.cells #[.slice none 0 0,.slice none 0 0] 25)::.blk b3 (.cells (enc p1).toArray 29)::.blk b4 (.cells #[.int .i64 e1] 30)::S) w:=hw
 refine S2 (e7 ?_)
 repeat first|refine A5 ?_|refine A6 ?_;intro w hw
 refine B9 ?_;refine(Rq hr ht hw).mono ?_
 clear hw;rintro r w ⟨Γ2,vs,vg,gs,hle2,rfl,hq,hw⟩
 obtain⟨ga,gn,gc,rfl,hgn,hgnc,hgc⟩:=hq.goals.shape;obtain⟨sa,sn,sc,rfl,hsn,hsnc,hsc⟩:=hq.sel.shape;refine⟨_,rfl,?_⟩;repeat first|refine A5 ?_|refine A6 ?_;intro w hw
 refine A9 (i:=0) ?_
 intro w hw;refine A9 (i:=1) ?_
 intro w hw;refine A9 (i:=2) ?_
 intro w hw;have hw:Wd Γ2 (.blk b2 (.cells #[.slice sa sn sc,.slice ga gn gc] 25)::.blk b3 (.cells (enc (⟨0,0⟩:C8)).toArray 29)::.blk b4 (.cells #[.int .i64 0] 30)::S) w:=hw
 refine R5 ?_
 refine Kn ?_
 intro a ha hsz;refine leaves_cons (by simp) rfl ((Iz hw _ rfl).mono ?_)
 rintro e u' w ⟨rfl,rfl,hw⟩
 show Leaves _ _ _ _ [] .returning w
 exact⟨_,T2 (vs:=[.agg #[.slice sa sn sc,.slice ga gn gc],.agg (enc (⟨0,0⟩:C8)).toArray,.int .i64 0]) (by decide) (by rw[ha];exact⟨J2 (i:=0) hw rfl rfl rfl,J2 (i:=1) hw rfl rfl rfl,RI (i:=2) hw rfl rfl rfl,trivial⟩),Γ2,_,_,gs,hle.trans hle2,rfl,hq,hw.ds [0,0,0]⟩
end
end Go.Proofs.YtlmiakjbogojgaaGreatDoor
end
section
open Go Mk
namespace Go.Proofs.YtlmiakjbogojgaaGreatDoor
set_option maxHeartbeats 4000000
attribute [local irreducible] Calls
theorem N5(a b:ByteArray):H6 (a++b)=H6 a++H6 b:=by
 unfold H6;rw[ByteArray.data_append,Array.toList_append]
theorem N0(l:List UInt8):H6 ⟨l.toArray⟩=l:=by unfold H6;simp
abbrev Tri:=Int×ByteArray×Int
def Nu(l:List UInt8):ByteArray:=⟨l.toArray⟩
theorem Ia(l:List UInt8):(Nu l).size=l.length:=by rw[←K9];unfold Nu;rw[N0]
def OB(t:Tok):Prop:=(t.Kind=1→u7 t.Text=true)∧(t.Kind=3→y5 t.Text=true)
theorem RD{s:ByteArray}{k:Nat}:H6 (D7 s 0 k)=(H6 s).take k:=by rw[o0,List.drop_zero,Nat.sub_zero]
theorem k13:¬(1:Int)=3:=by decide
theorem k31:¬(3:Int)=1:=by decide
theorem k21:¬(2:Int)=1:=by decide
theorem k23:¬(2:Int)=3:=by decide
theorem VH:¬(0:Int)=1:=by decide
theorem Ux:¬(0:Int)=3:=by decide
theorem k41:¬(4:Int)=1:=by decide
theorem k43:¬(4:Int)=3:=by decide
theorem Ri{s:ByteArray}(h0:0<s.size):((J1 s).kind=1→u7 (J1 s).text=true)∧((J1 s).kind=3→y5 (J1 s).text=true):=by
 unfold J1;by_cases h1:F2 (A3 s 0)=true
 ·rw[if_pos h1];refine⟨fun _=>?_,fun q=>absurd q k13⟩
  have hl:0<(H6 s).length:=by rw[K9];exact h0
  have htw:H6 (D7 s 0 (runN s))=(H6 s).takeWhile O6:=by
   rw[RD];unfold runN;exact(List.prefix_iff_eq_take.1 (List.takeWhile_prefix O6)).symm
  have h1':F2 (((H6 s).getD 0 0).toNat:Int)=true:=h1
  unfold u7;show (decide (0<(D7 s 0 (runN s)).size)&&F2 (((H6 (D7 s 0 (runN s))).getD 0 0).toNat:Int)&&(H6 (D7 s 0 (runN s))).all O6)=true
  rw[←K9,htw];generalize H6 s=b at *
  cases b with
  | nil=>simp at hl
  | cons c p=>
   have hc:F2 (c.toNat:Int)=true:=h1'
   have hw:O6 c=true:=by unfold O6;rw[hc];rfl
   rw[List.takeWhile_cons,if_pos hw];simp only[Bool.and_eq_true,decide_eq_true_eq]
   refine⟨⟨by simp,hc⟩,?_⟩
   rw[List.all_cons,hw,Bool.true_and];exact List.all_eq_true.2 fun x hx=>List.all_eq_true.1 List.all_takeWhile x hx
 rw[if_neg h1];by_cases h2:H2 (A3 s 0)=true
 ·rw[if_pos h2];split
  ·exact⟨fun q=>absurd q k21,fun q=>absurd q k23⟩
  ·exact⟨fun q=>absurd q VH,fun q=>absurd q Ux⟩
 rw[if_neg h2];by_cases h3:A3 s 0=34
 ·rw[if_pos h3];split
  ·refine⟨fun q=>absurd q k31,fun _=>?_⟩
   unfold y5;have:H6 (D7 s 1 (R7 s))=((H6 s).drop 1).takeWhile BP:=by
    rw[o0];unfold R7;rw[Nat.add_sub_cancel_left];exact(List.prefix_iff_eq_take.1 (List.takeWhile_prefix BP)).symm
   show (H6 (D7 s 1 (R7 s))).all BP=true
   rw[this];exact List.all_takeWhile
  ·exact⟨fun q=>absurd q VH,fun q=>absurd q Ux⟩
 rw[if_neg h3];split
 ·exact⟨fun q=>absurd q VH,fun q=>absurd q Ux⟩
 ·exact⟨fun q=>absurd q k41,fun q=>absurd q k43⟩
theorem DV{s:ByteArray}:∀(f off:Nat) (acc:List Tok),(∀t∈acc,OB t)→∀t∈(O4 s f off acc).1,OB t
 | 0,off,acc,h=>h
 | f+1,off,acc,h=>by
  unfold O4;split
  ·exact h
  ·rename_i h0
   split
   ·exact DV f _ acc h
   ·split
    ·exact DV f _ acc h
    ·split
     ·refine DV f _ _ fun t ht=>?_
      rcases List.mem_append.1 ht with q|q
      ·exact h t q
      ·rw[List.mem_singleton.1 q];exact Ri (by rw[O7 (Nat.le_refl _)];omega)
     ·exact fun t ht=>by cases ht
theorem OF{s:ByteArray}:∀t∈(C7 s).1,OB t:=by
 unfold C7;split
 ·exact fun t ht=>by cases ht
 ·exact DV _ _ [] fun t ht=>by cases ht
end Go.Proofs.YtlmiakjbogojgaaGreatDoor
end
section
open Go Mk
namespace Go.Proofs.YtlmiakjbogojgaaGreatDoor
set_option maxHeartbeats 16000000
attribute [local irreducible] Calls cI cB C7 V8
def Q8(s:ByteArray):D8×C8×Int:=if (C7 s).2.2=0 then (match V8 (C7 s).1 (C0 s) 0 with|.ok (q,_)=>(q,⟨0,0⟩,0)|.error (p,er)=>(⟨[],[]⟩,p,er)) else (⟨[],[]⟩,(C7 s).2.1,(C7 s).2.2)
def CP(b2 b3 b4:Nat)(h0:Array Value)(p0:C8)(e0:Int)(S:List B5):List B5:=.blk b2 (.cells h0 25)::.blk b3 (.cells (enc p0).toArray 29)::.blk b4 (.cells #[.int .i64 e0] 30)::S
theorem FC{s:ByteArray}:X8 (C7 s).1:=fun k hk=>by
 have h:D2 (C7 s).1 k∈(C7 s).1:=by
  have hl:=u2 (toks:=(C7 s).1) (at':=k) (by rw[hk];decide)
  unfold D2;rw[List.getD_eq_getElem?_getD,List.getElem?_eq_getElem hl];exact List.getElem_mem hl
 have hw:=(OF _ h).1 hk
 unfold u7 at hw;simp only[Bool.and_eq_true,decide_eq_true_eq]at hw
 exact hw.1.1
theorem PW(Γ:C4):QR Γ (.slice none 0 0) (.slice none 0 0) [] ⟨[],[]⟩:=⟨D6.nil,D6.nil,rfl,fun x hx=>by cases hx⟩
section
variable {Γ:C4}{S:List B5}{w:World}{b2 b3 b4:Nat}{h0:Array Value}{p0:C8}{e0:Int}
theorem QC{p:C8}{er:Int}(hz:h0.size=2)(hw:Wd Γ (CP b2 b3 b4 h0 p0 e0 S) w) :
  CallsD Tryz.prog 29 #[.pointer (some ⟨b2,0,none⟩),.pointer (some ⟨b3,0,none⟩),.pointer (some ⟨b4,0,none⟩)] (.panicking [An p er]) w fun e u' w'=>
   e=.returned (.tuple #[])∧settle u'=.returning∧Wd Γ (CP b2 b3 b4 #[.slice none 0 0,.slice none 0 0] p er S) w':=by
 refine GE Tryz.func29 rfl rfl rfl rfl ?_
 obtain⟨c1,c2,rfl⟩:∃c1 c2,h0 = #[c1,c2]:=by
  obtain⟨l⟩:=h0;match l,hz with
  | [c1,c2],_=>exact⟨c1,c2,rfl⟩
 unfold CP at hw;have hv:(DI (.panicking [An p er])).1=.iface 87 (.agg #[.int .i64 p.Line,.int .i64 p.Col,.int .i64 er]):=rfl
 rw[hv];refine Q7 ?_
 refine BG ?_
 refine lY (v:=.iface 87 (.agg #[.int .i64 p.Line,.int .i64 p.Col,.int .i64 er])) ?_ (hy:=FT rfl)
 refine lY (v:=.bool true) ?_ (hy:=RZ Tryz.underlying20 rfl)
 refine R5 ?_
 refine A0 rfl (fun _=>?_) (fun h=>by cases h)
 refine Q7 ?_
 refine BG ?_
 refine lY (v:=.iface 87 (.agg #[.int .i64 p.Line,.int .i64 p.Col,.int .i64 er])) ?_ (hy:=FT rfl)
 refine lY (v:=.tuple #[.agg #[.int .i64 p.Line,.int .i64 p.Col,.int .i64 er],.bool true]) ?_ (hy:=KO Tryz.underlying87 rfl)
 refine A7 ?_;refine B7 ?_;intro b5 w hw;refine A7 ?_;refine A9 ?_;intro w hw;have hw:Wd Γ (.blk b5 (.cells #[.int .i64 p.Line,.int .i64 p.Col,.int .i64 er] 87)::.blk b2 (.cells #[c1,c2] 25)::.blk b3 (.cells (enc p0).toArray 29)::.blk b4 (.cells #[.int .i64 e0] 30)::S) w:=hw
 refine A7 ?_;refine A0 rfl (fun h=>by cases h) (fun _=>?_)
 refine A7 ?_;refine Bj [] [fun _=>[.blk b5 _],fun _=>[.blk b2 _],fun _=>[.blk b3 _],fun _=>.blk b4 _::S] [[],[],[],[],[],[1],[2],[3]] [[],[],[0],[],[0],[1],[2],[3]] [[],[],[],[]] (by simpa[List.range,List.range.loop,ML] using hw) ?_
 refine W9 ?_;refine f7 (c:=1) ?_
 refine f7 (c:=2) ?_
 refine f7 (c:=3) ?_
 refine W0 ?_
 intro w hw;have hw:Wd Γ ((.blk b5 (.cells #[.int .i64 p.Line,.int .i64 p.Col,.int .i64 er] 87)::CP b2 b3 b4 #[.slice none 0 0,.slice none 0 0] p er S)++[]) w:=hw
 rw[List.append_nil]at hw;exact⟨_,rfl,rfl,rfl,hw.drop⟩
end
section
variable {Γ:C4}{S:List B5}{w:World}
set_option maxRecDepth 8000 in
theorem LC(s:ByteArray)(hs:s.size≤1000000)(hw:Wd Γ S w) :
  Calls Tryz.prog 7 #[.string s] w fun r w'=>∃Γ' vs vg gs,Γ.le Γ'∧r=.returned (.tuple #[.agg #[vs,vg],.agg (enc (Q8 s).2.1).toArray,.int .i64 (Q8 s).2.2])∧QR Γ' vs vg gs (Q8 s).1∧Wd Γ' S w':=by
 haveI hL:=HQ s (by omega)
 haveI hCn:=Fx s
 have hlin:=LV (s:=s) (k:=s.size) (Nat.le_refl _)
 rw[List.take_of_length_le (by simp)]at hlin
 have hcnt:s.data.toList.count 10≤s.size:=by
  have:=List.count_le_length (a:=(10:UInt8)) (l:=s.data.toList)
  simpa using this
 have hcol:1≤(C0 s).Col∧(C0 s).Col≤s.size+1:=by
  have:∀k,1≤(B0 s k).Col∧(B0 s k).Col≤k+1:=fun k=>by
   induction k with
   | zero=>simp[B0]
   | succ k ih=>
    unfold B0;split
    ·simp;omega
    ·simp;omega
  exact this _
 refine BW Tryz.func7 rfl rfl ?_
 refine S2 (m7 ?_)
 refine A7 ?_;refine B7 ?_;intro b2 w hw;refine B7 ?_;intro b3 w hw;refine B7 ?_;intro b4 w hw;refine R5 ?_
 have hw:Wd Γ (CP b2 b3 b4 #[.slice none 0 0,.slice none 0 0] ⟨0,0⟩ 0 S) w:=hw.ps [1,2]
 unfold CP at hw;refine S2 (m7 ?_)
 refine A7 ?_;refine B9 ?_;refine(Jd Γ _ w s (Nat.le_trans hs (by decide)) hw).mono ?_
 clear hw;rintro r w ⟨v,rfl,hw⟩
 refine⟨_,rfl,?_⟩;refine A7 ?_;refine A9 (i:=2) ?_
 intro w hw;refine A9 (i:=3) ?_
 intro w hw;refine R5 ?_
 have hw:Wd Γ (.own v 102 5 ((C7 s).1.map enc)::CP b2 b3 b4 #[.slice none 0 0,.slice none 0 0] (C7 s).2.1 (C7 s).2.2 S) w:=hw
 unfold CP at hw;refine S2 (S2 (m7 ?_))
 refine A7 ?_;refine BX rfl (fun h=>?_) (fun h=>?_)
 ·have h:¬(C7 s).2.2=0:=by simpa using h
  have hP:Q8 s=(⟨[],[]⟩,(C7 s).2.1,(C7 s).2.2):=by unfold Q8;rw[if_neg h]
  rw[hP];refine m7 ?_
  refine A7 ?_;refine Bj [] [fun _=>[.own v _ _ _],fun _=>[.blk b2 _],fun _=>[.blk b3 _],fun _=>.blk b4 _::S] [[],[],[],[1],[2],[3]] [[],[2],[3],[1],[2],[3]] [[],[],[],[]] (by simpa[List.range,List.range.loop,ML] using hw) ?_
  refine W9 ?_;refine f7 (c:=1) ?_
  refine f7 (c:=2) ?_
  refine f7 (c:=3) ?_
  refine W0 ?_
  intro w hw;have hw:Wd Γ ((.own v 102 5 ((C7 s).1.map enc)::CP b2 b3 b4 #[.slice none 0 0,.slice none 0 0] (C7 s).2.1 (C7 s).2.2 S)++[]) w:=hw
  rw[List.append_nil]at hw;refine A7 ?_;have hw:=hw.drop
  unfold CP at hw;intro a ha hsz;exact⟨_,T2 (vs:=[.agg #[.slice none 0 0,.slice none 0 0],.agg (enc (C7 s).2.1).toArray,.int .i64 (C7 s).2.2]) (by decide) (by rw[ha];exact⟨J2 (i:=0) hw rfl rfl rfl,J2 (i:=1) hw rfl rfl rfl,RI (i:=2) hw rfl rfl rfl,trivial⟩),Γ,_,_,[],C4.le.refl _,rfl,PW Γ,hw.ds [0,0,0]⟩
 have h:(C7 s).2.2=0:=by simpa using h
 have hP:Q8 s=(match V8 (C7 s).1 (C0 s) 0 with|.ok (q,_)=>(q,⟨0,0⟩,0)|.error (p,er)=>(⟨[],[]⟩,p,er)):=by unfold Q8;rw[if_pos h]
 rw[hP];clear hP;have hwo:=FC (s:=s)
 generalize (C7 s).2.1=p1 at *
 generalize (C7 s).2.2=e1 at *
 have hlen:=HH (s:=s)
 generalize (C7 s).1=toks at *
 obtain⟨at',n,c,rfl,hn,-,-⟩:=hw.own_shape (i:=0) rfl
 simp only[List.length_map]at hn
 obtain⟨Γ1,hle,ht,hw⟩:=hw.freeze;refine m7 (Ca ?_)
 refine S2 (CV ?_)
 refine ID ((x7 (first:=[]) (cap:=[.tmp 2,.tmp 3,.tmp 4]) (f1:=[]) (c1:=[.pointer (some ⟨b2,0,none⟩),.pointer (some ⟨b3,0,none⟩),.pointer (some ⟨b4,0,none⟩)]) EvL.nil (EvL.cons rfl (EvL.cons rfl (EvL.cons rfl EvL.nil)))).step ?_)
 refine EK ?_
 refine KH ?_
 refine S2 (e7 ?_)
 refine A7 ?_;refine S2 (e7 ?_)
 refine A7 ?_;refine J5 ?_;intro bp w hw;refine A7 ?_;have hw:Wd Γ1 (B3 bp at' n c 0 (((s.data.toList.count 10:Nat):Int)+1) ((s.size:Int)-((s.size:Int)-(C0 s).Col))::CP b2 b3 b4 #[.slice none 0 0,.slice none 0 0] p1 e1 S) w:=hw
 rw[show (((s.data.toList.count 10:Nat):Int)+1)=(C0 s).Line from by unfold C0;rw[hlin];omega,show (s.size:Int)-((s.size:Int)-(C0 s).Col)=(C0 s).Col from by omega]at hw
 refine S2 (e7 ?_)
 refine A7 ?_;refine I0 ?_
 refine(Ti hwo (Nat.zero_le _) (by omega) ht hw).mono ?_
 clear hw;rintro r w hr
 cases hH:V8 toks (C0 s) 0 with
 | error q=>
  obtain⟨p,er⟩:=q;rw[hH]at hr;obtain⟨Γ2,k,hle2,rfl,hw⟩:=hr;have hw:=hw.drop
  intro a ha hsz;refine leaves_cons (by simp) rfl ((QC rfl hw).mono ?_)
  rintro e u' w ⟨rfl,hu,hw⟩
  show Leaves _ _ _ _ [] (settle u') w
  rw[hu];unfold CP at hw;exact⟨_,T2 (vs:=[.agg #[.slice none 0 0,.slice none 0 0],.agg (enc p).toArray,.int .i64 er]) (by decide) (by rw[ha];exact⟨J2 (i:=0) hw rfl rfl rfl,J2 (i:=1) hw rfl rfl rfl,RI (i:=2) hw rfl rfl rfl,trivial⟩),Γ2,_,_,[],hle.trans hle2,rfl,PW Γ2,hw.ds [0,0,0]⟩
 | ok q=>
  obtain⟨q,k⟩:=q;rw[hH]at hr;obtain⟨Γ2,vs,vg,gs,hle2,rfl,hq,hw⟩:=hr;unfold CP at hw;obtain⟨ga,gn,gc,rfl,hgn,hgnc,hgc⟩:=hq.goals.shape;obtain⟨sa,sn,sc,rfl,hsn,hsnc,hsc⟩:=hq.sel.shape;show L _ _ _ _ _ _ _
  refine A7 ?_;refine A9 (i:=0) ?_
  intro w hw;refine A9 (i:=1) ?_
  intro w hw;refine A9 (i:=2) ?_
  intro w hw;have hw:Wd Γ2 (CP b2 b3 b4 #[.slice sa sn sc,.slice ga gn gc] ⟨0,0⟩ 0 S) w:=hw
  refine R5 ?_
  refine Kn ?_
  intro a ha hsz;refine leaves_cons (by simp) rfl ((Iz hw _ rfl).mono ?_)
  rintro e u' w ⟨rfl,rfl,hw⟩
  show Leaves _ _ _ _ [] .returning w
  unfold CP at hw;exact⟨_,T2 (vs:=[.agg #[.slice sa sn sc,.slice ga gn gc],.agg (enc (⟨0,0⟩:C8)).toArray,.int .i64 0]) (by decide) (by rw[ha];exact⟨J2 (i:=0) hw rfl rfl rfl,J2 (i:=1) hw rfl rfl rfl,RI (i:=2) hw rfl rfl rfl,trivial⟩),Γ2,_,_,gs,hle.trans hle2,rfl,hq,hw.ds [0,0,0]⟩
end
end Go.Proofs.YtlmiakjbogojgaaGreatDoor
end
section
open Go Mk
namespace Go.Proofs.YtlmiakjbogojgaaGreatDoor
set_option maxHeartbeats 32000000
attribute [local irreducible] Calls B0 C0
section
variable {toks:List Tok}{e:C8}{σ:RS}{k:Nat}
theorem Goes.words{β:Type}{P:PR β}{f:Nat}{acc:List ByteArray}{R:List ByteArray→Nat→PR β}(h:Goes P σ fun k=>C6 (U0 toks e (f+1) acc k) R) :
  ((decide (σ.er=0)&&L5 toks σ.I 4 I9)=true∧Goes P (G7 toks σ 4 I9) fun k=>C6 (M5 toks e k) fun o k1=>C6 (U0 toks e f (acc++[o]) k1) R) ∨
  ((decide (σ.er=0)&&L5 toks σ.I 4 I9)=false∧Goes P σ (R acc)):=by
 rcases h with⟨h0,hP⟩|⟨h0,hP⟩
 ·have hP:P=C6 (U0 toks e (f+1) acc σ.I) R:=hP
  unfold U0 at hP;have hc:M4 toks σ.I 4 K4=L5 toks σ.I 4 I9:=M2 (by decide)
  rw[hc]at hP;by_cases hb:L5 toks σ.I 4 I9=true
  ·refine .inl ⟨by rw[hb,decide_eq_true h0];rfl,?_⟩
   rw[Y9 h0 hb];refine .inl ⟨rfl,?_⟩
   rw[hP,if_pos hb,w6]
  ·refine .inr ⟨by rw[decide_eq_true h0];simpa using hb,.inl ⟨h0,?_⟩⟩
   rw[hP,if_neg hb];rfl
 ·exact .inr ⟨by rw[decide_eq_false h0];rfl,.inr ⟨h0,hP⟩⟩
theorem Goes.goals{β:Type}{P:PR β}{f:Nat}{acc:List F6}{R:List F6→Nat→PR β}(h:Goes P σ fun k=>C6 (X5 toks e (f+1) acc k) R) :
  ((decide (σ.er=0)&&L5 toks σ.I 4 I9)=true∧Goes P (G7 toks σ 4 I9) fun k=>C6 (M6 toks e k) fun o k1=>C6 (X5 toks e f (acc++[o]) k1) R) ∨
  ((decide (σ.er=0)&&L5 toks σ.I 4 I9)=false∧Goes P σ (R acc)):=by
 rcases h with⟨h0,hP⟩|⟨h0,hP⟩
 ·have hP:P=C6 (X5 toks e (f+1) acc σ.I) R:=hP
  unfold X5 at hP;have hc:M4 toks σ.I 4 K4=L5 toks σ.I 4 I9:=M2 (by decide)
  rw[hc]at hP;by_cases hb:L5 toks σ.I 4 I9=true
  ·refine .inl ⟨by rw[hb,decide_eq_true h0];rfl,?_⟩
   rw[Y9 h0 hb];refine .inl ⟨rfl,?_⟩
   rw[hP,if_pos hb,w6]
  ·refine .inr ⟨by rw[decide_eq_true h0];simpa using hb,.inl ⟨h0,?_⟩⟩
   rw[hP,if_neg hb];rfl
 ·exact .inr ⟨by rw[decide_eq_false h0];rfl,.inr ⟨h0,hP⟩⟩
theorem Goes.sel{β:Type}{P:PR β}{R:List ByteArray→Nat→PR β}(h:Goes P σ fun k=>C6 (Jz toks e k) R)(h0:σ.er=0) :
  (L5 toks σ.I 1 K5=true∧Goes P σ (R []))∨(L5 toks σ.I 1 K5=false∧Goes P σ fun k=>C6 (M5 toks e k) fun o k1=>C6 (U0 toks e (toks.length+1) ([]++[o]) k1) R):=by
 have hP:=(h.resolve_right fun q=>q.1 h0).2
 have hP:P=C6 (Jz toks e σ.I) R:=hP
 unfold Jz at hP;rw[show M4 toks σ.I 1 K5=L5 toks σ.I 1 K5 from M2 (by decide)]at hP
 cases hb:L5 toks σ.I 1 K5 with
 | true=>
  refine .inl ⟨rfl,.inl ⟨h0,?_⟩⟩
  rw[hP,hb,if_pos rfl];rfl
 | false=>
  refine .inr ⟨rfl,.inl ⟨h0,?_⟩⟩
  rw[hP,hb,if_neg (by decide),w6];rfl
theorem QE(h2:u3 (pk toks k).Text=true):M5 toks e k=.error (G2 toks k e,50):=by
 unfold M5;rw[N3,if_neg (fun q=>by rw[h2]at q;cases q.2)]
theorem QN(h:σ.er=0)(h2:(N9 toks e σ 1).2.er=0):σ.I<(N9 toks e σ 1).2.I:=by
 cases hk:F8 toks σ.I 1 with
 | true=>
  rw[Hm h hk]at h2 ⊢
  dsimp only at h2 ⊢
  split
  ·rename_i q
   rw[if_pos q]at h2;exact absurd h2 Uz
  ·exact Nat.lt_succ_self _
 | false=>
  rw[ME h hk]at h2;exact absurd h2 Ie
def Ue:PR D8→D8×C8×Int
 | .ok (q,_)=>(q,⟨0,0⟩,0)
 | .error (p,er)=>(⟨[],[]⟩,p,er)
theorem NE{s:ByteArray}:Q8 s=Ue (rdS (V8 (C7 s).1 (C0 s)) ⟨0,(C7 s).2.1,(C7 s).2.2⟩):=by
 unfold Q8 rdS;by_cases h:(C7 s).2.2=0
 ·rw[if_pos h,if_pos (show (⟨0,(C7 s).2.1,(C7 s).2.2⟩:RS).er=0 from h)];show _=Ue (V8 (C7 s).1 (C0 s) 0)
  cases V8 (C7 s).1 (C0 s) 0 <;> rfl
 ·rw[if_neg h,if_neg (show ¬(⟨0,(C7 s).2.1,(C7 s).2.2⟩:RS).er=0 from h)];rfl
end
end Go.Proofs.YtlmiakjbogojgaaGreatDoor
end
section
open Go Mk
namespace Go.Proofs.YtlmiakjbogojgaaGreatDoor
set_option maxHeartbeats 32000000
attribute [local irreducible] Calls B0 C0 C7
section
variable {Γ:C4}{S:List B5}{w:World}
theorem JA(s:ByteArray)[hs:SZ s](hw:Wd Γ S w) :
  Calls Tryz.prog 8 #[.string s] w fun r w'=>∃Γ' vs vg gs,Γ.le Γ'∧r=.returned (.tuple #[.agg #[vs,vg],.agg (enc (Q8 s).2.1).toArray,.int .i64 (Q8 s).2.2])∧QR Γ' vs vg gs (Q8 s).1∧Wd Γ' S w':=by
 rw[NE];obtain⟨P,hP⟩:∃P,P=rdS (V8 (C7 s).1 (C0 s)) ⟨0,(C7 s).2.1,(C7 s).2.2⟩:=⟨_,rfl⟩
 have hG:Goes P ⟨0,(C7 s).2.1,(C7 s).2.2⟩ (V8 (C7 s).1 (C0 s)):=by rw[hP];exact Goes.start
 rw[←hP];clear hP;have hW:X8 (C7 s).1:=FC
 refine F1 Tryz.func8 rfl rfl ?_
 repeat first|refine A5 ?_|refine A6 ?_;intro w hw
 refine B7 ?_;intro b2 w hw;refine B7 ?_;intro b3 w hw;have hw:Wd Γ (.blk b2 (.cells #[.slice none 0 0,.slice none 0 0] 25)::.blk b3 (.cells (enc (⟨0,0⟩:C8)).toArray 29)::S) w:=hw.ps [1]
 repeat first|refine A5 ?_|refine A6 ?_;intro w hw
 refine B9 ?_;refine(QZ s hs.h hw).mono ?_
 clear hw;rintro r w ⟨Γ1,bp,a,n,c,hle,rfl,ht,hw⟩
 refine⟨_,rfl,?_⟩;obtain⟨hn,hnc,hc⟩:=ht.len;have hbig:=ht.big
 generalize C7 s=q at *
 obtain⟨toks,p1,e1⟩:=q;dsimp only at ht hw hn hG hW
 repeat first|refine A5 ?_|refine A6 ?_;intro w hw
 refine B7 ?_;intro b6 w hw;have hw:Wd Γ1 (I5 bp s a n c ⟨0,p1,e1⟩::.blk b6 (.cells #[.slice none 0 0,.slice none 0 0] 25)::.blk b2 (.cells #[.slice none 0 0,.slice none 0 0] 25)::.blk b3 (.cells (enc (⟨0,0⟩:C8)).toArray 29)::S) w:=hw.ps [1]
 repeat first|refine A5 ?_|refine A6 ?_;intro w hw
 refine B9 ?_;refine(AS 1 m9 hw).mono ?_
 clear hw;rintro r w ⟨rfl,hw⟩
 refine⟨_,rfl,?_⟩;unfold V8 at hG;have hG:=Goes.exp (by decide) hG
 have hI1:(Q0 toks (C0 s) ⟨0,p1,e1⟩ 1 m9).I≤toks.length:=BZ (by show 0≤_;omega)
 generalize Q0 toks (C0 s) ⟨0,p1,e1⟩ 1 m9=σ1 at *
 have hw:Wd Γ1 (.own (.slice none 0 0) 9 1 (A1 [])::I5 bp s a n c σ1::.blk b6 (.cells #[.slice none 0 0,.slice none 0 0] 25)::.blk b2 (.cells #[.slice none 0 0,.slice none 0 0] 25)::.blk b3 (.cells (enc (⟨0,0⟩:C8)).toArray 29)::S) w:=Wd.addNil (a:=none) (E:=9) (sz:=1) hw
 refine R5 ?_
 refine Q7 ?_
 refine J6 (fun ρ w=>∃(σ:RS) (acc:List ByteArray) (A:Option Addr) (N C:Nat),σ.I≤toks.length∧Has ρ [(2,.pointer (some ⟨b2,0,none⟩)),(3,.pointer (some ⟨b3,0,none⟩)),(4,.int .i64 0),(5,.pointer (some ⟨bp,0,none⟩)),(6,.pointer (some ⟨b6,0,none⟩))]∧Goes P σ (Cr toks (C0 s) acc)∧Wd Γ1 (.own (.slice A N C) 9 1 (A1 acc)::I5 bp s a n c σ::.blk b6 (.cells #[.slice A N C,.slice none 0 0] 25)::.blk b2 (.cells #[.slice none 0 0,.slice none 0 0] 25)::.blk b3 (.cells (enc (⟨0,0⟩:C8)).toArray 29)::S) w) ?_ ?_
 ·repeat first|refine A5 ?_|refine A6 ?_;intro w hw
  refine C1 (fun μ ρ w=>∃(σ:RS) (acc:List ByteArray) (A:Option Addr) (N C f:Nat),μ+σ.I=n∧n<f+σ.I∧acc.length≤σ.I∧Has ρ [(2,.pointer (some ⟨b2,0,none⟩)),(3,.pointer (some ⟨b3,0,none⟩)),(4,.int .i64 0),(5,.pointer (some ⟨bp,0,none⟩)),(6,.pointer (some ⟨b6,0,none⟩))]∧((acc=[]∧Goes P σ (fun k=>C6 (Jz toks (C0 s) k) (Cr toks (C0 s))))∨(acc≠[]∧Goes P σ (fun k=>C6 (M5 toks (C0 s) k) fun o k1=>C6 (U0 toks (C0 s) f (acc++[o]) k1) (Cr toks (C0 s)))))∧Wd Γ1 (.own (.slice A N C) 9 1 (A1 acc)::I5 bp s a n c σ::.blk b6 (.cells #[.slice A N C,.slice none 0 0] 25)::.blk b2 (.cells #[.slice none 0 0,.slice none 0 0] 25)::.blk b3 (.cells (enc (⟨0,0⟩:C8)).toArray 29)::S) w) (n-σ1.I) ⟨σ1,[],none,0,0,toks.length+1,by omega,by omega,by simp,⟨rfl,rfl,rfl,rfl,rfl,trivial⟩,.inl ⟨rfl,hG⟩,hw⟩ ?_
  repeat clear hw
  clear hG hI1;rintro μ ρ w ⟨σ,acc,A,N,C,f,hμ,hf,hal,hρ,hG,hw⟩
  rw[hρ.eq];clear hρ;have hNl:N=acc.length:=by
   obtain⟨_,_,_,hE,h2,-,-⟩:=hw.own_shape (i:=0) rfl
   cases hE
   simpa[A1] using h2
  have hwK:Wd Γ1 (I5 bp s a n c σ::.own (.slice A N C) 9 1 (A1 acc)::.blk b6 (.cells #[.slice A N C,.slice none 0 0] 25)::.blk b2 (.cells #[.slice none 0 0,.slice none 0 0] 25)::.blk b3 (.cells (enc (⟨0,0⟩:C8)).toArray 29)::S) w:=hw.ps [1]
  clear hw;have hw:=hwK
  clear hwK;repeat(first|refine A5 ?_|(refine A6 ?_;intro w hw)|(apply P5;apply U9;refine MS ?_;intro w hw)|(apply I7;apply U9;refine EF ?_;intro w hw))
  refine A0 rfl (fun h=>?_) (fun h=>?_)
  rotate_left
  ·have h:(decide (σ.er=0)&&(decide ((0:Int)<(N:Int)) || !(decide (σ.er=0)&&L5 toks σ.I 1 K5)))=false:=h
   repeat first|refine A5 ?_|refine A6 ?_;intro w hw
   refine⟨σ,acc,A,N,C,by omega,⟨rfl,rfl,rfl,rfl,rfl,trivial⟩,?_,hw.ps [1]⟩
   by_cases h0:σ.er=0
   ·rw[decide_eq_true h0,Bool.true_and,Bool.or_eq_false_iff,decide_eq_false_iff_not]at h;have ha:acc=[]:=List.length_eq_zero_iff.1 (by omega)
    subst ha;have hG:=(hG.resolve_right fun q=>q.1 rfl).2
    rcases hG.sel h0 with⟨q1,q2⟩|⟨q1,q2⟩
    ·exact q2
    ·rw[q1]at h;exact absurd h.2 (by decide)
   ·rcases hG with⟨-,q⟩|⟨-,q⟩ <;> exact .inr (q.resolve_left fun q=>h0 q.1)
  have h:(decide (σ.er=0)&&(decide ((0:Int)<(N:Int)) || !(decide (σ.er=0)&&L5 toks σ.I 1 K5)))=true:=h
  rw[Bool.and_eq_true]at h;obtain⟨h0,h⟩:=h;have h0:σ.er=0:=of_decide_eq_true h0
  have hG2:∃f,n<f+σ.I∧Goes P σ (fun k=>C6 (M5 toks (C0 s) k) fun o k1=>C6 (U0 toks (C0 s) f (acc++[o]) k1) (Cr toks (C0 s))):=by
   rcases hG with⟨rfl,q⟩|⟨-,q⟩
   ·refine⟨toks.length+1,by omega,?_⟩
    rcases q.sel h0 with⟨q1,-⟩|⟨-,q2⟩
    ·rw[decide_eq_true h0,q1,decide_eq_false (show ¬(0:Int)<(N:Int) by simp at hNl;omega)]at h
     cases h
    ·exact q2
   ·exact⟨f,hf,q⟩
  clear h hG hf;clear f;obtain⟨f,hf,hG⟩:=hG2;have htk:(decide (σ.er=0)&&F8 toks σ.I 1)=true→toks[σ.I]? = some (pk toks σ.I):=fun q=>by
   obtain⟨t,ht⟩:=B8 (l:=toks) (k:=σ.I) (S0 (T9 q))
   rw[ht,Bn ht]
  have hlt:(decide (σ.er=0)&&F8 toks σ.I 1)=true→σ.I<n:=fun q=>by rw[hn];exact S0 (T9 q)
  have hr:=ht.h
  have hI:σ.I≤n:=by omega
  refine Ca ?_
  refine IP ?_
  refine Q7 ?_
  refine J6 (fun ρ w=>∃σ2:RS,σ2.I=σ.I∧Has ρ [(2,.pointer (some ⟨b2,0,none⟩)),(3,.pointer (some ⟨b3,0,none⟩)),(4,.int .i64 0),(5,.pointer (some ⟨bp,0,none⟩)),(6,.pointer (some ⟨b6,0,none⟩))]∧Goes P σ2 (fun k=>C6 (M5 toks (C0 s) k) fun o k1=>C6 (U0 toks (C0 s) f (acc++[o]) k1) (Cr toks (C0 s)))∧(σ2.er=0→F8 toks σ2.I 1=true→u3 (pk toks σ2.I).Text=false)∧Wd Γ1 (I5 bp s a n c σ2::.own (.slice A N C) 9 1 (A1 acc)::.blk b6 (.cells #[.slice A N C,.slice none 0 0] 25)::.blk b2 (.cells #[.slice none 0 0,.slice none 0 0] 25)::.blk b3 (.cells (enc (⟨0,0⟩:C8)).toArray 29)::S) w) ?_ ?_
  ·repeat first|refine A5 ?_|refine A6 ?_;intro w hw
   refine H0 (by kernel_rfl) (by kernel_rfl) hw ?_
   repeat(first|(first|refine P2 ?_|(apply D1;first|(apply F4;first|refine qP ?_|refine CO ?_)|refine qY ?_)|(apply B4;first|(apply F4;first|refine Dj ?_|refine Z0 ?_)|refine qG ?_))|(apply D1;apply F4;refine Fp ?_)|(apply B4;apply F4;refine y7 ?_))
   apply B4
   refine qG ?_ (hy:=fun hc w hw=>by
    have h1:=hlt hc
    exact BF)
   repeat(first|(first|refine P2 ?_|(apply D1;first|(apply F4;first|refine qP ?_|refine CO ?_)|refine qY ?_)|(apply B4;first|(apply F4;first|refine Dj ?_|refine Z0 ?_)|refine qG ?_))|(apply D1;apply F4;refine Fp ?_)|(apply B4;apply F4;refine y7 ?_))
   apply B4
   refine qG ?_ (hy:=fun hc w hw=>by
    have h1:=htk hc
    exact BF)
   repeat(first|(first|refine P2 ?_|(apply D1;first|(apply F4;first|refine qP ?_|refine CO ?_)|refine qY ?_)|(apply B4;first|(apply F4;first|refine Dj ?_|refine Z0 ?_)|refine qG ?_))|(apply D1;apply F4;refine Fp ?_)|(apply B4;apply F4;refine y7 ?_))
   intro w hw;refine A0 rfl (fun h=>?_) (fun h=>?_)
   ·have h:((decide (σ.er=0)&&F8 toks σ.I 1)&&u3 (pk toks σ.I).Text)=true:=h
    rw[Bool.and_eq_true]at h;repeat first|refine A5 ?_|refine A6 ?_;intro w hw
    refine B9 ?_;refine(Q6 (σ.I:Int) σ.I 50 (fun _=>rfl) hw).mono ?_
    clear hw;rintro r w ⟨rfl,hw⟩
    refine⟨_,rfl,?_⟩;have hF:=V5 (toks:=toks) (e:=C0 s) (i:=σ.I) (er:=50) h0
    rw[hF]at hw;repeat first|refine A5 ?_|refine A6 ?_;intro w hw
    refine⟨⟨σ.I,G2 toks σ.I (C0 s),50⟩,rfl,⟨rfl,rfl,rfl,rfl,rfl,trivial⟩,.inr ⟨Ie,?_⟩,(fun q=>absurd q Ie),hw⟩
    have hP:=(hG.resolve_right fun q=>q.1 h0).2
    rw[hP];show C6 (M5 toks (C0 s) σ.I) _=_
    rw[QE h.2];rfl
   ·have h:((decide (σ.er=0)&&F8 toks σ.I 1)&&u3 (pk toks σ.I).Text)=false:=h
    repeat first|refine A5 ?_|refine A6 ?_;intro w hw
    refine⟨σ,rfl,⟨rfl,rfl,rfl,rfl,rfl,trivial⟩,hG,(fun h0 h1=>?_),hw⟩
    rw[decide_eq_true h0,h1]at h;exact h
  repeat clear hw
  clear hG htk hlt h0;rintro ρ w ⟨σ2,hI2,hρ,hG,hkw,hw⟩
  rw[hρ.eq];clear hρ;have hG:=hG.next (q:=N9 toks (C0 s) σ2 1) (fun h0=>HD h0 (hkw h0)) FW
  have hI3:=Cj (toks:=toks) (e:=C0 s) (kind:=1) (τ:=σ2) (by omega)
  have hI4:=QN (toks:=toks) (e:=C0 s) (σ:=σ2)
  have hI5:=FW (toks:=toks) (e:=C0 s) (τ:=σ2) (kind:=1)
  have hNm:∀(X:List B5) (w:World),Wd Γ1 (I5 bp s a n c σ2::X) w→_:=fun X w hw=>DX (S:=X) 1 (by omega) hw
  generalize N9 toks (C0 s) σ2 1=q at *
  obtain⟨nm,σ3⟩:=q;dsimp only at hG hI3 hI4 hI5 hNm
  repeat first|refine A5 ?_|refine A6 ?_;intro w hw
  refine Y7 [.blk b2 (.cells #[.slice none 0 0,.slice none 0 0] 25),.blk b3 (.cells (enc (⟨0,0⟩:C8)).toArray 29)] [.blk b6 (.cells #[.slice A N C,.slice none 0 0] 25)] (.own (.slice A N C) 9 1 (A1 acc)::I5 bp s a n c σ2::S) [] [49,50,51] [] [[],[],[],[1],[1],[1],[],[0,1]] [[],[0],[],[1],[1],[1],[],[0,1]] (by rw[List.append_nil];exact hw.perm L2) ?_
  repeat(first|refine mY ?_|refine mP ?_|refine O0 ?_|refine W0 ?_|refine X6 ?_)
  refine X7 (c:=1) (T:=Unit) (T':=Unit) (vs:=[.pointer (some ⟨bp,0,none⟩),.int .i64 1]) (fun _=>.string nm) (fun _=>I5 bp s a n c σ3::.own (.slice A N C) 9 1 (A1 acc)::S) (R:=fun _=>.own (.slice A N C) 9 1 (A1 acc)::I5 bp s a n c σ2::S) (fun _ Y w hw=>(hNm _ w (hw.ps [1]:Wd Γ1 (I5 bp s a n c σ2::(.own (.slice A N C) 9 1 (A1 acc)::(S++Y))) w)).mono fun r w h=>⟨(),h.1,h.2⟩) ?_
  refine R2 (T:=Unit) (fun _=>[[.string nm]]) ?_ ?_
  rotate_left
  ·intro t g h;have h2:g 49=.string nm:=h
   show S1 _ _ [(0,g 49)]=_
   rw[h2];rfl
  refine w5 (T:=Unit×Addr) (j:=2) (j2:=0) (fun t=>some t.2) (fun _=>[[.string nm]]) ?_ ?_
  rotate_left
  ·intro t g h;exact h.2
  refine W9 ?_;refine Y3 (T:=(Unit×Addr)×Value) (j:=2) (val:=fun t=>t.2) ?_ ?_
  rotate_left
  ·intro t g h;exact h.2
  refine v7 fun t w g h hw=>?_
  obtain⟨⟨⟨⟩,aB⟩,vv⟩:=t;have hw:Wd Γ1 (.blk b6 (.cells #[vv,.slice none 0 0] 25)::.own (.slice (some aB) 1 1) 9 1 [[.string nm]]::I5 bp s a n c σ3::.own vv 9 1 (A1 acc++[[.string nm]])::(S++[.blk b2 (.cells #[.slice none 0 0,.slice none 0 0] 25),.blk b3 (.cells (enc (⟨0,0⟩:C8)).toArray 29)])) w:=hw
  obtain⟨A2,N2,C2,hvv,hN2,hNC2,hC2⟩:=hw.own_shape (i:=3) rfl
  rw[hvv]at hw;rw[show A1 acc++[[.string nm]]=A1 (acc++[nm]) from by unfold A1;rw[List.map_append];rfl]at hw hN2
  have hw:Wd Γ1 (.own (.slice A2 N2 C2) 9 1 (A1 (acc++[nm]))::I5 bp s a n c σ3::.blk b6 (.cells #[.slice A2 N2 C2,.slice none 0 0] 25)::.blk b2 (.cells #[.slice none 0 0,.slice none 0 0] 25)::.blk b3 (.cells (enc (⟨0,0⟩:C8)).toArray 29)::S) w:=(hw.dropAt 1).perm L2
  clear hNm;repeat first|refine A5 ?_|refine A6 ?_;intro w hw
  refine B9 ?_;refine(X9 4 I9 (hw.ps [1])).mono ?_
  repeat clear hw
  rintro r w ⟨rfl,hw⟩
  refine⟨_,rfl,?_⟩;by_cases h30:σ3.er=0
  ·have h20:σ2.er=0:=by
    by_cases h2:σ2.er=0
    ·exact h2
    ·rw[←hI5 h2];exact h30
   have hI4:=hI4 h20 h30
   obtain⟨f,rfl⟩:∃f',f=f'+1:=⟨f-1,by omega⟩
   rcases hG.words with⟨hb,hG⟩|⟨hb,hG⟩
   ·have hlt:=CR (T9 hb)
    have hT:G7 toks σ3 4 I9=⟨σ3.I+1,σ3.p,0⟩:=Y9 h30 (T9 hb)
    rw[hb];rw[hT]at hw hG
    repeat first|refine A5 ?_|refine A6 ?_;intro w hw
    refine L3 rfl ?_
    repeat first|refine A5 ?_|refine A6 ?_;intro w hw
    refine⟨n-(σ3.I+1),by omega,⟨σ3.I+1,σ3.p,0⟩,acc++[nm],A2,N2,C2,f,by show n-(σ3.I+1)+(σ3.I+1)=n;omega,by show n<f+(σ3.I+1);omega,by rw[List.length_append];show acc.length+1≤σ3.I+1;omega,⟨rfl,rfl,rfl,rfl,rfl,trivial⟩,.inr ⟨by simp,?_⟩,hw.ps [1]⟩
    exact hG
   ·rw[hb];have hT:G7 toks σ3 4 I9=σ3:=by unfold G7;rw[if_neg (by rw[hb];decide)]
    rw[hT]at hw;repeat first|refine A5 ?_|refine A6 ?_;intro w hw
    refine G1 rfl ?_
    repeat first|refine A5 ?_|refine A6 ?_;intro w hw
    exact⟨σ3,acc++[nm],A2,N2,C2,by omega,⟨rfl,rfl,rfl,rfl,rfl,trivial⟩,hG,hw.ps [1]⟩
  ·have hb:(decide (σ3.er=0)&&L5 toks σ3.I 4 I9)=false:=by rw[decide_eq_false h30];rfl
   rw[hb];have hT:G7 toks σ3 4 I9=σ3:=by unfold G7;rw[if_neg (by rw[hb];decide)]
   rw[hT]at hw;repeat first|refine A5 ?_|refine A6 ?_;intro w hw
   refine G1 rfl ?_
   repeat first|refine A5 ?_|refine A6 ?_;intro w hw
   exact⟨σ3,acc++[nm],A2,N2,C2,by omega,⟨rfl,rfl,rfl,rfl,rfl,trivial⟩,.inr (hG.resolve_left fun q=>h30 q.1),hw.ps [1]⟩
 repeat clear hw
 clear hG hI1;rintro ρ w ⟨σ,sel,sa,sn,sc,hI1,hρ,hG,hw⟩
 rw[hρ.eq];clear hρ;unfold Cr at hG;repeat first|refine A5 ?_|refine A6 ?_;intro w hw
 refine B9 ?_;refine(AS 1 K5 (hw.ps [1])).mono ?_
 repeat clear hw
 rintro r w ⟨rfl,hw⟩
 refine⟨_,rfl,?_⟩;have hG:=Goes.exp (by decide) hG
 have hI2:(Q0 toks (C0 s) σ 1 K5).I≤toks.length:=BZ hI1
 generalize Q0 toks (C0 s) σ 1 K5=σ2 at *
 have hw:Wd Γ1 (.own (.slice none 0 0) 77 15 (([]:List E6).map cG)::I5 bp s a n c σ2::.blk b6 (.cells #[.slice sa sn sc,.slice none 0 0] 25)::.blk b2 (.cells #[.slice none 0 0,.slice none 0 0] 25)::.blk b3 (.cells (enc (⟨0,0⟩:C8)).toArray 29)::.own (.slice sa sn sc) 9 1 (A1 sel)::S) w:=(Wd.addNil (a:=none) (E:=77) (sz:=15) hw).ps [2,5,4,3,5] |>.perm L2
 obtain⟨RR,hRR⟩:∃RR:List F6→Nat→PR D8,RR=fun gs k5=>if k5<toks.length then .error (G2 toks k5 (C0 s),50) else .ok (⟨sel,gs⟩,k5):=⟨_,rfl⟩
 have hG:Goes P σ2 (fun k=>C6 (M6 toks (C0 s) k) fun g k1=>C6 (X5 toks (C0 s) (toks.length+1) ([]++[g]) k1) RR):=by rw[hRR];exact hG
 refine R5 ?_
 refine Q7 ?_
 refine J6 (fun ρ w=>∃(σ:RS) (Γ2:C4) (ga:Option Addr) (gn gc:Nat) (gs:List E6),σ.I≤toks.length∧Γ1.le Γ2∧(∀x∈gs,Eu Γ2 x)∧Has ρ [(2,.pointer (some ⟨b2,0,none⟩)),(3,.pointer (some ⟨b3,0,none⟩)),(4,.int .i64 0),(5,.pointer (some ⟨bp,0,none⟩)),(6,.pointer (some ⟨b6,0,none⟩))]∧Goes P σ (RR (gs.map (·.g)))∧Wd Γ2 (.own (.slice ga gn gc) 77 15 (gs.map cG)::I5 bp s a n c σ::.blk b6 (.cells #[.slice sa sn sc,.slice ga gn gc] 25)::.blk b2 (.cells #[.slice none 0 0,.slice none 0 0] 25)::.blk b3 (.cells (enc (⟨0,0⟩:C8)).toArray 29)::.own (.slice sa sn sc) 9 1 (A1 sel)::S) w) ?_ ?_
 ·repeat first|refine A5 ?_|refine A6 ?_;intro w hw
  refine C1 (fun μ ρ w=>∃(σ:RS) (Γ2:C4) (ga:Option Addr) (gn gc:Nat) (gs:List E6) (f:Nat),μ+σ.I=n∧n<f+σ.I∧gs.length≤σ.I∧Γ1.le Γ2∧(∀x∈gs,Eu Γ2 x)∧Has ρ [(2,.pointer (some ⟨b2,0,none⟩)),(3,.pointer (some ⟨b3,0,none⟩)),(4,.int .i64 0),(5,.pointer (some ⟨bp,0,none⟩)),(6,.pointer (some ⟨b6,0,none⟩))]∧Goes P σ (fun k=>C6 (M6 toks (C0 s) k) fun g k1=>C6 (X5 toks (C0 s) f (gs.map (·.g)++[g]) k1) RR)∧Wd Γ2 (.own (.slice ga gn gc) 77 15 (gs.map cG)::I5 bp s a n c σ::.blk b6 (.cells #[.slice sa sn sc,.slice ga gn gc] 25)::.blk b2 (.cells #[.slice none 0 0,.slice none 0 0] 25)::.blk b3 (.cells (enc (⟨0,0⟩:C8)).toArray 29)::.own (.slice sa sn sc) 9 1 (A1 sel)::S) w) (n-σ2.I) ⟨σ2,Γ1,none,0,0,[],toks.length+1,by omega,by omega,by simp,C4.le.refl _,(fun x hx=>by cases hx),⟨rfl,rfl,rfl,rfl,rfl,trivial⟩,hG,hw⟩ ?_
  repeat clear hw
  clear hG hI1 hI2;rintro μ ρ w ⟨σ,Γ2,ga,gn,gc,gs,f,hμ,hf,hal,hle2,hok,hρ,hG,hw⟩
  rw[hρ.eq];clear hρ;haveI ht2:z8 Γ2 a n c toks:=ht.mono hle2
  have hNl:gn=gs.length:=by
   obtain⟨_,_,_,hE,h2,-,-⟩:=hw.own_shape (i:=0) rfl
   cases hE
   simpa using h2
  have hwK:Wd Γ2 (I5 bp s a n c σ::.own (.slice ga gn gc) 77 15 (gs.map cG)::.blk b6 (.cells #[.slice sa sn sc,.slice ga gn gc] 25)::.blk b2 (.cells #[.slice none 0 0,.slice none 0 0] 25)::.blk b3 (.cells (enc (⟨0,0⟩:C8)).toArray 29)::.own (.slice sa sn sc) 9 1 (A1 sel)::S) w:=hw.ps [1]
  clear hw;have hw:=hwK
  clear hwK;repeat(first|refine A5 ?_|(refine A6 ?_;intro w hw)|(apply P5;apply U9;refine MS ?_;intro w hw)|(apply I7;apply U9;refine EF ?_;intro w hw))
  refine A0 rfl (fun h=>?_) (fun h=>?_)
  rotate_left
  ·have h0:σ.er≠0:=of_decide_eq_false h
   repeat first|refine A5 ?_|refine A6 ?_;intro w hw
   exact⟨σ,Γ2,ga,gn,gc,gs,by omega,hle2,hok,⟨rfl,rfl,rfl,rfl,rfl,trivial⟩,.inr (hG.resolve_left fun q=>h0 q.1),hw.ps [1]⟩
  have h0:σ.er=0:=of_decide_eq_true h
  repeat first|refine A5 ?_|refine A6 ?_;intro w hw
  refine Y7 [.blk b2 (.cells #[.slice none 0 0,.slice none 0 0] 25),.blk b3 (.cells (enc (⟨0,0⟩:C8)).toArray 29)] [.blk b6 (.cells #[.slice sa sn sc,.slice ga gn gc] 25)] (.own (.slice ga gn gc) 77 15 (gs.map cG)::I5 bp s a n c σ::.own (.slice sa sn sc) 9 1 (A1 sel)::S) [] [63,64,65] [] [[],[],[],[1],[1],[1],[],[0,1]] [[],[0],[],[1],[1],[1],[],[0,1]] (by rw[List.append_nil];exact hw.perm L2) ?_
  repeat(first|refine mY ?_|refine mP ?_|refine O0 ?_|refine W0 ?_|refine X6 ?_)
  refine X7 (c:=1) (T:=Unit) (T':={x:F6×EN×RS // x.2.2.I≤n∧Goes (rdS (M6 toks (C0 s)) σ) x.2.2 (fun k=>.ok (x.1,k))}) (vs:=[.pointer (some ⟨bp,0,none⟩)]) (fun x=>.agg (cG ⟨x.1.1,x.1.2.1.1,x.1.2.1.2.1,x.1.2.1.2.2⟩).toArray) (fun x=>.own (Ef x.1.2.1) 75 4 (x.1.1.Args.map enc)::I5 bp s a n c x.1.2.2::.own (.slice ga gn gc) 77 15 (gs.map cG)::.own (.slice sa sn sc) 9 1 (A1 sel)::S) (R:=fun _=>.own (.slice ga gn gc) 77 15 (gs.map cG)::I5 bp s a n c σ::.own (.slice sa sn sc) 9 1 (A1 sel)::S) (fun _ Y w hw=>(Mz hW (by omega) (hw.ps [1]:Wd Γ2 (I5 bp s a n c σ::(.own (.slice ga gn gc) 77 15 (gs.map cG)::.own (.slice sa sn sc) 9 1 (A1 sel)::(S++Y))) w)).mono fun r w ⟨g,v,σ',h1,h2,h3,h4⟩=>⟨⟨(g,v,σ'),h2,h3⟩,h1,h4⟩) ?_
  refine R2 (T:={x:F6×EN×RS // x.2.2.I≤n∧Goes (rdS (M6 toks (C0 s)) σ) x.2.2 (fun k=>.ok (x.1,k))}) (fun x=>[cG ⟨x.1.1,x.1.2.1.1,x.1.2.1.2.1,x.1.2.1.2.2⟩]) ?_ ?_
  rotate_left
  ·intro t gg h;have h2:gg 63=.agg (cG ⟨t.1.1,t.1.2.1.1,t.1.2.1.2.1,t.1.2.1.2.2⟩).toArray:=h
   show S1 _ _ [(0,gg 63)]=_
   rw[h2];rfl
  refine w5 (T:={x:F6×EN×RS // x.2.2.I≤n∧Goes (rdS (M6 toks (C0 s)) σ) x.2.2 (fun k=>.ok (x.1,k))} × Addr) (j:=3) (j2:=0) (fun t=>some t.2) (fun t=>[cG ⟨t.1.1.1,t.1.1.2.1.1,t.1.1.2.1.2.1,t.1.1.2.1.2.2⟩]) ?_ ?_
  rotate_left
  ·intro t g h;exact h.2
  refine W9 ?_;refine Y3 (T:=({x:F6×EN×RS // x.2.2.I≤n∧Goes (rdS (M6 toks (C0 s)) σ) x.2.2 (fun k=>.ok (x.1,k))} × Addr)×Value) (j:=3) (val:=fun t=>t.2) ?_ ?_
  rotate_left
  ·intro t g h;exact h.2
  refine v7 fun t w g' h hw=>?_
  obtain⟨⟨⟨⟨g,⟨Ax,Nx,Cx⟩,σ3⟩,hI3,hG3⟩,aB⟩,vv⟩:=t;dsimp only at hI3 hG3
  have hw:Wd Γ2 (.blk b6 (.cells #[.slice sa sn sc,vv] 25)::.own (.slice (some aB) 1 1) 77 15 [cG ⟨g,Ax,Nx,Cx⟩]::.own (.slice Ax Nx Cx) 75 4 (g.Args.map enc)::I5 bp s a n c σ3::.own vv 77 15 (gs.map cG++[cG ⟨g,Ax,Nx,Cx⟩])::.own (.slice sa sn sc) 9 1 (A1 sel)::(S++[.blk b2 (.cells #[.slice none 0 0,.slice none 0 0] 25),.blk b3 (.cells (enc (⟨0,0⟩:C8)).toArray 29)])) w:=hw
  obtain⟨A2,N2,C2,hvv,hN2,hNC2,hC2⟩:=hw.own_shape (i:=4) rfl
  rw[hvv]at hw;obtain⟨Γ3,hle3,hfo,hw⟩:=Wd.freeze (hw.ps [2]:Wd Γ2 (.own (.slice Ax Nx Cx) 75 4 (g.Args.map enc)::.blk b6 (.cells #[.slice sa sn sc,.slice A2 N2 C2] 25)::.own (.slice (some aB) 1 1) 77 15 [cG ⟨g,Ax,Nx,Cx⟩]::I5 bp s a n c σ3::.own (.slice A2 N2 C2) 77 15 (gs.map cG++[cG ⟨g,Ax,Nx,Cx⟩])::.own (.slice sa sn sc) 9 1 (A1 sel)::(S++[.blk b2 (.cells #[.slice none 0 0,.slice none 0 0] 25),.blk b3 (.cells (enc (⟨0,0⟩:C8)).toArray 29)])) w)
  have hw:Wd Γ3 (.own (.slice A2 N2 C2) 77 15 ((gs++[(⟨g,Ax,Nx,Cx⟩:E6)]).map cG)::I5 bp s a n c σ3::.blk b6 (.cells #[.slice sa sn sc,.slice A2 N2 C2] 25)::.blk b2 (.cells #[.slice none 0 0,.slice none 0 0] 25)::.blk b3 (.cells (enc (⟨0,0⟩:C8)).toArray 29)::.own (.slice sa sn sc) 9 1 (A1 sel)::S) w:=by
   rw[List.map_append];exact(hw.dropAt 1).perm L2
  have hok2:∀x∈gs++[(⟨g,Ax,Nx,Cx⟩:E6)],Eu Γ3 x:=fun x hx=>by
   rcases List.mem_append.1 hx with hx|hx
   ·exact(hok x hx).mono hle3
   ·rw[List.mem_singleton.1 hx];exact hfo
  have hG:=hG.cont hG3
  have hmap:gs.map (·.g)++[g]=(gs++[(⟨g,Ax,Nx,Cx⟩:E6)]).map (·.g):=by rw[List.map_append];rfl
  rw[hmap]at hG;have hI4:σ3.er=0→σ.I<σ3.I:=fun h3=>by
   have:=(hG3.resolve_right fun q=>q.1 h3).2
   unfold rdS at this;rw[if_pos h0]at this;exact Cn this
  haveI ht3:z8 Γ3 a n c toks:=ht2.mono hle3
  repeat first|refine A5 ?_|refine A6 ?_;intro w hw
  refine B9 ?_;refine(X9 4 I9 (hw.ps [1])).mono ?_
  repeat clear hw
  rintro r w ⟨rfl,hw⟩
  refine⟨_,rfl,?_⟩;by_cases h30:σ3.er=0
  ·have hI4:=hI4 h30
   obtain⟨f,rfl⟩:∃f',f=f'+1:=⟨f-1,by omega⟩
   rcases hG.goals with⟨hb,hG⟩|⟨hb,hG⟩
   ·have hlt:=CR (T9 hb)
    have hT:G7 toks σ3 4 I9=⟨σ3.I+1,σ3.p,0⟩:=Y9 h30 (T9 hb)
    rw[hb];rw[hT]at hw hG
    repeat first|refine A5 ?_|refine A6 ?_;intro w hw
    refine L3 rfl ?_
    repeat first|refine A5 ?_|refine A6 ?_;intro w hw
    exact⟨n-(σ3.I+1),by omega,⟨σ3.I+1,σ3.p,0⟩,Γ3,A2,N2,C2,_,f,by show n-(σ3.I+1)+(σ3.I+1)=n;omega,by show n<f+(σ3.I+1);omega,by rw[List.length_append];show gs.length+1≤σ3.I+1;omega,hle2.trans hle3,hok2,⟨rfl,rfl,rfl,rfl,rfl,trivial⟩,hG,hw.ps [1]⟩
   ·rw[hb];have hT:G7 toks σ3 4 I9=σ3:=by unfold G7;rw[if_neg (by rw[hb];decide)]
    rw[hT]at hw;repeat first|refine A5 ?_|refine A6 ?_;intro w hw
    refine G1 rfl ?_
    repeat first|refine A5 ?_|refine A6 ?_;intro w hw
    exact⟨σ3,Γ3,A2,N2,C2,_,by omega,hle2.trans hle3,hok2,⟨rfl,rfl,rfl,rfl,rfl,trivial⟩,hG,hw.ps [1]⟩
  ·have hb:(decide (σ3.er=0)&&L5 toks σ3.I 4 I9)=false:=by rw[decide_eq_false h30];rfl
   rw[hb];have hT:G7 toks σ3 4 I9=σ3:=by unfold G7;rw[if_neg (by rw[hb];decide)]
   rw[hT]at hw;repeat first|refine A5 ?_|refine A6 ?_;intro w hw
   refine G1 rfl ?_
   repeat first|refine A5 ?_|refine A6 ?_;intro w hw
   exact⟨σ3,Γ3,A2,N2,C2,_,by omega,hle2.trans hle3,hok2,⟨rfl,rfl,rfl,rfl,rfl,trivial⟩,.inr (hG.resolve_left fun q=>h30 q.1),hw.ps [1]⟩
 repeat clear hw
 clear hG hI1 hI2;rintro ρ w ⟨σ,Γ2,ga,gn,gc,gs,hI1,hle2,hok,hρ,hG,hw⟩
 rw[hρ.eq];clear hρ;haveI ht2:z8 Γ2 a n c toks:=ht.mono hle2
 have hw:Wd Γ2 (I5 bp s a n c σ::.own (.slice ga gn gc) 77 15 (gs.map cG)::.blk b6 (.cells #[.slice sa sn sc,.slice ga gn gc] 25)::.blk b2 (.cells #[.slice none 0 0,.slice none 0 0] 25)::.blk b3 (.cells (enc (⟨0,0⟩:C8)).toArray 29)::.own (.slice sa sn sc) 9 1 (A1 sel)::S) w:=hw.ps [1]
 refine Q7 ?_
 refine J6 (fun ρ w=>∃σ3:RS,Has ρ [(2,.pointer (some ⟨b2,0,none⟩)),(3,.pointer (some ⟨b3,0,none⟩)),(4,.int .i64 0),(5,.pointer (some ⟨bp,0,none⟩)),(6,.pointer (some ⟨b6,0,none⟩))]∧Goes P σ3 (fun k=>.ok (⟨sel,gs.map (·.g)⟩,k))∧Wd Γ2 (I5 bp s a n c σ3::.own (.slice ga gn gc) 77 15 (gs.map cG)::.blk b6 (.cells #[.slice sa sn sc,.slice ga gn gc] 25)::.blk b2 (.cells #[.slice none 0 0,.slice none 0 0] 25)::.blk b3 (.cells (enc (⟨0,0⟩:C8)).toArray 29)::.own (.slice sa sn sc) 9 1 (A1 sel)::S) w) ?_ ?_
 ·repeat(first|refine A5 ?_|(refine A6 ?_;intro w hw)|(apply P5;apply U9;refine MS ?_;intro w hw)|(apply I7;apply U9;refine EF ?_;intro w hw))
  refine A0 rfl (fun h=>?_) (fun h=>?_)
  ·have h:(decide (σ.er=0) && !decide ((n:Int)≤σ.I))=true:=h
   rw[Bool.and_eq_true,decide_eq_true_eq,Bool.not_eq_true',decide_eq_false_iff_not]at h;obtain⟨h0,h1⟩:=h;have hP:=(hG.resolve_right fun q=>q.1 h0).2
   rw[hRR]at hP;dsimp only at hP
   rw[if_pos (by omega)]at hP
   repeat first|refine A5 ?_|refine A6 ?_;intro w hw
   refine B9 ?_;refine(Q6 (σ.I:Int) σ.I 50 (fun _=>rfl) hw).mono ?_
   clear hw;rintro r w ⟨rfl,hw⟩
   refine⟨_,rfl,?_⟩;rw[V5 h0]at hw;repeat first|refine A5 ?_|refine A6 ?_;intro w hw
   exact⟨⟨σ.I,G2 toks σ.I (C0 s),50⟩,⟨rfl,rfl,rfl,rfl,rfl,trivial⟩,.inr ⟨Ie,hP⟩,hw⟩
  ·have h:(decide (σ.er=0) && !decide ((n:Int)≤σ.I))=false:=h
   repeat first|refine A5 ?_|refine A6 ?_;intro w hw
   refine⟨σ,⟨rfl,rfl,rfl,rfl,rfl,trivial⟩,hG.elim (fun q=>.inl ⟨q.1,?_⟩) .inr,hw⟩
   rw[decide_eq_true q.1,Bool.true_and,Bool.not_eq_false',decide_eq_true_eq]at h;rw[q.2,hRR];dsimp only
   rw[if_neg (by omega)]
 repeat clear hw
 clear hG hI1 hRR RR;rintro ρ w ⟨σ,hρ,hG,hw⟩
 rw[hρ.eq];clear hρ;repeat(first|refine A5 ?_|(refine A6 ?_;intro w hw)|(apply P5;apply U9;refine MS ?_;intro w hw)|(apply I7;apply U9;refine EF ?_;intro w hw))
 refine A0 rfl (fun h=>?_) (fun h=>?_)
 ·have h0:σ.er≠0:=by
   have h:(!decide (σ.er=0))=true:=h
   simpa using h
  have hP:=(hG.resolve_left fun q=>h0 q.1).2
  rw[hP];repeat first|refine A5 ?_|refine A6 ?_;intro w hw
  refine IE [I5 bp s a n c σ] (.blk b2 (.cells #[.slice none 0 0,.slice none 0 0] 25)::.blk b3 (.cells (enc (⟨0,0⟩:C8)).toArray 29)::S) [[],[],[],[],[],[],[],[],[],[0],[0],[]] [[],[],[],[],[],[],[],[],[],[0],[0],[]] ((((hw.dropAt 1).dropAt 1).dropAt 3)) ?_
  refine W9 ?_;refine f7 ?_
  refine W9 ?_;refine f7 (j:=1) ?_
  refine W9 ?_;refine X6 fun w g hw=>?_
  have hw:Wd Γ2 (I5 bp s a n c σ::(.blk b2 (.cells #[.slice none 0 0,.slice none 0 0] 25)::.blk b3 (.cells (enc σ.p).toArray 29)::S++[])) w:=hw
  rw[List.append_nil]at hw;have hw:Wd Γ2 (.blk b2 (.cells #[.slice none 0 0,.slice none 0 0] 25)::.blk b3 (.cells (enc σ.p).toArray 29)::S) w:=hw.dropAt 0
  repeat first|refine A5 ?_|refine A6 ?_;intro w hw
  refine⟨[.agg #[.slice none 0 0,.slice none 0 0],.agg (enc σ.p).toArray,.int .i64 σ.er],⟨J2 (i:=0) hw rfl rfl rfl,J2 (i:=1) hw rfl rfl rfl,rfl,trivial⟩,?_⟩
  obtain⟨Γ3,hle3,hg3,hw⟩:=Wd.freeze (Wd.addNil (a:=none) (E:=77) (sz:=15) hw)
  obtain⟨Γ4,hle4,hs4,hw⟩:=Wd.freeze (Wd.addNil (a:=none) (E:=9) (sz:=1) hw)
  exact⟨Γ4,_,_,[],hle.trans (hle2.trans (hle3.trans hle4)),rfl,⟨hs4,hg3.mono hle4,rfl,fun x hx=>by cases hx⟩,hw.ds [0,0]⟩
 ·have h0:σ.er=0:=by
   have h:(!decide (σ.er=0))=false:=h
   simpa using h
  have hP:=(hG.resolve_right fun q=>q.1 h0).2
  rw[hP];repeat first|refine A5 ?_|refine A6 ?_;intro w hw
  refine A9 (i:=3) ?_
  intro w hw;refine A9 (i:=4) ?_
  intro w hw;have hw:Wd Γ2 (I5 bp s a n c σ::.own (.slice ga gn gc) 77 15 (gs.map cG)::.blk b6 (.cells #[.slice sa sn sc,.slice ga gn gc] 25)::.blk b2 (.cells #[.slice sa sn sc,.slice ga gn gc] 25)::.blk b3 (.cells (enc (⟨0,0⟩:C8)).toArray 29)::.own (.slice sa sn sc) 9 1 (A1 sel)::S) w:=hw
  have hw:Wd Γ2 (.own (.slice ga gn gc) 77 15 (gs.map cG)::.own (.slice sa sn sc) 9 1 (A1 sel)::.blk b2 (.cells #[.slice sa sn sc,.slice ga gn gc] 25)::.blk b3 (.cells (enc (⟨0,0⟩:C8)).toArray 29)::I5 bp s a n c σ::.blk b6 (.cells #[.slice sa sn sc,.slice ga gn gc] 25)::S) w:=hw.perm L2
  repeat first|refine A5 ?_|refine A6 ?_;intro w hw
  refine⟨[.agg #[.slice sa sn sc,.slice ga gn gc],.agg (enc (⟨0,0⟩:C8)).toArray,.int .i64 0],⟨J2 (i:=2) hw rfl rfl rfl,J2 (i:=3) hw rfl rfl rfl,rfl,trivial⟩,?_⟩
  obtain⟨Γ3,hle3,hg3,hw⟩:=hw.freeze;obtain⟨Γ4,hle4,hs4,hw⟩:=hw.freeze;exact⟨Γ4,_,_,gs,hle.trans (hle2.trans (hle3.trans hle4)),rfl,⟨hs4,hg3.mono hle4,rfl,fun x hx=>(hok x hx).mono (hle3.trans hle4)⟩,hw.ds [0,0,0,0]⟩
end
end Go.Proofs.YtlmiakjbogojgaaGreatDoor
end
section
open Go Mk
namespace Go.Proofs.YtlmiakjbogojgaaGreatDoor
set_option maxHeartbeats 4000000
attribute [local irreducible] Calls
def pT(c:UInt8):Tri:=(4,Nu [c],0)
def CF(w:ByteArray):Bool:=N8 w && !u3 w && !decide (w=J9) && !V7 w
section
variable {toks:List Tok}{e:C8}
theorem Bh{s:ByteArray}(h:N8 s=true):s.size≤24:=by
 unfold N8 at h;rw[Bool.and_eq_true,decide_eq_true_eq]at h;exact h.2
def OV(o:G8):Prop:=(o.Var=C5∧I2 o.Const=true∧u5 o.Const.Num)∨((o.Var=J9∨V7 o.Var=true)∧o.Const=H8)
theorem Tc:J9≠C5:=by decide +kernel
theorem Of{s:ByteArray}(h:s=J9∨V7 s=true):s≠C5:=by
 rcases h with rfl|h
 ·exact Tc
 ·intro q;subst q;have:V7 C5=false:=by decide +kernel
  rw[this]at h;cases h
theorem Bl{s:ByteArray}(h:s=J9∨V7 s=true):s.size≤24:=by
 rcases h with rfl|h
 ·decide
 ·unfold V7 at h;simp only[Bool.and_eq_true]at h
  exact Bh h.1.1
structure GV(g:F6):Prop where
 shape:J0 g=true
 ops:∀o∈E7 g,OV o
 rel:E3 g=true→N8 g.Rel=true∧u3 g.Rel=false∧g.Args≠[]
 num:Z1 g=true
 off:u5 g.Off
 low:u5 g.Low
 high:u5 g.High
structure QV(q:D8):Prop where
 sel:∀s∈q.Sel,V7 s=true
 goals:∀g∈q.Goals,GV g
 some:q.Goals≠[]
end
def NM(n:Int):List UInt8:=Lib.itoa n
def Ot(v:Val):List UInt8:=if v.Kind=1 then NM v.Num else if CF v.Word=true then H6 v.Word else 34::(H6 v.Word++[34])
def oL(o:G8):List UInt8:=if o.Var≠C5 then H6 o.Var else Ot o.Const
def IS(os:List G8):List UInt8:=os.flatMap fun o=>44::32::oL o
def FI:List G8→List UInt8
 | []=>[]
 | o::os=>oL o++IS os
def NA(v:Int):List UInt8:=if v=0 then [] else if 0<v then 32::43::32::Lib.decDigits v.toNat else 32::45::32::Lib.decDigits v.natAbs
def gL(g:F6):List UInt8:=
 if g.Kind=3 then oL g.L++32::(H6 (Q4.getD g.Op.toNat C5)++32::(oL g.R++NA g.Off))
 else if g.Kind=4 then H6 g.L.Var++32::105::110::32::(NM g.Low++32::46::46::32::NM g.High)
 else (if g.Kind=2 then [110,111,116,32] else [])++(H6 g.Rel++40::(FI g.Args++[41]))
def Ta(gs:List F6):List UInt8:=gs.flatMap fun g=>44::32::gL g
def MM:List F6→List UInt8
 | []=>[]
 | g::gs=>gL g++Ta gs
def Tm(ss:List ByteArray):List UInt8:=ss.flatMap fun s=>44::32::H6 s
def Od:List ByteArray→List UInt8
 | []=>[]
 | s::ss=>32::(H6 s++Tm ss)
def qL(q:D8):List UInt8:=H6 m9++(Od q.Sel++32::(H6 K5++32::MM q.Goals))
theorem Ss{q:D8}(ho:L0 q)(hv:T8 q=0):QV q:=by
 unfold T8 at hv;split at hv
 ·cases hv
 rename_i h1
 split at hv
 ·cases hv
 rename_i h2
 split at hv
 ·cases hv
 rename_i h3
 split at hv
 ·cases hv
 rename_i h4
 simp only[Bool.not_eq_false]at h1 h2 h3 h4
 unfold Z7 at h1;unfold S7 at h2;unfold O1 at h3;unfold Ap at h4;simp only[Bool.and_eq_true,decide_eq_true_eq]at h1 h3
 have i2:=List.all_eq_true.1 h2
 have i3:=List.all_eq_true.1 h3.2
 have i4:=List.all_eq_true.1 h4
 have i1:=List.all_eq_true.1 h1.1.2
 refine⟨fun s hs=>List.all_eq_true.1 h3.1 s hs,fun g hg=>?_,fun q=>?_⟩
 ·have j2:=i2 g hg
  have j3:=i3 g hg
  have j1:=i1 g hg
  have hgo:=ho.goals g hg
  unfold Z5 at j3;simp only[Bool.and_eq_true,Bool.not_eq_true']at j2 j3
  refine⟨j2.1,fun o hoo=>?_,fun ha=>?_,i4 g hg,hgo.off,hgo.low,hgo.high⟩
  ·have k3:=List.all_eq_true.1 j3.2 o hoo
   have k2:=List.all_eq_true.1 j2.2 o hoo
   have ko:k0 o:=by
    unfold E7 at hoo;split at hoo
    ·exact hgo.args o hoo
    ·split at hoo
     ·rcases List.mem_cons.1 hoo with rfl|hoo
      ·exact hgo.l
      ·rw[List.mem_singleton.1 hoo];exact hgo.r
     ·split at hoo
      ·rw[List.mem_singleton.1 hoo];exact hgo.l
      ·cases hoo
   unfold BE at k3;unfold plainO at k2;by_cases hv:o.Var=C5
   ·left
    refine⟨hv,?_,ko.2.1⟩
    simp only[hv,decide_true,Bool.true_and]at k3
    simp only[Bool.and_eq_true,Bool.not_not]at k3
    exact k3.1.1
   ·right
    refine⟨?_,?_⟩
    ·by_cases ha:o.Var=J9
     ·exact .inl ha
     ·right
      simp[hv,ha]at k3
      exact k3
    ·simp[hv]at k2
     exact k2
  ·rw[ha,Bool.true_and]at j3;rw[ha]at j1;simp only[Bool.or_eq_false_iff,Bool.not_eq_false',Bool.not_true,Bool.false_or,Bool.and_eq_true,decide_eq_true_eq]at j1 j3
   exact⟨j3.1.1,j3.1.2,fun q=>by rw[q]at j1;simp at j1⟩
 ·rw[q]at h1;simp at h1
end Go.Proofs.YtlmiakjbogojgaaGreatDoor
end
section
open Go Mk
namespace Go.Proofs.YtlmiakjbogojgaaGreatDoor
set_option maxHeartbeats 16000000
attribute [local irreducible] Calls cI cB
def R9(o:G8):ByteArray:=Nu (oL o)
theorem IN{o:G8}(h:o.Var≠C5):R9 o=o.Var:=N7 (by unfold R9 oL;rw[if_pos h];exact N0 _)
theorem MQ{o:G8}(h:o.Var=C5)(hk:o.Const.Kind=1):R9 o=I6 o.Const.Num:=by
 unfold R9 oL Ot;rw[if_neg (fun q=>q h),if_pos hk];rfl
theorem Jn{o:G8}(h:o.Var=C5)(hk:o.Const.Kind≠1)(hb:CF o.Const.Word=true):R9 o=o.Const.Word:=N7 (by
 unfold R9 oL Ot;rw[if_neg (fun q=>q h),if_neg hk,if_pos hb];exact N0 _)
theorem MV{o:G8}(h:o.Var=C5)(hk:o.Const.Kind≠1)(hb:CF o.Const.Word=false):R9 o=(U5++o.Const.Word)++U5:=N7 (by
 unfold R9 oL Ot;rw[if_neg (fun q=>q h),if_neg hk,if_neg (by rw[hb];decide)]
 rw[N5,N5];exact N0 _)
section
variable {Γ:C4}
theorem Ay[hT:BM Γ](o:G8)(ho:k0 o)(hwl:o.Const.Word.size≤100000):PG Tryz.prog Γ 109 [.agg (enc o).toArray] (.string (R9 o)):=⟨fun S w hw=>by
 obtain⟨V,v⟩:=o;have hF:=AI (Γ:=Γ) v.Num ho.2.1.1 ho.2.1.2
 have hv1:V.size≤9223372036854775807:=ho.1
 have hv2:=ho.2.2
 have hv3:v.Word.size≤100000:=hwl
 haveI:SB v.Word:=Ip hv2
 have p1:=AA hv2
 refine A4 Tryz.func109 rfl rfl ?_
 repeat first|refine A5 ?_|refine A6 ?_;intro w hw
 refine J5 ?_;intro b1 w hw;have hw:Wd Γ (.blk b1 (.cells (enc (⟨V,v⟩:G8)).toArray 75)::S) w:=hw
 repeat first|refine A5 ?_|refine A6 ?_;intro w hw
 refine A0 rfl (fun h=>?_) (fun h=>?_)
 ·have h:V≠C5:=of_decide_eq_true h
  rw[IN (o:=⟨V,v⟩) h];repeat first|refine A5 ?_|refine A6 ?_;intro w hw
  exact⟨_,rfl,rfl,hw.drop⟩
 have h:V=C5:=by have:=of_decide_eq_false h;exact Classical.not_not.1 this
 repeat first|refine A5 ?_|refine A6 ?_;intro w hw
 refine A0 rfl (fun h2=>?_) (fun h2=>?_)
 ·have h2:v.Kind=1:=of_decide_eq_true h2
  rw[MQ (o:=⟨V,v⟩) h h2];repeat first|refine A5 ?_|refine A6 ?_;intro w hw
  exact⟨_,rfl,rfl,hw.drop⟩
 have h2:¬v.Kind=1:=of_decide_eq_false h2
 have e3:CF v.Word=(N8 v.Word && !u3 v.Word&&decide (v.Word≠J9) && !V7 v.Word):=by unfold CF;simp
 repeat first|refine A5 ?_|refine A6 ?_;intro w hw
 refine A0 rfl (fun h3=>?_) (fun h3=>?_)
 ·have h3:CF v.Word=true:=e3.trans h3
  rw[Jn (o:=⟨V,v⟩) h h2 h3];repeat first|refine A5 ?_|refine A6 ?_;intro w hw
  exact⟨_,rfl,rfl,hw.drop⟩
 ·have h3:CF v.Word=false:=e3.trans h3
  rw[MV (o:=⟨V,v⟩) h h2 h3];repeat first|refine A5 ?_|refine A6 ?_;intro w hw
  refine lY (v:=.string (U5++v.Word)) ?_ (hy:=F0 rfl rfl (by have:U5.size=1:=rfl;have:(⟨#[34]⟩:ByteArray).size=1:=rfl;omega))
  repeat first|refine A5 ?_|refine A6 ?_;intro w hw
  refine lY (v:=.string ((U5++v.Word)++U5)) ?_ (hy:=F0 rfl rfl (by have:(⟨#[34]⟩:ByteArray).size=1:=rfl;have:U5.size=1:=rfl;rw[ByteArray.size_append];omega))
  repeat first|refine A5 ?_|refine A6 ?_;intro w hw
  exact⟨_,rfl,rfl,hw.drop⟩⟩
end
end Go.Proofs.YtlmiakjbogojgaaGreatDoor
end
section
open Go Mk
namespace Go.Proofs.YtlmiakjbogojgaaGreatDoor
set_option maxHeartbeats 16000000
attribute [local irreducible] Calls K8
def IC(u:Nat):ByteArray:=⟨(Lib.decDigits u).toArray⟩
def UV:ByteArray:=⟨#[48,49,50,51,52,53,54,55,56,57]⟩
theorem VJ:∀d:Nat,d<10→D7 UV d (d+1)=⟨#[UInt8.ofNat (48+d)]⟩
 | 0,_=>rfl
 | 1,_=>rfl
 | 2,_=>rfl
 | 3,_=>rfl
 | 4,_=>rfl
 | 5,_=>rfl
 | 6,_=>rfl
 | 7,_=>rfl
 | 8,_=>rfl
 | 9,_=>rfl
 | d+10,h=>by omega
theorem Sv{P:Program}{ρ:Fr}{w:World}{d:Option Tmp}{T ty:TypeId}{pos:String}{es:Array Edge}{g:Option (Nat×Bool)}{x lo hi:Operand}{m:Nat}{l h:Int}[Do P T](hm:m<10)(hx:ev ρ x=.string UV)(hl:ev ρ lo=.int .u64 l)(hh:ev ρ hi=.int .u64 h)(e1:l=((m:Nat):Int))(e2:h=((m+1:Nat):Int)) :
  Mk.Yields P ⟨d,.slice T x (some lo) (some hi) none,ty,pos,es,g⟩ ρ w (.string ⟨#[UInt8.ofNat (48+m)]⟩):=by
 subst e1;subst e2;have:=Cc (P:=P) (d:=d) (T:=T) (ty:=ty) (pos:=pos) (es:=es) (g:=g) (w:=w) hx hl hh (by omega) (by omega) (show ((m+1:Nat):Int)≤((10:Nat):Int) by omega)
 rw[show ((m:Nat):Int).toNat=m from rfl,show ((m+1:Nat):Int).toNat=m+1 from rfl,VJ m hm]at this;exact this
theorem FN(b:UInt8):(⟨#[b]⟩:ByteArray).size=1:=rfl
theorem PO{u:Nat}(h:u<18446744073709551616):(Lib.decDigits u).length≤20:=by
 rw[Lib.decDigits_length];exact Ac 19 u (by omega)
theorem GJ(u:Nat)(h:u<18446744073709551616):PC Tryz.prog 74 [.int .u64 (u:Nat)] (.string (IC u)):=⟨fun w=>by
 have hL:=PO h
 refine A4 Tryz.func74 rfl rfl ?_
 refine A7 ?_;refine C1 (fun μ ρ w'=>∃(t:List UInt8),μ<18446744073709551616∧Has ρ [(0,.int .u64 (μ:Nat)),(3,.string ⟨t.toArray⟩)]∧Lib.decDigits u=Lib.decDigits μ++t∧w'=w) u ⟨[],h,⟨rfl,rfl,trivial⟩,by simp,rfl⟩ ?_
 rintro μ ρ w' ⟨t,hμ,hρ,hd,rfl⟩
 rw[hρ.eq];have ht:t.length≤20:=by rw[hd,List.length_append]at hL;omega
 have hts:(⟨t.toArray⟩:ByteArray).size=t.length:=by show t.toArray.size=_;simp
 refine A7 ?_;refine A0 rfl (fun h1=>?_) (fun h1=>?_)
 ·have h1:10≤μ:=by have:=of_decide_eq_true h1;omega
  refine A7 ?_;have e1:((μ:Nat):Int).tmod 10=((μ%10:Nat):Int):=by
   rw[Int.tmod_eq_emod_of_nonneg (by omega)];omega
  have e2:IntKind.u64.wrap (((μ:Nat):Int).tmod 10+1)=((μ%10+1:Nat):Int):=by
   rw[e1,IntKind.wrap_u64];omega
  refine lY (v:=.string ⟨#[UInt8.ofNat (48+μ%10)]⟩) ?_ (hy:=Sv (m:=μ%10) (by omega) rfl rfl rfl e1 e2)
  refine A7 ?_;refine lY (v:=.string (⟨#[UInt8.ofNat (48+μ%10)]⟩++⟨t.toArray⟩)) ?_ (hy:=F0 rfl rfl (by rw[hts,FN];omega))
  refine A7 ?_;have e3:((μ:Nat):Int).tdiv 10=((μ / 10:Nat):Int):=by
   rw[Int.tdiv_eq_ediv_of_nonneg (by omega)];omega
  refine⟨μ / 10,by omega,UInt8.ofNat (48+μ%10)::t,by omega,⟨?_,?_,trivial⟩,?_,rfl⟩
  ·show Value.int .u64 (IntKind.u64.wrap (((μ:Nat):Int).tdiv 10))=_
   rw[e3,IntKind.wrap_u64];congr 1
   omega
  ·show Value.string _=_
   congr 1
  ·rw[hd,Lib.decDigits,dif_neg (by omega)];simp
 ·have h1:μ<10:=by have:=of_decide_eq_false h1;omega
  refine A7 ?_;have e2:IntKind.u64.wrap (((μ:Nat):Int)+1)=((μ+1:Nat):Int):=by
   rw[IntKind.wrap_u64];omega
  refine lY (v:=.string ⟨#[UInt8.ofNat (48+μ)]⟩) ?_ (hy:=Sv (m:=μ) h1 rfl rfl rfl rfl e2)
  refine A7 ?_;refine lY (v:=.string (⟨#[UInt8.ofNat (48+μ)]⟩++⟨t.toArray⟩)) ?_ (hy:=F0 rfl rfl (by rw[hts,FN];omega))
  refine A7 ?_;refine⟨_,rfl,?_,rfl⟩
  show Ending.returned (.string _)=_
  congr 2
  refine N7 ?_
  unfold IC;rw[N5,N0,N0,hd,Lib.decDigits,dif_pos h1]⟩
end Go.Proofs.YtlmiakjbogojgaaGreatDoor
end
section
open Go Mk
namespace Go.Proofs.YtlmiakjbogojgaaGreatDoor
set_option maxHeartbeats 16000000
attribute [local irreducible] Calls K8
def Bo(v:Val)(b:Bool):ByteArray:=if v.Kind=1 then I6 v.Num else if (N8 v.Word && !b)=true then v.Word else (U5++v.Word)++U5
theorem QS{o:G8}(h:o.Var=C5):R9 o=Bo o.Const ((u3 o.Const.Word||decide (o.Const.Word=J9))||V7 o.Const.Word):=by
 unfold Bo;by_cases hk:o.Const.Kind=1
 ·rw[if_pos hk,MQ h hk]
 rw[if_neg hk];have hb:(N8 o.Const.Word && !((u3 o.Const.Word||decide (o.Const.Word=J9))||V7 o.Const.Word))=CF o.Const.Word:=by
  unfold CF;cases N8 o.Const.Word <;> cases u3 o.Const.Word <;> cases decide (o.Const.Word=J9) <;> cases V7 o.Const.Word <;> rfl
 rw[hb];by_cases hbb:CF o.Const.Word=true
 ·rw[if_pos hbb,Jn h hk hbb]
 ·rw[if_neg hbb,MV h hk (by simpa using hbb)]
theorem CE{Γ:C4}(v:Val)(b:Bool)(hv:m0 v)(hv2:v.Word.size≤100000)(hw24:¬v.Kind=1→v.Word.size≤24):PG Tryz.prog Γ 21 [.agg (enc v).toArray,.bool b] (.string (Bo v b)):=⟨fun S w hw=>by
 obtain⟨⟨hv0,hv1⟩,-⟩:=hv;haveI:SB v.Word:=⟨by omega⟩
 refine A4 Tryz.func21 rfl rfl ?_
 repeat first|refine A5 ?_|refine A6 ?_;intro w hw
 refine J5 ?_;intro b2 w hw;have hw:Wd Γ (.blk b2 (.cells (enc v).toArray 65)::S) w:=hw
 repeat first|refine A5 ?_|refine A6 ?_;intro w hw
 refine A0 rfl (fun h=>?_) (fun h=>?_)
 ·have h:(decide (v.Kind=1)&&decide (v.Num<0))=true:=h
  rw[Bool.and_eq_true,decide_eq_true_eq,decide_eq_true_eq]at h;obtain⟨hk,hneg⟩:=h;have hD:=GJ v.Num.natAbs (by omega)
  have hE:Bo v b=⟨#[45]⟩++IC v.Num.natAbs:=by
   unfold Bo I6 Lib.itoa;rw[if_pos hk,if_pos hneg];refine N7 ?_
   unfold IC;rw[N5,N0,N0];rfl
  rw[hE];have hDl:=PO (u:=v.Num.natAbs) (by omega)
  have hDs:(IC v.Num.natAbs).size=(Lib.decDigits v.Num.natAbs).length:=by show (List.toArray _).size=_;simp
  repeat first|refine A5 ?_|refine A6 ?_;intro w hw
  refine lP (v:=.string (IC v.Num.natAbs)) ?_ (hp:=hD) (ha:=EvL.cons ?_ EvL.nil)
  ·repeat first|refine A5 ?_|refine A6 ?_;intro w hw
   refine lY (v:=.string (⟨#[45]⟩++IC v.Num.natAbs)) ?_ (hy:=F0 rfl rfl (by rw[hDs,FN];omega))
   repeat first|refine A5 ?_|refine A6 ?_;intro w hw
   exact⟨_,rfl,rfl,hw.drop⟩
  ·show Value.int .u64 (IntKind.u64.wrap (IntKind.u64.wrap (-(v.Num+1))+1))=_
   congr 1
   rw[IntKind.wrap_u64,IntKind.wrap_u64];omega
 have h:¬(v.Kind=1∧v.Num<0):=fun q=>by
  have h:(decide (v.Kind=1)&&decide (v.Num<0))=false:=h
  rw[decide_eq_true q.1,decide_eq_true q.2]at h;cases h
 repeat first|refine A5 ?_|refine A6 ?_;intro w hw
 refine A0 rfl (fun h2=>?_) (fun h2=>?_)
 ·have h2:v.Kind=1:=of_decide_eq_true h2
  have hn:¬v.Num<0:=fun q=>h ⟨h2,q⟩
  have hD:=GJ v.Num.toNat (by omega)
  have hE:Bo v b=IC v.Num.toNat:=by
   unfold Bo I6 Lib.itoa;rw[if_pos h2,if_neg hn];rfl
  rw[hE];repeat first|refine A5 ?_|refine A6 ?_;intro w hw
  refine lP (v:=.string (IC v.Num.toNat)) ?_ (hp:=hD) (ha:=EvL.cons ?_ EvL.nil)
  ·repeat first|refine A5 ?_|refine A6 ?_;intro w hw
   exact⟨_,rfl,rfl,hw.drop⟩
  ·show Value.int .u64 (IntKind.u64.wrap v.Num)=_
   congr 1
   rw[IntKind.wrap_u64];omega
 have h2:¬v.Kind=1:=of_decide_eq_false h2
 have hnm:N8 v.Word=u7 v.Word:=by
  unfold N8;rw[decide_eq_true (hw24 h2),Bool.and_true]
 repeat first|refine A5 ?_|refine A6 ?_;intro w hw
 refine A0 rfl (fun h3=>?_) (fun h3=>?_)
 ·have hE:Bo v b=v.Word:=by unfold Bo;rw[if_neg h2,if_pos (by rw[hnm];exact h3)]
  rw[hE];repeat first|refine A5 ?_|refine A6 ?_;intro w hw
  exact⟨_,rfl,rfl,hw.drop⟩
 ·have hE:Bo v b=(U5++v.Word)++U5:=by unfold Bo;rw[if_neg h2,if_neg (by rw[hnm];exact fun q=>by have h3:(u7 v.Word && !b)=false:=h3;rw[h3]at q;cases q)]
  rw[hE];repeat first|refine A5 ?_|refine A6 ?_;intro w hw
  refine lY (v:=.string (U5++v.Word)) ?_ (hy:=F0 rfl rfl (by have:U5.size=1:=rfl;have:(⟨#[34]⟩:ByteArray).size=1:=rfl;omega))
  repeat first|refine A5 ?_|refine A6 ?_;intro w hw
  refine lY (v:=.string ((U5++v.Word)++U5)) ?_ (hy:=F0 rfl rfl (by have:(⟨#[34]⟩:ByteArray).size=1:=rfl;have:U5.size=1:=rfl;rw[ByteArray.size_append];omega))
  repeat first|refine A5 ?_|refine A6 ?_;intro w hw
  exact⟨_,rfl,rfl,hw.drop⟩⟩
end Go.Proofs.YtlmiakjbogojgaaGreatDoor
end
section
open Go Mk
namespace Go.Proofs.YtlmiakjbogojgaaGreatDoor
set_option maxHeartbeats 16000000
attribute [local irreducible] Calls K8
def NB(s:ByteArray):Bool:=(u3 s||decide (s=J9))||((decide (s≠C5)&&decide (65≤A3 s 0))&&decide (A3 s 0≤90))
theorem Oj{o:G8}(h:o.Var=C5):R9 o=Bo o.Const (NB o.Const.Word):=by
 rw[QS h];unfold Bo;by_cases hk:o.Const.Kind=1
 ·rw[if_pos hk,if_pos hk]
 rw[if_neg hk,if_neg hk];by_cases hn:N8 o.Const.Word=true
 ·have hq:NB o.Const.Word=((u3 o.Const.Word||decide (o.Const.Word=J9))||V7 o.Const.Word):=by
   have h0:o.Const.Word≠C5:=fun q=>by rw[q]at hn;exact absurd hn (by decide)
   unfold NB V7;rw[hn,decide_eq_true h0];rfl
  rw[hq]
 ·have hn:N8 o.Const.Word=false:=by simpa using hn
  rw[hn];rfl
theorem Ic{Γ:C4}(o:G8)(ho:k0 o)(hv2:o.Const.Word.size≤100000)(hw24:o.Var=C5→¬o.Const.Kind=1→o.Const.Word.size≤24):PG Tryz.prog Γ 48 [.agg (enc o).toArray] (.string (R9 o)):=⟨fun S w hw=>by
 obtain⟨V,v⟩:=o;have hv1:V.size≤9223372036854775807:=ho.1
 have hv2:v.Word.size≤100000:=hv2
 haveI:SB v.Word:=⟨by omega⟩
 refine A4 Tryz.func48 rfl rfl ?_
 repeat first|refine A5 ?_|refine A6 ?_;intro w hw
 refine J5 ?_;intro b1 w hw;have hw:Wd Γ (.blk b1 (.cells (enc (⟨V,v⟩:G8)).toArray 75)::S) w:=hw
 repeat first|refine A5 ?_|refine A6 ?_;intro w hw
 refine A0 rfl (fun h=>?_) (fun h=>?_)
 ·have h:V≠C5:=of_decide_eq_true h
  rw[IN (o:=⟨V,v⟩) h];repeat first|refine A5 ?_|refine A6 ?_;intro w hw
  exact⟨_,rfl,rfl,hw.drop⟩
 have h:V=C5:=by have:=of_decide_eq_false h;exact Classical.not_not.1 this
 rw[Oj (o:=⟨V,v⟩) h];have hw24:¬v.Kind=1→v.Word.size≤24:=hw24 h
 have pT:=fun Γ'=>CE (Γ:=Γ') v (NB v.Word) ho.2 hv2 hw24
 have hne:decide (v.Word≠C5)=true→0<v.Word.size:=fun q=>by
  by_cases h0:0<v.Word.size
  ·exact h0
  ·have:v.Word=C5:=ByteArray.ext (Array.eq_empty_of_size_eq_zero (show v.Word.data.size=0 by have:v.Word.data.size=v.Word.size:=rfl;omega))
   exact absurd this (of_decide_eq_true q)
 repeat first|refine A5 ?_|refine A6 ?_;intro w hw
 refine H0 (by kernel_rfl) (by kernel_rfl) hw ?_
 repeat(first|(first|refine P2 ?_|(apply D1;first|(apply F4;first|refine qP ?_|refine CO ?_)|refine qY ?_)|(apply B4;first|(apply F4;first|refine Dj ?_|refine Z0 ?_)|refine qG ?_))|(apply D1;apply F4;refine Fp ?_)|(apply B4;apply F4;refine y7 ?_))
 apply B4
 refine qG ?_ (hy:=fun hc w hw=>by
  have h1:=hne (T9 hc)
  refine AX (s:=v.Word) B1 B1 ?_ ?_
  ·exact Int.le_refl 0
  ·exact Int.ofNat_lt.2 h1)
 repeat(first|(first|refine P2 ?_|(apply D1;first|(apply F4;first|refine qP ?_|refine CO ?_)|refine qY ?_)|(apply B4;first|(apply F4;first|refine Dj ?_|refine Z0 ?_)|refine qG ?_))|(apply D1;apply F4;refine Fp ?_)|(apply B4;apply F4;refine y7 ?_))
 apply B4
 refine qG ?_ (hy:=fun hc w hw=>by
  have h1:=hne (H4 (T9 hc))
  refine AX (s:=v.Word) B1 B1 ?_ ?_
  ·exact Int.le_refl 0
  ·exact Int.ofNat_lt.2 h1)
 repeat(first|(first|refine P2 ?_|(apply D1;first|(apply F4;first|refine qP ?_|refine CO ?_)|refine qY ?_)|(apply B4;first|(apply F4;first|refine Dj ?_|refine Z0 ?_)|refine qG ?_))|(apply D1;apply F4;refine Fp ?_)|(apply B4;apply F4;refine y7 ?_))
 apply D1
 apply F4
 refine CO (vs:=[.agg (enc v).toArray,.bool (NB v.Word)]) (v:=.string (Bo v (NB v.Word))) ?_ (hp:=pT _)
 repeat(first|(first|refine P2 ?_|(apply D1;first|(apply F4;first|refine qP ?_|refine CO ?_)|refine qY ?_)|(apply B4;first|(apply F4;first|refine Dj ?_|refine Z0 ?_)|refine qG ?_))|(apply D1;apply F4;refine Fp ?_)|(apply B4;apply F4;refine y7 ?_))
 intro w hw;repeat first|refine A5 ?_|refine A6 ?_;intro w hw
 exact⟨_,rfl,rfl,hw.drop⟩⟩
end Go.Proofs.YtlmiakjbogojgaaGreatDoor
end
section
open Go Mk
namespace Go.Proofs.YtlmiakjbogojgaaGreatDoor
set_option maxHeartbeats 16000000
attribute [local irreducible] Calls K8
theorem Et{Γ:C4}(v:Int)(h1:-9223372036854775808≤v)(h2:v≤9223372036854775807):PG Tryz.prog Γ 49 [.int .i64 v] (.string (I6 v)):=⟨fun S w hw=>by
 have pT:=CE (Γ:=Γ) (⟨1,v,C5⟩:Val) false ⟨⟨h1,h2⟩,Nat.zero_le _⟩ (Nat.zero_le _) (fun q=>absurd rfl q)
 have hE:Bo (⟨1,v,C5⟩:Val) false=I6 v:=by unfold Bo;rw[if_pos rfl]
 rw[hE]at pT;refine A4 Tryz.func49 rfl rfl ?_
 repeat first|refine A5 ?_|refine A6 ?_;intro w hw
 refine TD (v:=.string (I6 v)) (vs:=[.agg (enc (⟨1,v,C5⟩:Val)).toArray,.bool false]) ?_ (hp:=pT)
 intro w hw;repeat first|refine A5 ?_|refine A6 ?_;intro w hw
 exact⟨_,rfl,rfl,hw⟩⟩
end Go.Proofs.YtlmiakjbogojgaaGreatDoor
end
section
open Go Mk
namespace Go.Proofs.YtlmiakjbogojgaaGreatDoor
set_option maxHeartbeats 4000000
theorem Hu{α:Type}(f:α→ByteArray)(g:α→List UInt8)(e:∀x,H6 (f x)=g x)(os:List α):Lib.joinTail (H6 T7) ((os.map f).map H6)=os.flatMap fun x=>44::32::g x:=by
 unfold Lib.joinTail;rw[List.flatMap_def,List.map_map,List.map_map];refine congrArg List.flatten (List.map_congr_left fun x _=>?_)
 show H6 T7++H6 (f x)=_
 rw[e];rfl
theorem Dq{n:Int}(h:u5 n):(Lib.itoa n).length≤25:=by
 have:=Y0 h.1 h.2
 have hs:(I6 n).size=(Lib.itoa n).length:=by show (List.toArray _).size=_;simp
 omega
theorem JZ{u:Nat}(h:u≤9223372036854775808):(Lib.decDigits u).length≤20:=by
 rw[Lib.decDigits_length];exact Ac 19 u (by omega)
theorem GM{o:G8}(h:OV o):(oL o).length≤30:=by
 rcases h with⟨h0,hr,hi⟩|⟨hv,-⟩
 ·unfold oL Ot;rw[if_neg (fun q=>q h0)];split
  ·have:=Dq hi
   unfold NM;omega
  ·rename_i h1
   have h2:o.Const.Word.size≤24:=by
    unfold I2 CC at hr;simp only[Bool.or_eq_true,Bool.and_eq_true,decide_eq_true_eq]at hr
    rcases hr with q|q
    ·exact absurd q.1 h1
    ·exact q.2.2
   have h3:=K9 o.Const.Word
   split
   ·omega
   ·simp only[List.length_cons,List.length_append,List.length_nil];omega
 ·have h1:=Of hv
  have h2:=Bl hv
  have h3:=K9 o.Var
  unfold oL;rw[if_pos h1];omega
theorem f8{o:G8}(h:OV o):(R9 o).size≤30:=by unfold R9;rw[Ia];exact GM h
theorem GF:∀(os:List G8),(∀o∈os,OV o)→(IS os).length≤os.length*32
 | [],_=>by simp[IS]
 | o::os,h=>by
  have h1:=GF os fun x hx=>h x (List.mem_cons_of_mem _ hx)
  have h2:=GM (h o List.mem_cons_self)
  unfold IS at h1 ⊢
  rw[List.flatMap_cons];simp only[List.length_cons,List.length_append]at h1 ⊢
  omega
theorem Mg(os:List G8)(h:∀o∈os,OV o):(FI os).length≤os.length*32:=by
 cases os with
 | nil=>simp[FI]
 | cons o os=>
  have h1:=GF os fun x hx=>h x (List.mem_cons_of_mem _ hx)
  have h2:=GM (h o List.mem_cons_self)
  unfold FI;simp only[List.length_cons,List.length_append]
  omega
theorem Ka(os:List G8):FI os=Lib.join ((os.map R9).map H6) (H6 T7):=by
 cases os with
 | nil=>rfl
 | cons o os=>
  have e:∀o:G8,H6 (R9 o)=oL o:=fun o=>N0 _
  rw[List.map_cons,List.map_cons,Lib.join_cons,Hu R9 oL e,e];rfl
def H5(g:F6):ByteArray:=Nu (gL g)
theorem IJ(j:Int):(Q4.getD j.toNat C5).size≤2:=by
 have:∀k:Nat,(Q4.getD k C5).size≤2:=fun k=>by
  match k with
  | 0|1|2|3|4|5|6=>decide
  | k+7=>show (C5).size≤2;decide
 exact this _
theorem Pz{v:Int}(h:u5 v):(NA v).length≤23:=by
 unfold u5 at h;unfold NA;split
 ·simp
 split
 ·have:=JZ (u:=v.toNat) (by omega)
  simp only[List.length_cons];omega
 ·have:=JZ (u:=v.natAbs) (by omega)
  simp only[List.length_cons];omega
theorem TO{g:F6}(h:GV g)(ha:g.Args.length≤8):(gL g).length≤400:=by
 have hs:=h.shape
 have ho:=h.ops
 have hr:=h.rel
 unfold gL;split
 ·rename_i h3
  have h1:OV g.L:=ho _ (by unfold E7;simp[h3])
  have h2:OV g.R:=ho _ (by unfold E7;simp[h3])
  have:=GM h1
  have:=GM h2
  have:=IJ g.Op
  have:=K9 (Q4.getD g.Op.toNat C5)
  have:=Pz h.off
  simp only[List.length_cons,List.length_append];omega
 split
 ·rename_i h3 h4
  have h1:OV g.L:=ho _ (by unfold E7;simp[h4])
  have h2:g.L.Var.size≤24:=by
   rcases h1 with⟨q,-⟩|⟨q,-⟩
   ·rw[q];decide
   ·exact Bl q
  have:=K9 g.L.Var
  have:=Dq h.low
  have:=Dq h.high
  unfold NM;simp only[List.length_cons,List.length_append];omega
 ·rename_i h3 h4
  have hat:E3 g=true:=by
   unfold J0 at hs;unfold E3;by_cases q:g.Kind=1∨g.Kind=2
   ·rcases q with q|q <;> simp[q]
   ·rw[if_neg q,if_neg h3,if_neg h4]at hs;cases hs
  have h1:=Bh (hr hat).1
  have h2:=Mg g.Args fun o hx=>ho o (by
   have:E7 g=g.Args:=by
    unfold E7;unfold E3 at hat;simp only[Bool.or_eq_true,decide_eq_true_eq]at hat
    rw[if_pos hat]
   rw[this];exact hx)
  have:=K9 g.Rel
  have h5:(if g.Kind=2 then [110,111,116,32] else ([]:List UInt8)).length≤4:=by split <;> simp
  simp only[List.length_cons,List.length_append,List.length_nil]
  omega
theorem Dw{g:F6}(h:GV g)(ha:g.Args.length≤8):(H5 g).size≤400:=by unfold H5;rw[Ia];exact TO h ha
theorem Im(gs:List F6):MM gs=Lib.join ((gs.map H5).map H6) (H6 T7):=by
 cases gs with
 | nil=>rfl
 | cons o os=>
  have e:∀o:F6,H6 (H5 o)=gL o:=fun o=>N0 _
  rw[List.map_cons,List.map_cons,Lib.join_cons,Hu H5 gL e,e];rfl
theorem Mu{ss:List ByteArray}(h:ss≠[]):Od ss=32::Lib.join (ss.map H6) (H6 T7):=by
 cases ss with
 | nil=>exact absurd rfl h
 | cons s ss=>
  have h1:=Hu (fun s:ByteArray=>s) H6 (fun _=>rfl) ss
  rw[List.map_id']at h1;rw[List.map_cons,Lib.join_cons,h1];rfl
theorem KS{q:D8}(hv:T8 q=0):q.Goals.length≤16∧q.Sel.length≤8∧∀g∈q.Goals,E3 g=true→g.Args.length≤8:=by
 unfold T8 at hv;split at hv
 ·cases hv
 rename_i h1
 simp only[Bool.not_eq_false]at h1
 unfold Z7 at h1;simp only[Bool.and_eq_true,decide_eq_true_eq]at h1
 refine⟨h1.1.1.1.2,h1.1.1.2,fun g hg ha=>?_⟩
 have:=List.all_eq_true.1 h1.1.2 g hg
 rw[ha]at this;simp only[Bool.not_true,Bool.false_or,Bool.and_eq_true,decide_eq_true_eq]at this
 exact this.2
theorem Lt{q:D8}(hq:QV q)(hv:T8 q=0){g:F6}(hg:g∈q.Goals):g.Args.length≤8:=by
 by_cases ha:E3 g=true
 ·exact(KS hv).2.2 g hg ha
 have hs:=(hq.goals g hg).shape
 unfold J0 at hs;unfold E3 at ha;simp only[Bool.or_eq_true,decide_eq_true_eq]at ha
 rw[if_neg ha]at hs;split at hs
 ·simp only[Bool.and_eq_true,decide_eq_true_eq]at hs;omega
 split at hs
 ·simp only[Bool.and_eq_true,decide_eq_true_eq]at hs;omega
 ·cases hs
def f0(q:D8):ByteArray:=if T8 q=0 then Nu (qL q) else C5
end Go.Proofs.YtlmiakjbogojgaaGreatDoor
end
section
open Go Mk
namespace Go.Proofs.YtlmiakjbogojgaaGreatDoor
set_option maxHeartbeats 16000000
attribute [local irreducible] Calls cI cB
def O3:ByteArray:=⟨#[32]⟩
def DR:ByteArray:=⟨#[32,105,110,32]⟩
def CJ:ByteArray:=⟨#[32,46,46,32]⟩
def y8:ByteArray:=⟨#[32,43,32]⟩
def j0:ByteArray:=⟨#[32,45,32]⟩
def Ge:ByteArray:=⟨#[40]⟩
def PY:ByteArray:=⟨#[41]⟩
def Fo:ByteArray:=⟨#[110,111,116,32]⟩
theorem Fb(n:Int):H6 (I6 n)=Lib.itoa n:=N0 _
theorem KT(o:G8):H6 (R9 o)=oL o:=N0 _
theorem Jk{v:Int}(h:0<v):Lib.itoa v=Lib.decDigits v.toNat:=by
 unfold Lib.itoa;rw[if_neg (by omega)]
def P6(g:F6):ByteArray:=(((R9 g.L++O3)++Q4.getD g.Op.toNat C5)++O3)++R9 g.R
theorem FU{g:F6}(h:g.Kind=3)(ho:g.Off=0):H5 g=P6 g:=N7 (by
 unfold H5 gL P6;rw[if_pos h,show H6 (Nu _)=_ from N0 _];simp only[N5,KT]
 unfold NA;rw[if_pos ho,List.append_nil];show _=(((oL g.L++[32])++_)++[32])++oL g.R
 simp[List.append_assoc])
theorem Ff{g:F6}(h:g.Kind=3)(ho:0<g.Off):H5 g=P6 g++(y8++I6 g.Off):=N7 (by
 unfold H5 gL P6;rw[if_pos h,show H6 (Nu _)=_ from N0 _];simp only[N5,KT,Fb]
 unfold NA;rw[if_neg (by omega),if_pos ho,Jk ho]
 show _=((((oL g.L++[32])++_)++[32])++oL g.R)++([32,43,32]++_)
 simp[List.append_assoc])
theorem Fy{g:F6}(h:g.Kind=3)(ho:g.Off<0):H5 g=P6 g++(j0++I6 (-g.Off)):=N7 (by
 unfold H5 gL P6;rw[if_pos h,show H6 (Nu _)=_ from N0 _];simp only[N5,KT,Fb]
 unfold NA;rw[if_neg (by omega),if_neg (by omega),Jk (by omega),show (-g.Off).toNat=g.Off.natAbs from by omega]
 show _=((((oL g.L++[32])++_)++[32])++oL g.R)++([32,45,32]++_)
 simp[List.append_assoc])
theorem HI{g:F6}(h:g.Kind=4):H5 g=(((g.L.Var++DR)++I6 g.Low)++CJ)++I6 g.High:=N7 (by
 unfold H5 gL NM;rw[if_neg (by omega),if_pos h,show H6 (Nu _)=_ from N0 _]
 simp only[N5,Fb]
 show _=(((_++[32,105,110,32])++_)++[32,46,46,32])++_
 simp[List.append_assoc])
def By(g:F6):ByteArray:=((g.Rel++Ge)++H1 (g.Args.map R9))++PY
theorem EE{g:F6}(h3:¬g.Kind=3)(h4:¬g.Kind=4):H5 g=if g.Kind=2 then Fo++By g else By g:=N7 (by
 unfold H5 gL By;rw[if_neg h3,if_neg h4,show H6 (Nu _)=_ from N0 _,Ka];have hj:H6 (H1 (g.Args.map R9))=Lib.join ((g.Args.map R9).map H6) (H6 T7):=by
  unfold H1;exact N0 _
 split
 ·simp only[N5,hj]
  show [110,111,116,32]++(H6 g.Rel++40::(_++[41]))=[110,111,116,32]++(((_++[40])++_)++[41])
  simp[List.append_assoc]
 ·simp only[N5,hj]
  show []++(H6 g.Rel++40::(_++[41]))=((_++[40])++_)++[41]
  simp[List.append_assoc])
theorem FH{Γ:C4}[hT:BM Γ]{v:Value}{xs:List ByteArray}(hr:D6 Γ v 1 (xs.map fun s=>[.string s]))(hl:xs.length≤1000)(hsz:∀x∈xs,x.size≤1000):PG Tryz.prog Γ 45 [v,.string T7] (.string (H1 xs)):=⟨fun S w hw=>PX xs hr.rdS hl hsz hw⟩
end Go.Proofs.YtlmiakjbogojgaaGreatDoor
end
section
open Go Mk
namespace Go.Proofs.YtlmiakjbogojgaaGreatDoor
set_option maxHeartbeats 32000000
attribute [local irreducible] Calls cI cB
theorem AF:O3.size=1∧DR.size=4∧CJ.size=4∧y8.size=3∧j0.size=3∧Ge.size=1∧PY.size=1∧Fo.size=4:=by decide
theorem GK{g:F6}(hL:OV g.L)(hR:OV g.R):(P6 g).size≤70:=by
 have h1:=f8 hL
 have h2:=f8 hR
 have h3:=IJ g.Op
 obtain⟨s1,-⟩:=AF;unfold P6;rw[ByteArray.size_append,ByteArray.size_append,ByteArray.size_append,ByteArray.size_append];omega
theorem DU{o:G8}(h:OV o):o.Const.Word.size≤100000:=by
 rcases h with⟨-,hr,-⟩|⟨-,hz⟩
 ·exact NY hr
 ·rw[hz];decide
theorem Hj{Γ0:C4}[hT0:BM Γ0]{x:E6}(hg:GV x.g)(hok:t7 x.g)(h8:x.g.Args.length≤8)(hx0:Eu Γ0 x):PG Tryz.prog Γ0 46 [.agg (cG x).toArray] (.string (H5 x.g)):=N6 fun Γ w hle0 hw=>by
 have hx:=hx0.mono hle0
 haveI hT:BM Γ:=hT0.mono hle0
 obtain⟨l1,l2,l3⟩:=hx.len;obtain⟨s1,s2,s3,s4,s5,s6,s7,s8⟩:=AF;have hshape:=hg.shape
 have hops:=hg.ops
 have hoff:=hg.off
 have hlow:=hg.low
 have hhigh:=hg.high
 unfold u5 at hoff hlow hhigh;refine A4 Tryz.func46 rfl rfl ?_
 repeat first|refine A5 ?_|refine A6 ?_;intro w hw
 refine J5 ?_;intro b1 w hw;have hw:Wd Γ [.blk b1 (.cells (cG x).toArray 77)] w:=hw
 repeat first|refine A5 ?_|refine A6 ?_;intro w hw
 refine A0 rfl (fun h3=>?_) (fun h3=>?_)
 ·have h3:x.g.Kind=3:=of_decide_eq_true h3
  have hL:OV x.g.L:=hops _ (by unfold E7;simp[h3])
  have hR:OV x.g.R:=hops _ (by unfold E7;simp[h3])
  have hnum:1≤x.g.Op∧x.g.Op≤6∧x.g.Off≠-9223372036854775808:=by
   have:=hg.num
   unfold Z1 at this;rw[if_pos h3]at this;simpa[and_assoc] using this
  obtain⟨j,hj⟩:∃j:Nat,x.g.Op=(j:Int):=⟨x.g.Op.toNat,by omega⟩
  obtain⟨o,ho⟩:∃o,Q4[j]? = some o:=B8 (l:=Q4) (by show j<7;omega)
  have hoe:Q4.getD x.g.Op.toNat C5=o:=by
   rw[hj,Int.toNat_natCast,List.getD_eq_getElem?_getD,ho];rfl
  have hos:o.size≤2:=by rw[←hoe];exact IJ _
  have pL:=Ay (Γ:=Γ) x.g.L hok.l (DU hL)
  have pR:=Ay (Γ:=Γ) x.g.R hok.r (DU hR)
  have zL:=f8 hL
  have zR:=f8 hR
  have zC:=GK hL hR
  have zi:=Y0 hoff.1 hoff.2
  have zn:=Y0 (n:=-x.g.Off) (by omega) (by omega)
  have pI:=AI (Γ:=Γ) x.g.Off hoff.1 hoff.2
  have pN:=AI (Γ:=Γ) (-x.g.Off) (by omega) (by omega)
  repeat first|refine A5 ?_|refine A6 ?_;intro w hw
  have hwX:Wd Γ ([.blk b1 (.cells (cG x).toArray 77)]++[]) w:=hw
  refine p8 [.blk b1 (.cells (cG x).toArray 77)] [] [16,19] [[],[],[],[],[0],[],[],[0],[0],[],[],[],[],[],[],[]] hwX ?_
  clear hwX hw;refine W9 ?_;refine UH (v:=.string (R9 x.g.L)) (vs:=[.agg (enc x.g.L).toArray]) ?_ (hp:=pL)
  refine mY (v:=.string (R9 x.g.L++O3)) ?_ (hy:=fun Y w g hw=>F0 (a:=R9 x.g.L) (b:=O3) rfl rfl (by omega))
  refine FS (v:=undef) (T':=Addr) (fun t g=>g 16=.slice (some t) 7 7) (fun t=>[.own (.slice (some t) 7 7) 9 1 (Q4.map fun s=>[.string s])]) (fun _ _=>[]) (fun t g w Y _ hw=>?_) ?_
  ·refine(CI hw).mono ?_
   rintro r w' ⟨q,rfl,hw'⟩
   exact⟨_,rfl,q,rfl,(fun h=>by cases h),hw'⟩
  refine W9 ?_;refine V9 (v:=undef) (T':=Addr) (fun t g=>g 19=.pointer (some ⟨aB (some t),aO (some t)+j*1,none⟩)) (fun t=>[.own (.slice (some t) 7 7) 9 1 (Q4.map fun s=>[.string s])]) (fun t g w Y ht hw=>?_) ?_
  ·have ht:g 16=.slice (some t) 7 7:=ht
   refine Yields.step (y4 (j:=0) (i:=(j:Int)) hw rfl ht (congrArg (Value.int .i64) hj) (by omega) (by omega)) ⟨t,?_,(fun h=>by cases h),hw⟩
   rfl
  refine V9 (v:=.string o) (T':=Unit) (fun _ _=>True) (fun _=>[]) (fun t g w Y ht hw=>?_) ?_
  ·have ht:g 19=.pointer (some ⟨aB (some t),aO (some t)+j*1,none⟩):=ht
   refine Yields.step (H9 (k:=j) (u:=.string o) ht (hw.own_rd (i:=0) rfl) (B2 ho)) ⟨(),trivial,(fun _=>rfl),?_⟩
   exact hw.drop
  refine W9 ?_;refine mY (v:=.string ((R9 x.g.L++O3)++o)) ?_ (hy:=fun Y w g hw=>F0 (a:=(R9 x.g.L++O3)) (b:=o) rfl rfl (by rw[ByteArray.size_append];omega))
  refine mY (v:=.string (((R9 x.g.L++O3)++o)++O3)) ?_ (hy:=fun Y w g hw=>F0 (a:=((R9 x.g.L++O3)++o)) (b:=O3) rfl rfl (by rw[ByteArray.size_append,ByteArray.size_append];omega))
  refine W9 ?_;refine UH (v:=.string (R9 x.g.R)) (vs:=[.agg (enc x.g.R).toArray]) ?_ (hp:=pR)
  refine mY (v:=.string (P6 x.g)) ?_ (hy:=fun Y w g hw=>by
   unfold P6;rw[hoe];exact F0 (a:=((R9 x.g.L++O3)++o)++O3) (b:=R9 x.g.R) rfl rfl (by rw[ByteArray.size_append,ByteArray.size_append,ByteArray.size_append];omega))
  refine W9 ?_;refine Al fun t w g _ hw=>?_
  have hw:Wd Γ [.blk b1 (.cells (cG x).toArray 77)] w:=hw
  refine Oq (l:=[(1,.pointer (some ⟨b1,0,none⟩)),(3,.string (P6 x.g))]) ⟨rfl,rfl,trivial⟩ fun ρ hρ=>?_
  rw[hρ.eq];clear hρ;repeat first|refine A5 ?_|refine A6 ?_;intro w hw
  refine A0 rfl (fun h=>?_) (fun h=>?_)
  ·have h:0<x.g.Off:=of_decide_eq_true h
   rw[Ff h3 h];repeat first|refine A5 ?_|refine A6 ?_;intro w hw
   refine lY (v:=.string (y8++I6 x.g.Off)) ?_ (hy:=F0 (a:=y8) (b:=I6 x.g.Off) rfl rfl (by have:(⟨#[32,43,32]⟩:ByteArray).size=3:=rfl;omega))
   refine lY (v:=.string (P6 x.g++(y8++I6 x.g.Off))) ?_ (hy:=F0 (a:=P6 x.g) (b:=(y8++I6 x.g.Off)) rfl rfl (by rw[ByteArray.size_append];omega))
   repeat first|refine A5 ?_|refine A6 ?_;intro w hw
   exact⟨_,rfl,Γ,C4.le.refl _,rfl,E8 hw⟩
  have h:¬0<x.g.Off:=of_decide_eq_false h
  repeat first|refine A5 ?_|refine A6 ?_;intro w hw
  refine A0 rfl (fun h2=>?_) (fun h2=>?_)
  ·have h2:x.g.Off<0:=of_decide_eq_true h2
   rw[Fy h3 h2];repeat first|refine A5 ?_|refine A6 ?_;intro w hw
   refine lY (v:=.string (j0++I6 (-x.g.Off))) ?_ (hy:=F0 (a:=j0) (b:=I6 (-x.g.Off)) rfl rfl (by have:(⟨#[32,45,32]⟩:ByteArray).size=3:=rfl;omega))
   refine lY (v:=.string (P6 x.g++(j0++I6 (-x.g.Off)))) ?_ (hy:=F0 (a:=P6 x.g) (b:=(j0++I6 (-x.g.Off))) rfl rfl (by rw[ByteArray.size_append];omega))
   repeat first|refine A5 ?_|refine A6 ?_;intro w hw
   exact⟨_,rfl,Γ,C4.le.refl _,rfl,E8 hw⟩
  ·have h2:¬x.g.Off<0:=of_decide_eq_false h2
   rw[FU h3 (by omega)]
   repeat first|refine A5 ?_|refine A6 ?_;intro w hw
   exact⟨_,rfl,Γ,C4.le.refl _,rfl,E8 hw⟩
 have h3:¬x.g.Kind=3:=of_decide_eq_false h3
 repeat first|refine A5 ?_|refine A6 ?_;intro w hw
 refine A0 rfl (fun h4=>?_) (fun h4=>?_)
 ·have h4:x.g.Kind=4:=of_decide_eq_true h4
  have hL:OV x.g.L:=hops _ (by unfold E7;simp[h4])
  have hLs:x.g.L.Var.size≤24:=by
   rcases hL with⟨q,-⟩|⟨q,-⟩
   ·rw[q];decide
   ·exact Bl q
  have zl:=Y0 hlow.1 hlow.2
  have zh:=Y0 hhigh.1 hhigh.2
  have pL:=AI (Γ:=Γ) x.g.Low hlow.1 hlow.2
  have pH:=AI (Γ:=Γ) x.g.High hhigh.1 hhigh.2
  rw[HI h4];repeat first|refine A5 ?_|refine A6 ?_;intro w hw
  refine H0 (by kernel_rfl) (by kernel_rfl) hw ?_
  refine Bt ?_;refine qY (v:=.string (x.g.L.Var++DR)) ?_ (hy:=fun w hw=>F0 (a:=x.g.L.Var) (b:=DR) rfl rfl (by have:(⟨#[32,105,110,32]⟩:ByteArray).size=4:=rfl;omega))
  refine Bt ?_;refine qY (v:=.string ((x.g.L.Var++DR)++I6 x.g.Low)) ?_ (hy:=fun w hw=>F0 (a:=(x.g.L.Var++DR)) (b:=I6 x.g.Low) rfl rfl (by rw[ByteArray.size_append];omega))
  refine qY (v:=.string (((x.g.L.Var++DR)++I6 x.g.Low)++CJ)) ?_ (hy:=fun w hw=>F0 (a:=((x.g.L.Var++DR)++I6 x.g.Low)) (b:=CJ) rfl rfl (by have:(⟨#[32,46,46,32]⟩:ByteArray).size=4:=rfl;rw[ByteArray.size_append,ByteArray.size_append];omega))
  refine Bt ?_;refine qY (v:=.string ((((x.g.L.Var++DR)++I6 x.g.Low)++CJ)++I6 x.g.High)) ?_ (hy:=fun w hw=>F0 (a:=(((x.g.L.Var++DR)++I6 x.g.Low)++CJ)) (b:=I6 x.g.High) rfl rfl (by rw[ByteArray.size_append,ByteArray.size_append,ByteArray.size_append];omega))
  refine Bt ?_;clear hw;intro w hw;repeat first|refine A5 ?_|refine A6 ?_;intro w hw
  exact⟨_,rfl,Γ,C4.le.refl _,rfl,E8 hw⟩
 have h4:¬x.g.Kind=4:=of_decide_eq_false h4
 have hat:E3 x.g=true:=by
  unfold J0 at hshape;unfold E3;by_cases q:x.g.Kind=1∨x.g.Kind=2
  ·rcases q with q|q <;> simp[q]
  ·rw[if_neg q,if_neg h3,if_neg h4]at hshape;cases hshape
 have hrelS:=Bh (hg.rel hat).1
 have hOV:∀o∈x.g.Args,OV o:=fun o ho=>hops o (by
  have:E7 x.g=x.g.Args:=by
   unfold E7;unfold E3 at hat;simp only[Bool.or_eq_true,decide_eq_true_eq]at hat
   rw[if_pos hat]
  rw[this];exact ho)
 have hrep:D6 Γ x.hdr 4 (x.g.Args.map enc):=hx
 unfold E6.hdr at hrep;repeat first|refine A5 ?_|refine A6 ?_;intro w hw
 refine CS (len:=x.N) ?_
 intro a4 w hw;have hw:Wd Γ [.own (.slice (some a4) x.N x.N) 9 1 (A1 (List.replicate x.N C5)),.blk b1 (.cells (cG x).toArray 77)] w:=by
  unfold A1;rw[List.map_replicate];exact hw
 repeat first|refine A5 ?_|refine A6 ?_;intro w hw
 refine FZ (fun ρ w=>∃ss:List ByteArray,Has ρ [(1,.pointer (some ⟨b1,0,none⟩)),(4,.slice (some a4) x.N x.N)]∧ss=x.g.Args.map R9∧Wd Γ [.own (.slice (some a4) x.N x.N) 9 1 (A1 ss),.blk b1 (.cells (cG x).toArray 77)] w) ?_ ?_
 ·repeat first|refine A5 ?_|refine A6 ?_;intro w hw
  refine C1 (fun μ ρ w=>∃(j:Nat) (ss:List ByteArray),μ+j=x.N∧Has ρ [(1,.pointer (some ⟨b1,0,none⟩)),(4,.slice (some a4) x.N x.N),(69,.slice x.A x.N x.C),(70,.int .i64 x.N),(71,.int .i64 j)]∧ss.length=x.N∧ss.take j=(x.g.Args.take j).map R9∧Wd Γ [.own (.slice (some a4) x.N x.N) 9 1 (A1 ss),.blk b1 (.cells (cG x).toArray 77)] w) x.N ⟨0,List.replicate x.N C5,by omega,⟨rfl,rfl,rfl,rfl,rfl,trivial⟩,by simp,by simp,hw⟩ ?_
  clear hw;rintro μ ρ w ⟨j,ss,hj,hρ,hsl,hst,hw⟩
  rw[hρ.eq];clear hρ;repeat first|refine A5 ?_|refine A6 ?_;intro w hw
  refine A0 rfl (fun h=>?_) (fun h=>?_)
  ·have hjn:j<x.N:=by have:=of_decide_eq_true h;omega
   clear h;obtain⟨o,ho⟩:=B8 (l:=x.g.Args) (k:=j) (by omega)
   have hom:=List.mem_of_getElem? ho
   have pO:=Ay (Γ:=Γ) o (hok.args o hom) (DU (hOV o hom))
   repeat first|refine A5 ?_|refine A6 ?_;intro w hw
   refine B7 ?_;intro b6 w hw;repeat first|refine A5 ?_|refine A6 ?_;intro w hw
   refine A9 ?_;intro w hw;have hw:Wd Γ [.blk b6 (.cells (enc o).toArray 75),.own (.slice (some a4) x.N x.N) 9 1 (A1 ss),.blk b1 (.cells (cG x).toArray 77)] w:=hw
   repeat first|refine A5 ?_|refine A6 ?_;intro w hw
   refine Cw (i:=1) ?_
   intro w hw;have hw:Wd Γ [.blk b6 (.cells (enc o).toArray 75),.own (.slice (some a4) x.N x.N) 9 1 ((A1 ss).set j [.string (R9 o)]),.blk b1 (.cells (cG x).toArray 77)] w:=hw
   rw[show (A1 ss).set j [.string (R9 o)]=A1 (ss.set j (R9 o)) from by unfold A1;rw[List.map_set]]at hw
   repeat first|refine A5 ?_|refine A6 ?_;intro w hw
   refine⟨μ-1,by omega,j+1,ss.set j (R9 o),by omega,⟨rfl,rfl,rfl,rfl,rfl,trivial⟩,by rw[List.length_set];exact hsl,?_,hw.drop⟩
   rw[List.take_add_one,List.take_set_of_le (Nat.le_refl _),hst,List.getElem?_set_self (by omega),List.take_add_one,ho,List.map_append];rfl
  ·have hjn:¬j<x.N:=by have:=of_decide_eq_false h;omega
   rw[List.take_of_length_le (by omega),List.take_of_length_le (by omega)]at hst
   repeat first|refine A5 ?_|refine A6 ?_;intro w hw
   exact⟨ss,⟨rfl,rfl,trivial⟩,hst,hw⟩
 clear hw;rintro ρ w ⟨ss,hρ,hss,hw⟩
 rw[hρ.eq];clear hρ;subst hss;obtain⟨Γ1,hle1,hfr,hw⟩:=hw.freeze;haveI hT1:BM Γ1:=hT.mono hle1
 have hsz:∀s∈x.g.Args.map R9,s.size≤30:=fun s hs=>by
  obtain⟨o,ho,rfl⟩:=List.mem_map.1 hs
  exact f8 (hOV o ho)
 have pJ:=FH hfr (by rw[List.length_map];omega) (fun s hs=>Nat.le_trans (hsz s hs) (by decide))
 have zJ:(H1 (x.g.Args.map R9)).size≤8016:=by
  have:=t6 (x.g.Args.map R9) (fun s hs=>Nat.le_trans (hsz s hs) (by decide))
  rw[List.length_map]at this;omega
 have zR:(By x.g).size≤8100:=by
  unfold By;rw[ByteArray.size_append,ByteArray.size_append,ByteArray.size_append];omega
 repeat first|refine A5 ?_|refine A6 ?_;intro w hw
 refine H0 (by kernel_rfl) (by kernel_rfl) hw ?_
 refine Bt ?_;refine qY (v:=.string (x.g.Rel++Ge)) ?_ (hy:=fun w hw=>F0 (a:=x.g.Rel) (b:=Ge) rfl rfl (by have:(⟨#[40]⟩:ByteArray).size=1:=rfl;omega))
 refine Bt ?_;refine CO (v:=.string (H1 (x.g.Args.map R9))) (vs:=[.slice (some a4) x.N x.N,.string T7]) ?_ (hp:=pJ)
 refine qY (v:=.string ((x.g.Rel++Ge)++H1 (x.g.Args.map R9))) ?_ (hy:=fun w hw=>F0 (a:=(x.g.Rel++Ge)) (b:=H1 (x.g.Args.map R9)) rfl rfl (by rw[ByteArray.size_append];omega))
 refine qY (v:=.string (By x.g)) ?_ (hy:=fun w hw=>F0 (a:=(x.g.Rel++Ge)++H1 (x.g.Args.map R9)) (b:=PY) rfl rfl (by have:(⟨#[41]⟩:ByteArray).size=1:=rfl;rw[ByteArray.size_append,ByteArray.size_append];omega))
 refine Bt ?_;clear hw;intro w hw;repeat first|refine A5 ?_|refine A6 ?_;intro w hw
 refine A0 rfl (fun h2=>?_) (fun h2=>?_)
 ·have h2:x.g.Kind=2:=of_decide_eq_true h2
  rw[EE h3 h4,if_pos h2];repeat first|refine A5 ?_|refine A6 ?_;intro w hw
  refine lY (v:=.string (Fo++By x.g)) ?_ (hy:=F0 (a:=Fo) (b:=By x.g) rfl rfl (by have:(⟨#[110,111,116,32]⟩:ByteArray).size=4:=rfl;omega))
  repeat first|refine A5 ?_|refine A6 ?_;intro w hw
  exact⟨_,rfl,Γ1,hle1,rfl,E8 hw⟩
 ·have h2:¬x.g.Kind=2:=of_decide_eq_false h2
  rw[EE h3 h4,if_neg h2];repeat first|refine A5 ?_|refine A6 ?_;intro w hw
  exact⟨_,rfl,Γ1,hle1,rfl,E8 hw⟩
end Go.Proofs.YtlmiakjbogojgaaGreatDoor
end
section
open Go Mk
namespace Go.Proofs.YtlmiakjbogojgaaGreatDoor
set_option maxHeartbeats 32000000
attribute [local irreducible] Calls cI cB
def e8:ByteArray:=⟨#[32,119,104,101,114,101,32]⟩
def J3(ss:List ByteArray):ByteArray:=if 0<ss.length then m9++(O3++H1 ss) else m9
theorem Ml(ss:List ByteArray):H6 (J3 ss)=H6 m9++Od ss:=by
 unfold J3;split
 ·rename_i h
  have hne:ss≠[]:=fun q=>by rw[q]at h;exact absurd h (by decide)
  rw[Mu hne,N5,N5,show H6 (H1 ss)=Lib.join (ss.map H6) (H6 T7) from N0 _];rfl
 ·rename_i h
  have hn:ss=[]:=List.length_eq_zero_iff.1 (by omega)
  rw[hn];show _=H6 m9++[]
  rw[List.append_nil]
theorem HG{q:D8}(hv:T8 q=0):f0 q=(J3 q.Sel++e8)++H1 (q.Goals.map H5):=N7 (by
 unfold f0 qL;rw[if_pos hv,show H6 (Nu _)=_ from N0 _,N5,N5,Ml,show H6 (H1 (q.Goals.map H5))=Lib.join ((q.Goals.map H5).map H6) (H6 T7) from N0 _,←Im];show _=((_++_)++[32,119,104,101,114,101,32])++_
 have e:H6 K5=[119,104,101,114,101]:=rfl
 rw[e];simp[List.append_assoc])
theorem GL{q:D8}(hv:¬T8 q=0):f0 q=C5:=by unfold f0;rw[if_neg hv]
theorem NI{Γ0:C4}[hT0:BM Γ0]{vs vg:Value}{gs:List E6}{q:D8}(hq0:QR Γ0 vs vg gs q)(hok:L0 q):PG Tryz.prog Γ0 10 [.agg #[vs,vg]] (.string (f0 q)):=N6 fun Γ w hle0 hw=>by
 have hq:=hq0.mono hle0
 haveI hT:BM Γ:=hT0.mono hle0
 obtain⟨ga,gn,gc,rfl,hgn,hgnc,hgc⟩:=hq.goals.shape;obtain⟨sa,sn,sc,rfl,hsn,hsnc,hsc⟩:=hq.sel.shape;simp only[List.length_map]at hgn hsn
 have hnl:=hq.nlen
 have pV:=Ck hq hok
 refine A4 Tryz.func10 rfl rfl ?_
 repeat first|refine A5 ?_|refine A6 ?_;intro w hw
 refine J5 ?_;intro b1 w hw;have hw:Wd Γ [.blk b1 (.cells #[.slice sa sn sc,.slice ga gn gc] 25)] w:=hw
 repeat first|refine A5 ?_|refine A6 ?_;intro w hw
 refine A0 rfl (fun h=>?_) (fun h=>?_)
 ·have h:¬T8 q=0:=of_decide_eq_true h
  rw[GL h];repeat first|refine A5 ?_|refine A6 ?_;intro w hw
  exact⟨_,rfl,Γ,C4.le.refl _,rfl,E8 hw⟩
 have hv:T8 q=0:=by have:=of_decide_eq_false h;exact Classical.not_not.1 this
 clear h;have hQ:=Ss hok hv
 obtain⟨m1,m2,m3⟩:=KS hv
 rw[HG hv];have hss:∀s∈q.Sel,s.size≤24:=fun s hs=>Bl (.inr (hQ.sel s hs))
 have pS:=FH hq.sel (by omega) (fun s hs=>Nat.le_trans (hss s hs) (by decide))
 have zS:(H1 q.Sel).size≤8016:=by
  have:=t6 q.Sel (fun s hs=>Nat.le_trans (hss s hs) (by decide))
  omega
 obtain⟨s1,-⟩:=AF;have z6:m9.size=6:=rfl
 have z7:e8.size=7:=rfl
 have zQ:(J3 q.Sel).size≤8100:=by
  unfold J3;split
  ·rw[ByteArray.size_append,ByteArray.size_append];omega
  ·omega
 repeat first|refine A5 ?_|refine A6 ?_;intro w hw
 refine J6 (fun ρ w=>Has ρ [(1,.pointer (some ⟨b1,0,none⟩)),(3,.string (J3 q.Sel))]∧Wd Γ [.blk b1 (.cells #[.slice sa sn sc,.slice ga gn gc] 25)] w) ?_ ?_
 ·refine A0 rfl (fun h=>?_) (fun h=>?_)
  ·have h:0<sn:=by have:=of_decide_eq_true h;omega
   have e:J3 q.Sel=m9++(O3++H1 q.Sel):=by unfold J3;rw[if_pos (by omega)]
   rw[e];repeat first|refine A5 ?_|refine A6 ?_;intro w hw
   refine TD (v:=.string (H1 q.Sel)) (vs:=[.slice sa sn sc,.string T7]) ?_ (hp:=pS)
   intro w hw;refine lY (v:=.string (O3++H1 q.Sel)) ?_ (hy:=F0 (a:=O3) (b:=H1 q.Sel) rfl rfl (by omega))
   refine lY (v:=.string (m9++(O3++H1 q.Sel))) ?_ (hy:=F0 (a:=m9) (b:=O3++H1 q.Sel) rfl rfl (by rw[ByteArray.size_append];omega))
   repeat first|refine A5 ?_|refine A6 ?_;intro w hw
   exact⟨⟨rfl,rfl,trivial⟩,hw⟩
  ·have h:¬0<sn:=by have:=of_decide_eq_false h;omega
   have e:J3 q.Sel=m9:=by unfold J3;rw[if_neg (by omega)]
   rw[e];repeat first|refine A5 ?_|refine A6 ?_;intro w hw
   exact⟨⟨rfl,rfl,trivial⟩,hw⟩
 clear hw;rintro ρ w ⟨hρ,hw⟩
 rw[hρ.eq];clear hρ;repeat first|refine A5 ?_|refine A6 ?_;intro w hw
 refine CS (len:=gn) ?_
 intro a4 w hw;have hw:Wd Γ [.own (.slice (some a4) gn gn) 9 1 (A1 (List.replicate gn C5)),.blk b1 (.cells #[.slice sa sn sc,.slice ga gn gc] 25)] w:=by
  unfold A1;rw[List.map_replicate];exact hw
 repeat first|refine A5 ?_|refine A6 ?_;intro w hw
 refine FZ (fun ρ w=>∃ts:List ByteArray,Has ρ [(3,.string (J3 q.Sel)),(4,.slice (some a4) gn gn)]∧ts=q.Goals.map H5∧Wd Γ [.own (.slice (some a4) gn gn) 9 1 (A1 ts),.blk b1 (.cells #[.slice sa sn sc,.slice ga gn gc] 25)] w) ?_ ?_
 ·have hrg:=hq.goals
  repeat first|refine A5 ?_|refine A6 ?_;intro w hw
  refine C1 (fun μ ρ w=>∃(j:Nat) (ts:List ByteArray),μ+j=gn∧Has ρ [(3,.string (J3 q.Sel)),(4,.slice (some a4) gn gn),(25,.slice ga gn gc),(26,.int .i64 gn),(27,.int .i64 j)]∧ts.length=gn∧ts.take j=(q.Goals.take j).map H5∧Wd Γ [.own (.slice (some a4) gn gn) 9 1 (A1 ts),.blk b1 (.cells #[.slice sa sn sc,.slice ga gn gc] 25)] w) gn ⟨0,List.replicate gn C5,by omega,⟨rfl,rfl,rfl,rfl,rfl,trivial⟩,by simp,by simp,hw⟩ ?_
  clear hw;rintro μ ρ w ⟨j,ts,hj,hρ,htl,hst,hw⟩
  rw[hρ.eq];clear hρ;repeat first|refine A5 ?_|refine A6 ?_;intro w hw
  refine A0 rfl (fun h=>?_) (fun h=>?_)
  ·have hjn:j<gn:=by have:=of_decide_eq_true h;omega
   clear h;obtain⟨x,hx⟩:=B8 (l:=gs) (k:=j) (by omega)
   have hxm:=List.mem_of_getElem? hx
   have hxq:=hq.get hx
   have hgm:=List.mem_of_getElem? hxq
   have pO:=Hj (Γ0:=Γ) (hQ.goals x.g hgm) (hok.goals x.g hgm) (Lt hQ hv hgm) (hq.ok x hxm)
   repeat first|refine A5 ?_|refine A6 ?_;intro w hw
   refine B7 ?_;intro b6 w hw;repeat first|refine A5 ?_|refine A6 ?_;intro w hw
   refine A9 ?_;intro w hw;have hw:Wd Γ [.blk b6 (.cells (cG x).toArray 77),.own (.slice (some a4) gn gn) 9 1 (A1 ts),.blk b1 (.cells #[.slice sa sn sc,.slice ga gn gc] 25)] w:=hw
   repeat first|refine A5 ?_|refine A6 ?_;intro w hw
   refine Cw (i:=1) ?_
   intro w hw;have hw:Wd Γ [.blk b6 (.cells (cG x).toArray 77),.own (.slice (some a4) gn gn) 9 1 ((A1 ts).set j [.string (H5 x.g)]),.blk b1 (.cells #[.slice sa sn sc,.slice ga gn gc] 25)] w:=hw
   rw[show (A1 ts).set j [.string (H5 x.g)]=A1 (ts.set j (H5 x.g)) from by unfold A1;rw[List.map_set]]at hw
   repeat first|refine A5 ?_|refine A6 ?_;intro w hw
   refine⟨μ-1,by omega,j+1,ts.set j (H5 x.g),by omega,⟨rfl,rfl,rfl,rfl,rfl,trivial⟩,by rw[List.length_set];exact htl,?_,hw.drop⟩
   rw[List.take_add_one,List.take_set_of_le (Nat.le_refl _),hst,List.getElem?_set_self (by omega),List.take_add_one,hxq,List.map_append];rfl
  ·have hjn:¬j<gn:=by have:=of_decide_eq_false h;omega
   rw[List.take_of_length_le (by omega),List.take_of_length_le (by omega)]at hst
   repeat first|refine A5 ?_|refine A6 ?_;intro w hw
   exact⟨ts,⟨rfl,rfl,trivial⟩,hst,hw⟩
 clear hw;rintro ρ w ⟨ts,hρ,hts,hw⟩
 rw[hρ.eq];clear hρ;subst hts;obtain⟨Γ1,hle1,hfr,hw⟩:=hw.freeze;haveI hT1:BM Γ1:=hT.mono hle1
 have hsz:∀s∈q.Goals.map H5,s.size≤400:=fun s hs=>by
  obtain⟨g,hg,rfl⟩:=List.mem_map.1 hs
  exact Dw (hQ.goals g hg) (Lt hQ hv hg)
 have pJ:=FH hfr (by rw[List.length_map];omega) (fun s hs=>Nat.le_trans (hsz s hs) (by decide))
 have zJ:(H1 (q.Goals.map H5)).size≤17000:=by
  have:=t6 (q.Goals.map H5) (fun s hs=>Nat.le_trans (hsz s hs) (by decide))
  rw[List.length_map]at this;omega
 repeat first|refine A5 ?_|refine A6 ?_;intro w hw
 refine lY (v:=.string (J3 q.Sel++e8)) ?_ (hy:=F0 (a:=J3 q.Sel) (b:=e8) rfl rfl (by omega))
 repeat first|refine A5 ?_|refine A6 ?_;intro w hw
 refine TD (v:=.string (H1 (q.Goals.map H5))) (vs:=[.slice (some a4) gn gn,.string T7]) ?_ (hp:=pJ)
 intro w hw;refine lY (v:=.string ((J3 q.Sel++e8)++H1 (q.Goals.map H5))) ?_ (hy:=F0 (a:=J3 q.Sel++e8) (b:=H1 (q.Goals.map H5)) rfl rfl (by rw[ByteArray.size_append];omega))
 repeat first|refine A5 ?_|refine A6 ?_;intro w hw
 exact⟨_,rfl,Γ1,hle1,rfl,E8 hw⟩
end Go.Proofs.YtlmiakjbogojgaaGreatDoor
end
section
open Go Mk
namespace Go.Proofs.YtlmiakjbogojgaaGreatDoor
set_option maxHeartbeats 4000000
theorem Gs(sep x:List UInt8):∀l:List (List UInt8),Lib.join (l++[x]) sep=if l=[] then x else Lib.join l sep++(sep++x)
 | []=>by rw[if_pos rfl];exact Lib.join_one x sep
 | [a]=>by
  rw[if_neg (by simp)]
  simp[Lib.join,List.intercalate]
 | a::b::l=>by
  have h:=Gs sep x (b::l)
  rw[if_neg (by simp)]at h
  rw[if_neg (by simp)]
  have e1:Lib.join (a::b::(l++[x])) sep=a++(sep++Lib.join (b::(l++[x])) sep):=by simp[Lib.join,List.intercalate]
  have e2:Lib.join (a::b::l) sep=a++(sep++Lib.join (b::l) sep):=by simp[Lib.join,List.intercalate]
  show Lib.join (a::b::(l++[x])) sep=_
  rw[e1,e2,show Lib.join (b::(l++[x])) sep=Lib.join (b::l++[x]) sep from rfl,h]
  simp only[List.append_assoc]
theorem KC{s0 x:ByteArray}{xs:List ByteArray}{k:Nat}(hx:xs[k]? = some x):s0++H1 (xs.take (k+1))=if 0<k then ((s0++H1 (xs.take k))++T7)++x else (s0++H1 (xs.take k))++x:=by
 have hk:k<xs.length:=(List.getElem?_eq_some_iff.1 hx).1
 have ht:xs.take (k+1)=xs.take k++[x]:=by rw[List.take_add_one,hx];rfl
 have hj:H6 (H1 (xs.take (k+1)))=if 0<k then H6 (H1 (xs.take k))++(H6 T7++H6 x) else H6 x:=by
  unfold H1;rw[N0,N0,ht,List.map_append,List.map_cons,List.map_nil,Gs];by_cases h0:0<k
  ·rw[if_pos h0,if_neg (fun q=>by have q:=congrArg List.length q;rw[List.length_map,List.length_take]at q;have q:min k xs.length=0:=q;omega)]
  ·have:k=0:=by omega
   subst this;rw[if_neg h0,if_pos (show ((xs.take 0).map fun y=>y.data.toList)=[] from rfl)]
 refine N7 ?_
 rw[N5,hj];by_cases h0:0<k
 ·rw[if_pos h0,if_pos h0,N5,N5,N5];simp[List.append_assoc]
 ·have:k=0:=by omega
  subst this;rw[if_neg h0,if_neg h0,N5,N5];have:H6 (H1 (xs.take 0))=[]:=rfl
  rw[this,List.append_nil]
def SC:ByteArray:=⟨#[44]⟩
theorem UN{x:ByteArray}{xs:List ByteArray}{k:Nat}(hx:xs[k]? = some x):J3 (xs.take (k+1))=if 0<k then ((J3 (xs.take k)++SC)++O3)++x else (J3 (xs.take k)++O3)++x:=by
 have hk:k<xs.length:=(List.getElem?_eq_some_iff.1 hx).1
 have hj:=KC (s0:=O3) hx
 have h1:J3 (xs.take (k+1))=m9++(O3++H1 (xs.take (k+1))):=by unfold J3;rw[if_pos (by rw[List.length_take];omega)]
 rw[h1,hj];by_cases h0:0<k
 ·have h2:J3 (xs.take k)=m9++(O3++H1 (xs.take k)):=by unfold J3;rw[if_pos (by rw[List.length_take];omega)]
  rw[if_pos h0,if_pos h0,h2];have hs:T7=SC++O3:=by decide
  rw[hs];simp only[ByteArray.append_assoc]
 ·have:k=0:=by omega
  subst this;rw[if_neg h0,if_neg h0];have h2:J3 (xs.take 0)=m9:=rfl
  have h3:O3++H1 (xs.take 0)=O3:=N7 (by rw[N5];exact List.append_nil _)
  rw[h2,h3];simp only[ByteArray.append_assoc]
end Go.Proofs.YtlmiakjbogojgaaGreatDoor
end
section
open Go Mk
namespace Go.Proofs.YtlmiakjbogojgaaGreatDoor
set_option maxHeartbeats 32000000
attribute [local irreducible] Calls cI cB
theorem IR{Γ:C4}(o:G8)(h:OV o):PG Tryz.prog Γ 48 [.agg (enc o).toArray] (.string (R9 o)):=by
 have hwd:=DU h
 rcases h with⟨h1,h2,h3⟩|⟨h1,h2⟩
 ·refine Ic o ⟨by rw[h1];exact Nat.zero_le _,h3,Nat.le_trans hwd (by decide)⟩ hwd (fun _ hk=>?_)
  unfold I2 CC at h2;simp only[Bool.or_eq_true,Bool.and_eq_true,decide_eq_true_eq]at h2
  exact h2.elim (fun q=>absurd q.1 hk) (fun q=>q.2.2)
 ·refine Ic o ⟨Nat.le_trans (Bl h1) (by decide),?_⟩ hwd (fun q=>absurd q (Of h1))
  rw[h2];exact⟨⟨by decide,by decide⟩,Nat.zero_le _⟩
theorem LM{Γ0:C4}{vs vg:Value}{gs:List E6}{q:D8}(hq0:QR Γ0 vs vg gs q)(hok:L0 q):PG Tryz.prog Γ0 12 [.agg #[vs,vg]] (.string (f0 q)):=N6 fun Γ w hle0 hw=>by
 have hq:=hq0.mono hle0
 obtain⟨ga,gn,gc,rfl,hgn,hgnc,hgc⟩:=hq.goals.shape;obtain⟨sa,sn,sc,rfl,hsn,hsnc,hsc⟩:=hq.sel.shape;simp only[List.length_map]at hgn hsn
 have hnl:=hq.nlen
 have pV:=GZ hq hok
 refine A4 Tryz.func12 rfl rfl ?_
 repeat first|refine A5 ?_|refine A6 ?_;intro w hw
 refine J5 ?_;intro b1 w hw;have hw:Wd Γ [.blk b1 (.cells #[.slice sa sn sc,.slice ga gn gc] 25)] w:=hw
 repeat first|refine A5 ?_|refine A6 ?_;intro w hw
 refine A0 rfl (fun h=>?_) (fun h=>?_)
 ·have h:¬T8 q=0:=of_decide_eq_true h
  rw[GL h];repeat first|refine A5 ?_|refine A6 ?_;intro w hw
  exact⟨_,rfl,Γ,C4.le.refl _,rfl,E8 hw⟩
 have hv:T8 q=0:=by have:=of_decide_eq_false h;exact Classical.not_not.1 this
 clear h;have hQ:=Ss hok hv
 obtain⟨m1,m2,m3⟩:=KS hv
 rw[HG hv];have hss:∀s∈q.Sel,s.size≤24:=fun s hs=>Bl (.inr (hQ.sel s hs))
 have z6:m9.size=6:=rfl
 have z7:e8.size=7:=rfl
 have zc:SC.size=1:=rfl
 have zs:O3.size=1:=rfl
 have zQ:∀k,(J3 (q.Sel.take k)).size≤8100:=fun k=>by
  have h1:=t6 (q.Sel.take k) (fun s hs=>Nat.le_trans (hss s (List.mem_of_mem_take hs)) (by decide))
  have h2:(q.Sel.take k).length≤q.Sel.length:=by rw[List.length_take];omega
  unfold J3;split
  ·rw[ByteArray.size_append,ByteArray.size_append];omega
  ·omega
 have hrS:=hq.sel
 repeat first|refine A5 ?_|refine A6 ?_;intro w hw
 refine C1 (fun μ ρ w=>∃(k:Nat),μ+k=sn∧Has ρ [(1,.pointer (some ⟨b1,0,none⟩)),(3,.string (J3 (q.Sel.take k))),(4,.int .i64 k)]∧Wd Γ [.blk b1 (.cells #[.slice sa sn sc,.slice ga gn gc] 25)] w) sn ⟨0,by omega,⟨rfl,rfl,rfl,trivial⟩,hw⟩ ?_
 repeat clear hw
 rintro μ ρ w ⟨k,hk,hρ,hw⟩
 rw[hρ.eq];clear hρ;have zk:=zQ k
 repeat first|refine A5 ?_|refine A6 ?_;intro w hw
 refine A0 rfl (fun h=>?_) (fun h=>?_)
 ·have h:k<sn:=by have:=of_decide_eq_true h;omega
  obtain⟨x,hx⟩:=B8 (l:=q.Sel) (k:=k) (by omega)
  have hxs:=hss x (List.mem_of_getElem? hx)
  have hup:=UN hx
  repeat first|refine A5 ?_|refine A6 ?_;intro w hw
  refine A0 rfl (fun h2=>?_) (fun h2=>?_)
  ·have h2:0<k:=by have:=of_decide_eq_true h2;omega
   rw[if_pos h2]at hup;repeat first|refine A5 ?_|refine A6 ?_;intro w hw
   refine lY (v:=.string (J3 (q.Sel.take k)++SC)) ?_ (hy:=F0 (a:=J3 (q.Sel.take k)) (b:=SC) rfl rfl (by omega))
   repeat first|refine A5 ?_|refine A6 ?_;intro w hw
   refine lY (v:=.string ((J3 (q.Sel.take k)++SC)++O3)) ?_ (hy:=F0 (a:=J3 (q.Sel.take k)++SC) (b:=O3) rfl rfl (by rw[ByteArray.size_append];omega))
   repeat first|refine A5 ?_|refine A6 ?_;intro w hw
   refine lY (v:=.string (((J3 (q.Sel.take k)++SC)++O3)++x)) ?_ (hy:=F0 (a:=(J3 (q.Sel.take k)++SC)++O3) (b:=x) rfl rfl (by rw[ByteArray.size_append,ByteArray.size_append];omega))
   repeat first|refine A5 ?_|refine A6 ?_;intro w hw
   exact⟨μ-1,by omega,k+1,by omega,⟨rfl,by rw[hup];rfl,rfl,trivial⟩,hw⟩
  ·have h2:¬0<k:=by have:=of_decide_eq_false h2;omega
   rw[if_neg h2]at hup;repeat first|refine A5 ?_|refine A6 ?_;intro w hw
   refine lY (v:=.string (J3 (q.Sel.take k)++O3)) ?_ (hy:=F0 (a:=J3 (q.Sel.take k)) (b:=O3) rfl rfl (by omega))
   repeat first|refine A5 ?_|refine A6 ?_;intro w hw
   refine lY (v:=.string ((J3 (q.Sel.take k)++O3)++x)) ?_ (hy:=F0 (a:=J3 (q.Sel.take k)++O3) (b:=x) rfl rfl (by rw[ByteArray.size_append];omega))
   repeat first|refine A5 ?_|refine A6 ?_;intro w hw
   exact⟨μ-1,by omega,k+1,by omega,⟨rfl,by rw[hup];rfl,rfl,trivial⟩,hw⟩
 have h:k=sn:=by have:=of_decide_eq_false h;omega
 have e:q.Sel.take k=q.Sel:=List.take_of_length_le (by omega)
 rw[e]at zk ⊢
 repeat clear hρ
 repeat first|refine A5 ?_|refine A6 ?_;intro w hw
 refine lY (v:=.string (J3 q.Sel++e8)) ?_ (hy:=F0 (a:=J3 q.Sel) (b:=e8) rfl rfl (by omega))
 obtain⟨T0,hT0⟩:∃T0,T0=J3 q.Sel++e8:=⟨_,rfl⟩
 have zT:T0.size≤8200:=by rw[hT0,ByteArray.size_append];omega
 rw[←hT0];have e0:T0=T0++H1 ((q.Goals.map H5).take 0):=N7 (by rw[N5];exact(List.append_nil _).symm)
 repeat first|refine A5 ?_|refine A6 ?_;intro w hw
 refine C1 (fun μ ρ w=>∃(k:Nat),μ+k=gn∧Has ρ [(1,.pointer (some ⟨b1,0,none⟩)),(3,.string (T0++H1 ((q.Goals.map H5).take k))),(5,.int .i64 k)]∧Wd Γ [.blk b1 (.cells #[.slice sa sn sc,.slice ga gn gc] 25)] w) gn ⟨0,by omega,⟨rfl,by rw[←e0];rfl,rfl,trivial⟩,hw⟩ ?_
 repeat clear hw
 clear hk hrS e zk;rintro μ ρ w ⟨k,hk,hρ,hw⟩
 rw[hρ.eq];clear hρ;have hrG:=hq.goals
 repeat first|refine A5 ?_|refine A6 ?_;intro w hw
 refine A0 rfl (fun h=>?_) (fun h=>?_)
 ·have h:k<gn:=by have:=of_decide_eq_true h;omega
  obtain⟨x,hx⟩:=B8 (l:=gs) (k:=k) (by omega)
  have hgx:q.Goals[k]? = some x.g:=by rw[←hq.eq,List.getElem?_map,hx];rfl
  have hup:=KC (s0:=T0) (xs:=q.Goals.map H5) (k:=k) (x:=H5 x.g) (by rw[List.getElem?_map,hgx];rfl)
  have hox:=hq.ok x (List.mem_of_getElem? hx)
  have hgm:=List.mem_of_getElem? hgx
  have hsz:∀s∈(q.Goals.map H5).take k,s.size≤400:=fun s hs=>by
   obtain⟨g,hg,rfl⟩:=List.mem_map.1 (List.mem_of_mem_take hs)
   exact Dw (hQ.goals g hg) (Lt hQ hv hg)
  have zK:(T0++H1 ((q.Goals.map H5).take k)).size≤10000000:=by
   have h1:=t6 ((q.Goals.map H5).take k) (fun s hs=>Nat.le_trans (hsz s hs) (by decide))
   have h2:((q.Goals.map H5).take k).length≤q.Goals.length:=by rw[List.length_take,List.length_map];omega
   rw[ByteArray.size_append];omega
  clear hsz;have hcx:(gs.map cG)[k]? = some (cG x):=by rw[List.getElem?_map,hx];rfl
  generalize T0++H1 ((q.Goals.map H5).take k)=TK at *
  have hG:=hQ.goals x.g hgm
  have h8:=Lt hQ hv hgm
  have zS:=Dw hG h8
  repeat first|refine A5 ?_|refine A6 ?_;intro w hw
  refine B7 ?_;intro b6 w hw;refine A9 ?_;intro w hw;have hw:Wd Γ [.blk b6 (.cells (cG x).toArray 77),.blk b1 (.cells #[.slice sa sn sc,.slice ga gn gc] 25)] w:=hw
  refine R5 ?_
  refine Q7 ?_
  refine J6 (fun ρ w=>∃TK2:ByteArray,TK2.size≤10000002∧T0++H1 ((q.Goals.map H5).take (k+1))=TK2++H5 x.g∧Has ρ [(1,.pointer (some ⟨b1,0,none⟩)),(3,.string TK2),(5,.int .i64 k),(6,.pointer (some ⟨b6,0,none⟩))]∧Wd Γ [.blk b6 (.cells (cG x).toArray 77),.blk b1 (.cells #[.slice sa sn sc,.slice ga gn gc] 25)] w) ?_ ?_
  ·repeat first|refine A5 ?_|refine A6 ?_;intro w hw
   refine A0 rfl (fun h2=>?_) (fun h2=>?_)
   ·have h2:0<k:=by have:=of_decide_eq_true h2;omega
    rw[if_pos h2]at hup;repeat first|refine A5 ?_|refine A6 ?_;intro w hw
    refine lY (v:=.string (TK++T7)) ?_ (hy:=F0 (a:=TK) (b:=T7) rfl rfl (by have:T7.size=2:=rfl;omega))
    repeat first|refine A5 ?_|refine A6 ?_;intro w hw
    exact⟨TK++T7,by rw[ByteArray.size_append];have:T7.size=2:=rfl;omega,hup,⟨rfl,rfl,rfl,rfl,trivial⟩,hw⟩
   ·have h2:¬0<k:=by have:=of_decide_eq_false h2;omega
    rw[if_neg h2]at hup;repeat first|refine A5 ?_|refine A6 ?_;intro w hw
    exact⟨TK,by omega,hup,⟨rfl,rfl,rfl,rfl,trivial⟩,hw⟩
  repeat clear hw
  clear hup zK TK;rintro ρ w ⟨TK,zK,hup,hρ,hw⟩
  rw[hρ.eq];clear hρ;refine FZ (fun ρ w=>Has ρ [(1,.pointer (some ⟨b1,0,none⟩)),(3,.string (TK++H5 x.g)),(5,.int .i64 k)]∧Wd Γ [.blk b1 (.cells #[.slice sa sn sc,.slice ga gn gc] 25)] w) ?_ ?_
  ·repeat first|refine A5 ?_|refine A6 ?_;intro w hw
   have hgok:=hok.goals x.g hgm
   refine A0 rfl (fun h4=>?_) (fun h4=>?_)
   ·have h4:x.g.Kind=4:=of_decide_eq_true h4
    have hOL:OV x.g.L:=hG.ops _ (by unfold E7;rw[if_neg (by omega),if_neg (by omega),if_pos h4];exact List.mem_cons_self)
    have zL:=f8 hOL
    obtain⟨s1,s2,s3,-⟩:=AF;have z1:=Y0 hG.low.1 hG.low.2
    have z2:=Y0 hG.high.1 hG.high.2
    have pA:=fun Γ'=>Et (Γ:=Γ') x.g.Low hG.low.1 hG.low.2
    have pB:=fun Γ'=>Et (Γ:=Γ') x.g.High hG.high.1 hG.high.2
    repeat first|refine A5 ?_|refine A6 ?_;intro w hw
    refine H0 (by kernel_rfl) (by kernel_rfl) hw ?_
    refine Bt ?_;apply D1
    apply F4
    refine CO (vs:=[.agg (enc x.g.L).toArray]) (v:=.string (R9 x.g.L)) ?_ (hp:=IR x.g.L hOL)
    refine Bt ?_;have w1:(TK++R9 x.g.L).size≤10000040:=by rw[ByteArray.size_append];omega
    generalize hU1:TK++R9 x.g.L=U1 at *
    apply D1
    refine qY (v:=.string (U1++DR)) ?_ (hy:=fun w hw=>F0 (a:=U1) (b:=DR) rfl rfl (by omega))
    refine Bt ?_;have w2:(U1++DR).size≤10000050:=by rw[ByteArray.size_append];omega
    generalize hU2:U1++DR=U2 at *
    apply D1
    refine qY (v:=.string (U2++I6 x.g.Low)) ?_ (hy:=fun w hw=>F0 (a:=U2) (b:=I6 x.g.Low) rfl rfl (by omega))
    have w3:(U2++I6 x.g.Low).size≤10000080:=by rw[ByteArray.size_append];omega
    generalize hU3:U2++I6 x.g.Low=U3 at *
    refine Bt ?_;apply D1
    refine qY (v:=.string (U3++CJ)) ?_ (hy:=fun w hw=>F0 (a:=U3) (b:=CJ) rfl rfl (by omega))
    have w4:(U3++CJ).size≤10000090:=by rw[ByteArray.size_append];omega
    generalize hU4:U3++CJ=U4 at *
    refine Bt ?_;intro w hw;repeat first|refine A5 ?_|refine A6 ?_;intro w hw
    have hLv:R9 x.g.L=x.g.L.Var:=by
     have hs:=hG.shape
     unfold J0 at hs;rw[if_neg (by omega),if_neg (by omega),if_pos h4]at hs
     exact IN (of_decide_eq_true (T9 hs))
    have hE:U4++I6 x.g.High=TK++H5 x.g:=by
     rw[HI h4,←hU4,←hU3,←hU2,←hU1,hLv];simp only[ByteArray.append_assoc]
    exact⟨⟨rfl,by rw[←hE];rfl,rfl,trivial⟩,hw.drop⟩
   have h4:¬x.g.Kind=4:=of_decide_eq_false h4
   repeat first|refine A5 ?_|refine A6 ?_;intro w hw
   refine A0 rfl (fun h3=>?_) (fun h3=>?_)
   ·have h3:x.g.Kind=3:=of_decide_eq_true h3
    have hL:OV x.g.L:=hG.ops _ (by unfold E7;simp[h3])
    have hR:OV x.g.R:=hG.ops _ (by unfold E7;simp[h3])
    have hnum:1≤x.g.Op∧x.g.Op≤6∧x.g.Off≠-9223372036854775808:=by
     have:=hG.num
     unfold Z1 at this;rw[if_pos h3]at this;simpa[and_assoc] using this
    have hoff:=hG.off
    unfold u5 at hoff;obtain⟨j,hj⟩:∃j:Nat,x.g.Op=(j:Int):=⟨x.g.Op.toNat,by omega⟩
    obtain⟨o,ho⟩:∃o,Q4[j]? = some o:=B8 (l:=Q4) (by show j<7;omega)
    have hoe:Q4.getD x.g.Op.toNat C5=o:=by
     rw[hj,Int.toNat_natCast,List.getD_eq_getElem?_getD,ho];rfl
    have hos:o.size≤2:=by rw[←hoe];exact IJ _
    have zL:=f8 hL
    have zR:=f8 hR
    obtain⟨s1,s2,s3,s4,s5,s6,s7,s8⟩:=AF;have zi:=Y0 hoff.1 hoff.2
    have zn:=Y0 (n:=-x.g.Off) (by omega) (by omega)
    have pI:=fun Γ'=>Et (Γ:=Γ') x.g.Off hoff.1 hoff.2
    have pN:=fun Γ'=>Et (Γ:=Γ') (-x.g.Off) (by omega) (by omega)
    refine Q7 ?_
    refine J6 (fun ρ w=>Has ρ [(1,.pointer (some ⟨b1,0,none⟩)),(3,.string (TK++P6 x.g)),(5,.int .i64 k),(6,.pointer (some ⟨b6,0,none⟩))]∧Wd Γ [.blk b6 (.cells (cG x).toArray 77),.blk b1 (.cells #[.slice sa sn sc,.slice ga gn gc] 25)] w) ?_ ?_
    ·have hwX:Wd Γ ([.blk b6 (.cells (cG x).toArray 77),.blk b1 (.cells #[.slice sa sn sc,.slice ga gn gc] 25)]++[]) w:=hw
     refine p8 [.blk b6 (.cells (cG x).toArray 77),.blk b1 (.cells #[.slice sa sn sc,.slice ga gn gc] 25)] [] [106,109] [[],[],[],[],[],[],[0],[],[],[0],[0],[],[],[],[],[],[],[]] hwX ?_
     clear hwX hw;refine W9 ?_;refine UH (v:=.string (R9 x.g.L)) (vs:=[.agg (enc x.g.L).toArray]) ?_ (hp:=IR x.g.L hL)
     refine W9 ?_;have w1:(TK++R9 x.g.L).size≤10000040:=by rw[ByteArray.size_append];omega
     generalize hU1:TK++R9 x.g.L=U1 at *
     refine mY (v:=.string (U1++O3)) ?_ (hy:=fun Y w g hw=>F0 (a:=U1) (b:=O3) rfl rfl (by omega))
     have w2:(U1++O3).size≤10000050:=by rw[ByteArray.size_append];omega
     generalize hU2:U1++O3=U2 at *
     refine FS (v:=undef) (T':=Addr) (fun t g=>g 106=.slice (some t) 7 7) (fun t=>[.own (.slice (some t) 7 7) 9 1 (Q4.map fun s=>[.string s])]) (fun _ _=>[]) (fun t g w Y _ hw=>?_) ?_
     ·refine(Ju hw).mono ?_
      rintro r w' ⟨q,rfl,hw'⟩
      exact⟨_,rfl,q,rfl,(fun h=>by cases h),hw'⟩
     refine W9 ?_;refine V9 (v:=undef) (T':=Addr) (fun t g=>g 109=.pointer (some ⟨aB (some t),aO (some t)+j*1,none⟩)) (fun t=>[.own (.slice (some t) 7 7) 9 1 (Q4.map fun s=>[.string s])]) (fun t g w Y ht hw=>?_) ?_
     ·have ht:g 106=.slice (some t) 7 7:=ht
      refine Yields.step (y4 (j:=0) (i:=(j:Int)) hw rfl ht (congrArg (Value.int .i64) hj) (by omega) (by omega)) ⟨t,?_,(fun h=>by cases h),hw⟩
      rfl
     refine V9 (v:=.string o) (T':=Unit) (fun _ _=>True) (fun _=>[]) (fun t g w Y ht hw=>?_) ?_
     ·have ht:g 109=.pointer (some ⟨aB (some t),aO (some t)+j*1,none⟩):=ht
      refine Yields.step (H9 (k:=j) (u:=.string o) ht (hw.own_rd (i:=0) rfl) (B2 ho)) ⟨(),trivial,(fun _=>rfl),?_⟩
      exact hw.drop
     refine W9 ?_;have w3:(U2++o).size≤10000060:=by rw[ByteArray.size_append];omega
     generalize hU3:U2++o=U3 at *
     refine mY (v:=.string (U3++O3)) ?_ (hy:=fun Y w g hw=>F0 (a:=U3) (b:=O3) rfl rfl (by omega))
     have w4:(U3++O3).size≤10000070:=by rw[ByteArray.size_append];omega
     generalize hU4:U3++O3=U4 at *
     refine W9 ?_;refine UH (v:=.string (R9 x.g.R)) (vs:=[.agg (enc x.g.R).toArray]) ?_ (hp:=IR x.g.R hR)
     refine mY (v:=.string (U4++R9 x.g.R)) ?_ (hy:=fun Y w g hw=>F0 (a:=U4) (b:=R9 x.g.R) rfl rfl (by omega))
     have hE:U4++R9 x.g.R=TK++P6 x.g:=by
      unfold P6;rw[hoe,←hU4,←hU3,←hU2,←hU1];simp only[ByteArray.append_assoc]
     rw[hE];refine W9 ?_;refine Al fun t w g _ hw=>?_
     have hw:Wd Γ [.blk b6 (.cells (cG x).toArray 77),.blk b1 (.cells #[.slice sa sn sc,.slice ga gn gc] 25)] w:=hw
     exact⟨⟨rfl,rfl,rfl,rfl,trivial⟩,hw⟩
    repeat clear hw
    rintro ρ w ⟨hρ,hw⟩
    rw[hρ.eq];clear hρ;have zC:=GK hL hR
    have zTC:(TK++P6 x.g).size≤10000100:=by rw[ByteArray.size_append];omega
    repeat first|refine A5 ?_|refine A6 ?_;intro w hw
    refine A0 rfl (fun h5=>?_) (fun h5=>?_)
    ·have h5:0<x.g.Off:=of_decide_eq_true h5
     repeat first|refine A5 ?_|refine A6 ?_;intro w hw
     refine lY (v:=.string ((TK++P6 x.g)++y8)) ?_ (hy:=F0 (a:=TK++P6 x.g) (b:=y8) rfl rfl (by omega))
     repeat first|refine A5 ?_|refine A6 ?_;intro w hw
     refine lY (v:=.string (((TK++P6 x.g)++y8)++I6 x.g.Off)) ?_ (hy:=F0 (a:=(TK++P6 x.g)++y8) (b:=I6 x.g.Off) rfl rfl (by rw[ByteArray.size_append];omega))
     repeat first|refine A5 ?_|refine A6 ?_;intro w hw
     refine A0 rfl (fun h6=>?_) (fun h6=>?_)
     ·have h6:x.g.Off<0:=of_decide_eq_true h6
      omega
     repeat first|refine A5 ?_|refine A6 ?_;intro w hw
     exact⟨⟨rfl,by rw[Ff h3 h5];simp only[ByteArray.append_assoc];rfl,rfl,trivial⟩,hw.drop⟩
    have h5:¬0<x.g.Off:=of_decide_eq_false h5
    repeat first|refine A5 ?_|refine A6 ?_;intro w hw
    refine A0 rfl (fun h6=>?_) (fun h6=>?_)
    ·have h6:x.g.Off<0:=of_decide_eq_true h6
     repeat first|refine A5 ?_|refine A6 ?_;intro w hw
     refine lY (v:=.string ((TK++P6 x.g)++j0)) ?_ (hy:=F0 (a:=TK++P6 x.g) (b:=j0) rfl rfl (by omega))
     repeat first|refine A5 ?_|refine A6 ?_;intro w hw
     refine lY (v:=.string (((TK++P6 x.g)++j0)++I6 (-x.g.Off))) ?_ (hy:=F0 (a:=(TK++P6 x.g)++j0) (b:=I6 (-x.g.Off)) rfl rfl (by rw[ByteArray.size_append];omega))
     repeat first|refine A5 ?_|refine A6 ?_;intro w hw
     exact⟨⟨rfl,by rw[Fy h3 h6];simp only[ByteArray.append_assoc];rfl,rfl,trivial⟩,hw.drop⟩
    have h6:¬x.g.Off<0:=of_decide_eq_false h6
    repeat first|refine A5 ?_|refine A6 ?_;intro w hw
    exact⟨⟨rfl,by rw[FU h3 (by omega)];rfl,rfl,trivial⟩,hw.drop⟩
   have h3:¬x.g.Kind=3:=of_decide_eq_false h3
   have hR:=EE h3 h4
   obtain⟨s1,s2,s3,s4,s5,s6,s7,s8⟩:=AF;refine Q7 ?_
   refine J6 (fun ρ w=>∃TN:ByteArray,TN.size≤10000010∧TK++H5 x.g=TN++By x.g∧Has ρ [(1,.pointer (some ⟨b1,0,none⟩)),(3,.string TN),(5,.int .i64 k),(6,.pointer (some ⟨b6,0,none⟩))]∧Wd Γ [.blk b6 (.cells (cG x).toArray 77),.blk b1 (.cells #[.slice sa sn sc,.slice ga gn gc] 25)] w) ?_ ?_
   ·repeat first|refine A5 ?_|refine A6 ?_;intro w hw
    refine A0 rfl (fun h2=>?_) (fun h2=>?_)
    ·have h2:x.g.Kind=2:=of_decide_eq_true h2
     rw[if_pos h2]at hR;repeat first|refine A5 ?_|refine A6 ?_;intro w hw
     refine lY (v:=.string (TK++Fo)) ?_ (hy:=F0 (a:=TK) (b:=Fo) rfl rfl (by omega))
     repeat first|refine A5 ?_|refine A6 ?_;intro w hw
     exact⟨TK++Fo,by rw[ByteArray.size_append];omega,by rw[hR,ByteArray.append_assoc],⟨rfl,rfl,rfl,rfl,trivial⟩,hw⟩
    ·have h2:¬x.g.Kind=2:=of_decide_eq_false h2
     rw[if_neg h2]at hR;repeat first|refine A5 ?_|refine A6 ?_;intro w hw
     exact⟨TK,by omega,by rw[hR],⟨rfl,rfl,rfl,rfl,trivial⟩,hw⟩
   repeat clear hw
   clear hR;rintro ρ w ⟨TN,zN,hTN,hρ,hw⟩
   rw[hρ.eq];clear hρ;have hk12:x.g.Kind=1∨x.g.Kind=2:=by
    have hs:=hG.shape
    unfold J0 at hs;by_cases q:x.g.Kind=1∨x.g.Kind=2
    ·exact q
    ·rw[if_neg q,if_neg h3,if_neg h4]at hs;cases hs
   have hrl:=Bh (hG.rel (by unfold E3;rcases hk12 with q|q <;> simp[q])).1
   repeat first|refine A5 ?_|refine A6 ?_;intro w hw
   have w1:(TN++x.g.Rel).size≤10000050:=by rw[ByteArray.size_append];omega
   refine lY (v:=.string ((TN++x.g.Rel)++Ge)) ?_ (hy:=F0 (a:=TN++x.g.Rel) (b:=Ge) rfl rfl (by omega))
   obtain⟨T1,hT1⟩:∃T1,T1=(TN++x.g.Rel)++Ge:=⟨_,rfl⟩
   have zT1:T1.size≤10000060:=by rw[hT1,ByteArray.size_append];omega
   rw[←hT1];have e1:T1=T1++H1 ((x.g.Args.map R9).take 0):=N7 (by rw[N5];exact(List.append_nil _).symm)
   obtain⟨l1,l2,l3⟩:=hox.len;have hrep:D6 Γ x.hdr 4 (x.g.Args.map enc):=hox
   unfold E6.hdr at hrep;repeat first|refine A5 ?_|refine A6 ?_;intro w hw
   refine C1 (fun μ ρ w=>∃(j:Nat),μ+j=x.N∧Has ρ [(1,.pointer (some ⟨b1,0,none⟩)),(3,.string (T1++H1 ((x.g.Args.map R9).take j))),(5,.int .i64 k),(6,.pointer (some ⟨b6,0,none⟩)),(7,.int .i64 j)]∧Wd Γ [.blk b6 (.cells (cG x).toArray 77),.blk b1 (.cells #[.slice sa sn sc,.slice ga gn gc] 25)] w) x.N ⟨0,by omega,⟨rfl,by rw[←e1];rfl,rfl,rfl,rfl,trivial⟩,hw⟩ ?_
   repeat clear hw
   rintro μ2 ρ w ⟨j,hj,hρ,hw⟩
   rw[hρ.eq];clear hρ;have hOV:∀o∈x.g.Args,OV o:=fun o ho=>hG.ops o (by
    have:E7 x.g=x.g.Args:=by
     unfold E7;rcases hk12 with q|q <;> simp[q]
    rw[this];exact ho)
   have zTJ:(T1++H1 ((x.g.Args.map R9).take j)).size≤10020000:=by
    have h1:=t6 ((x.g.Args.map R9).take j) (fun s hs=>by
     obtain⟨o,ho,rfl⟩:=List.mem_map.1 (List.mem_of_mem_take hs)
     exact Nat.le_trans (f8 (hOV o ho)) (by decide))
    have h2:((x.g.Args.map R9).take j).length≤x.g.Args.length:=by rw[List.length_take,List.length_map];omega
    rw[ByteArray.size_append];omega
   repeat first|refine A5 ?_|refine A6 ?_;intro w hw
   refine A0 rfl (fun h5=>?_) (fun h5=>?_)
   ·have hjn:j<x.N:=by have:=of_decide_eq_true h5;omega
    clear h5;obtain⟨o,ho⟩:=B8 (l:=x.g.Args) (k:=j) (by omega)
    have hjup:=KC (s0:=T1) (xs:=x.g.Args.map R9) (k:=j) (x:=R9 o) (by rw[List.getElem?_map,ho];rfl)
    have hOo:=hOV o (List.mem_of_getElem? ho)
    have zo:=f8 hOo
    have pO:=fun Γ'=>IR (Γ:=Γ') o hOo
    have zs2:T7.size=2:=rfl
    generalize T1++H1 ((x.g.Args.map R9).take j)=TJ at *
    repeat first|refine A5 ?_|refine A6 ?_;intro w hw
    refine A0 rfl (fun h5=>?_) (fun h5=>?_)
    ·have h5:0<j:=by have:=of_decide_eq_true h5;omega
     rw[if_pos h5]at hjup;repeat first|refine A5 ?_|refine A6 ?_;intro w hw
     refine lY (v:=.string (TJ++T7)) ?_ (hy:=F0 (a:=TJ) (b:=T7) rfl rfl (by omega))
     repeat first|refine A5 ?_|refine A6 ?_;intro w hw
     refine lY (v:=.string ((TJ++T7)++R9 o)) ?_ (hy:=F0 (a:=TJ++T7) (b:=R9 o) rfl rfl (by rw[ByteArray.size_append];omega))
     repeat first|refine A5 ?_|refine A6 ?_;intro w hw
     exact⟨μ2-1,by omega,j+1,by omega,⟨rfl,by rw[hjup];rfl,rfl,rfl,rfl,trivial⟩,hw⟩
    ·have h5:¬0<j:=by have:=of_decide_eq_false h5;omega
     rw[if_neg h5]at hjup;repeat first|refine A5 ?_|refine A6 ?_;intro w hw
     exact⟨μ2-1,by omega,j+1,by omega,⟨rfl,by rw[hjup];rfl,rfl,rfl,rfl,trivial⟩,hw⟩
   have hjn:j=x.N:=by have:=of_decide_eq_false h5;omega
   have e2:(x.g.Args.map R9).take j=x.g.Args.map R9:=List.take_of_length_le (by rw[List.length_map];omega)
   rw[e2]at zTJ ⊢
   repeat first|refine A5 ?_|refine A6 ?_;intro w hw
   refine lY (v:=.string ((T1++H1 (x.g.Args.map R9))++PY)) ?_ (hy:=F0 (a:=T1++H1 (x.g.Args.map R9)) (b:=PY) rfl rfl (by omega))
   repeat first|refine A5 ?_|refine A6 ?_;intro w hw
   exact⟨⟨rfl,by rw[hTN];unfold By;rw[hT1];simp only[ByteArray.append_assoc];rfl,rfl,trivial⟩,hw.drop⟩
  repeat clear hw
  rintro ρ w ⟨hρ,hw⟩
  rw[hρ.eq];clear hρ;repeat first|refine A5 ?_|refine A6 ?_;intro w hw
  exact⟨μ-1,by omega,k+1,by omega,⟨rfl,by rw[hup];rfl,rfl,trivial⟩,hw⟩
 have h:k=gn:=by have:=of_decide_eq_false h;omega
 have hgl:q.Goals.length=gs.length:=by rw[←hq.eq,List.length_map]
 have e:(q.Goals.map H5).take k=q.Goals.map H5:=List.take_of_length_le (by rw[List.length_map];omega)
 rw[e];repeat first|refine A5 ?_|refine A6 ?_;intro w hw
 exact⟨_,rfl,Γ,C4.le.refl _,rfl,E8 hw⟩
end Go.Proofs.YtlmiakjbogojgaaGreatDoor
end
section
open Go
namespace Mk
attribute [local irreducible] Calls
section
variable {Γ0 Γ:C4}{p:C4→Prop}{hp:∀Γ Γ':C4,Γ.le Γ'→p Γ→p Γ'}{S:List B5}{w:World}
end
section
variable {P:Program}{n:Nat}{ops:List Oper}{Γ:C4}{K:List B5}{wr tc stab:List (List Nat)}{Q:Fr→World→Prop}{i:Nat}{rest:List Oper}{ρ:Fr}{M:Nat→Fr→List B5}{v:Value}{o:Oper}
variable {d:Option Tmp}{ty:TypeId}{pos:String}{es:Array Edge}{f:Nat}{args:List Operand}{tys:Array TypeId}{vs:List Value}
theorem VG[C3 P f](hp:∀Γ',Γ.le Γ'→PG P Γ' f vs v)(h:MSw (Gp P n ops Γ K wr tc stab) Q (i+1) rest ⟨C9 ρ d v,M⟩)(hw0:wr.getD i []=[]:=by exact rfl)(ho:CL tc stab i d=true:=by exact rfl)(ha:∀g,EvL (F3 stab.flatten g ρ) args vs:=by intro g;exact u6) :
  MSw (Gp P n ops Γ K wr tc stab) Q i (⟨d,.call { callee:=.value (.func f),args:=args.toArray,argTypes:=tys },ty,pos,es,none⟩::rest) ⟨ρ,M⟩:=
 gC (fun Γ' Y w g hle hw=>Om (hp Γ' hle) (ha g) hw) hw0 rfl ho h
end
end Mk
end
section
open Go Mk
namespace Go.Proofs.YtlmiakjbogojgaaGreatDoor
set_option maxHeartbeats 4000000
attribute [local irreducible] Calls
theorem D6.imm{Γ Γ0:C4}{v:Value}{sz:Nat}{rows:List (List Value)}(e:Γ0.imm=Γ.imm)(h:D6 Γ0 v sz rows):D6 Γ v sz rows:=by
 unfold D6 at h ⊢
 rw[e]at h;exact h
theorem QR.imm{Γ Γ0:C4}{vs vg:Value}{gs:List E6}{q:D8}(e:Γ0.imm=Γ.imm)(h:QR Γ0 vs vg gs q):QR Γ vs vg gs q:=
 ⟨D6.imm e h.sel,D6.imm e h.goals,h.eq,fun x hx=>D6.imm e (h.ok x hx)⟩
abbrev UT:Type:=EN×EN×List E6
def B5.qr(t:UT)(q:D8):B5 where
 holds m bs _:=bs=[]∧∃Γ:C4,Γ.imm=m∧QR Γ (Ef t.1) (Ef t.2.1) t.2.2 q
 loc m m' bs h h' hm _:=by
  rintro⟨h1,Γ,rfl,h2⟩;exact⟨h1,{ Γ with imm:=m' },rfl,h2.mono ⟨hm,rfl,rfl,rfl,rfl⟩⟩
theorem VD{Γ:C4}{S:List B5}{w:World}{t:UT}{q:D8}(hp:QR Γ (Ef t.1) (Ef t.2.1) t.2.2 q)(hw:Wd Γ S w):Wd Γ (B5.qr t q::S) w:=by
 obtain⟨bss,h1,h2,h3⟩:=hw.own;exact⟨hw.os,hw.tape,hw.out,hw.dr,hw.imm,[]::bss,⟨⟨rfl,Γ,rfl,hp⟩,h1⟩,by simpa using h2,by simpa using h3⟩
theorem UR{Γ:C4}{S:List B5}{w:World}{t:UT}{q:D8}{i:Nat}(hw:Wd Γ S w)(hi:S[i]? = some (B5.qr t q)):QR Γ (Ef t.1) (Ef t.2.1) t.2.2 q:=by
 obtain⟨bss,h1,h2,h3⟩:=hw.own;obtain⟨bs,_,hr⟩:=Holds.get S bss i _ h1 hi
 obtain⟨-,Γ0,e,h⟩:=hr;exact QR.imm e h
end Go.Proofs.YtlmiakjbogojgaaGreatDoor
end
section
open Go Mk
namespace Go.Proofs.YtlmiakjbogojgaaGreatDoor
set_option maxHeartbeats 32000000
attribute [local irreducible] Calls cI cB
theorem Ks{Γ:C4}{S:List B5}{w:World}{vs vg:Value}{gs:List E6}{q:D8}(hq:QR Γ vs vg gs q)(hok:L0 q)(hw:Wd Γ S w) :
  Calls Tryz.prog 11 #[.agg #[vs,vg]] w fun r w'=>∃Γ' t,Γ.le Γ'∧r=.returned (.agg #[Ef t.1,Ef t.2.1])∧Wd Γ' (B5.qr t q::S) w':=by
 obtain⟨ga,gn,gc,rfl,hgn,hgnc,hgc⟩:=hq.goals.shape;obtain⟨sa,sn,sc,rfl,hsn,hsnc,hsc⟩:=hq.sel.shape;simp only[List.length_map]at hgn hsn
 have hnl:=hok.sel
 have hng:=hok.len
 refine F1 Tryz.func11 rfl rfl ?_
 repeat first|refine A5 ?_|refine A6 ?_;intro w hw
 refine J5 ?_;intro b1 w hw;have hw:Wd Γ (.blk b1 (.cells #[.slice sa sn sc,.slice ga gn gc] 25)::S) w:=hw
 refine B7 ?_;intro b2 w hw;have hw:Wd Γ (.blk b2 (.cells #[.slice none 0 0,.slice none 0 0] 25)::.blk b1 (.cells #[.slice sa sn sc,.slice ga gn gc] 25)::S) w:=hw
 repeat first|refine A5 ?_|refine A6 ?_;intro w hw
 have hw:=hw.addNil (E:=9) (sz:=1) (a:=none)
 refine Bv (i:=0) (rows:=[]) (rows2:=A1 q.Sel) ?_ (hq.sel.rd hw) rfl rfl (h1:=List.all_eq_true.2 fun u hu=>by
  obtain⟨r,hr,hu⟩:=List.mem_flatten.1 hu
  obtain⟨s,_,rfl⟩:=List.mem_map.1 hr
  rw[List.mem_singleton]at hu;rw[hu];rfl) (hm:=by rw[List.length_map];exact hsn)
 intro v8 w hw;have hw:Wd Γ (.own v8 9 1 (A1 q.Sel)::.blk b2 (.cells #[.slice none 0 0,.slice none 0 0] 25)::.blk b1 (.cells #[.slice sa sn sc,.slice ga gn gc] 25)::S) w:=hw
 obtain⟨ta,tn,tc,rfl,-,-,-⟩:=hw.own_shape (i:=0) rfl
 obtain⟨Γ1,hle1,hsel,hw1⟩:=hw.freeze;clear hw;have hw:Wd Γ1 (.blk b2 (.cells #[.slice none 0 0,.slice none 0 0] 25)::.blk b1 (.cells #[.slice sa sn sc,.slice ga gn gc] 25)::S) w:=hw1
 clear hw1;repeat first|refine A5 ?_|refine A6 ?_;intro w hw
 refine B7 ?_;intro b3 w hw;refine A9 ?_;intro w hw;have hw:Wd Γ1 (.blk b3 (.cells #[.slice ta tn tc,.slice none 0 0] 25)::.blk b2 (.cells #[.slice none 0 0,.slice none 0 0] 25)::.blk b1 (.cells #[.slice sa sn sc,.slice ga gn gc] 25)::S) w:=hw
 have hw:=hw.addNil (E:=77) (sz:=15) (a:=none)
 repeat first|refine A5 ?_|refine A6 ?_;intro w hw
 refine C1 (fun μ ρ w=>∃(k:Nat) (Γ':C4) (gs':List E6) (oa:Option Addr) (on oc:Nat),μ+k=gn∧Has ρ [(1,.pointer (some ⟨b1,0,none⟩)),(2,.pointer (some ⟨b2,0,none⟩)),(3,.pointer (some ⟨b3,0,none⟩)),(4,.int .i64 k)]∧Γ1.le Γ'∧gs'.map (·.g)=q.Goals.take k∧(∀x∈gs',Eu Γ' x)∧Wd Γ' (.own (.slice oa on oc) 77 15 (gs'.map cG)::.blk b3 (.cells #[.slice ta tn tc,.slice oa on oc] 25)::.blk b2 (.cells #[.slice none 0 0,.slice none 0 0] 25)::.blk b1 (.cells #[.slice sa sn sc,.slice ga gn gc] 25)::S) w) gn ⟨0,Γ1,[],none,0,0,by omega,⟨rfl,rfl,rfl,rfl,trivial⟩,.refl _,rfl,(fun x hx=>nomatch hx),hw⟩ ?_
 repeat clear hw
 rintro μ ρ w ⟨k,Γ',gs',oa,on,oc,hk,hρ,hle,hgs,hoks,hw⟩
 rw[hρ.eq];clear hρ;have hq':=hq.mono (hle1.trans hle)
 have hrG:=hq'.goals
 obtain⟨_,_,_,e0,hon,honc,hocc⟩:=hw.own_shape (i:=0) rfl
 cases e0
 have hgl:gs'.length=(q.Goals.take k).length:=by rw[←hgs,List.length_map]
 have hgl2:q.Goals.length=gs.length:=by rw[←hq.eq,List.length_map]
 rw[List.length_take]at hgl;rw[List.length_map]at hon;repeat first|refine A5 ?_|refine A6 ?_;intro w hw
 refine A0 rfl (fun h=>?_) (fun h=>?_)
 ·have h:k<gn:=by have:=of_decide_eq_true h;omega
  obtain⟨x,hx⟩:=B8 (l:=gs) (k:=k) (by omega)
  have hgx:q.Goals[k]? = some x.g:=by rw[←hq.eq,List.getElem?_map,hx];rfl
  have hox:=hq'.ok x (List.mem_of_getElem? hx)
  have hcx:(gs.map cG)[k]? = some (cG x):=by rw[List.getElem?_map,hx];rfl
  obtain⟨l1,l2,l3⟩:=hox.len;have hna:=(hok.goals x.g (List.mem_of_getElem? hgx)).len
  have hrep:D6 Γ' x.hdr 4 (x.g.Args.map enc):=hox
  unfold E6.hdr at hrep;repeat first|refine A5 ?_|refine A6 ?_;intro w hw
  refine B7 ?_;intro b5 w hw;refine A9 ?_;intro w hw;have hw:Wd Γ' (.blk b5 (.cells (cG x).toArray 77)::.own (.slice oa on oc) 77 15 (gs'.map cG)::.blk b3 (.cells #[.slice ta tn tc,.slice oa on oc] 25)::.blk b2 (.cells #[.slice none 0 0,.slice none 0 0] 25)::.blk b1 (.cells #[.slice sa sn sc,.slice ga gn gc] 25)::S) w:=hw
  repeat first|refine A5 ?_|refine A6 ?_;intro w hw
  have hw:=hw.addNil (E:=75) (sz:=4) (a:=none)
  refine Bv (i:=0) (rows:=[]) (rows2:=x.g.Args.map enc) ?_ (hrep.rd hw) rfl rfl (h1:=List.all_eq_true.2 fun u hu=>by
   obtain⟨r,hr,hu⟩:=List.mem_flatten.1 hu
   obtain⟨s,_,rfl⟩:=List.mem_map.1 hr
   exact(List.all_eq_true.1 (rfl:(enc s).all (·.oneCell')=true)) u hu) (hm:=by rw[List.length_map];exact l1)
  intro v24 w hw;have hw:Wd Γ' (.own v24 75 4 (x.g.Args.map enc)::.blk b5 (.cells (cG x).toArray 77)::.own (.slice oa on oc) 77 15 (gs'.map cG)::.blk b3 (.cells #[.slice ta tn tc,.slice oa on oc] 25)::.blk b2 (.cells #[.slice none 0 0,.slice none 0 0] 25)::.blk b1 (.cells #[.slice sa sn sc,.slice ga gn gc] 25)::S) w:=hw
  obtain⟨xa,xn,xc,rfl,hxn,-,-⟩:=hw.own_shape (i:=0) rfl
  obtain⟨Γ2,hle2,hxr,hw1⟩:=hw.freeze;clear hw;have hw:Wd Γ2 (.blk b5 (.cells (cG x).toArray 77)::.own (.slice oa on oc) 77 15 (gs'.map cG)::.blk b3 (.cells #[.slice ta tn tc,.slice oa on oc] 25)::.blk b2 (.cells #[.slice none 0 0,.slice none 0 0] 25)::.blk b1 (.cells #[.slice sa sn sc,.slice ga gn gc] 25)::S) w:=hw1
  clear hw1;repeat first|refine A5 ?_|refine A6 ?_;intro w hw
  refine A9 ?_;intro w hw;have hw:Wd Γ2 (.blk b5 (.cells (cG ⟨x.g,xa,xn,xc⟩).toArray 77)::.own (.slice oa on oc) 77 15 (gs'.map cG)::.blk b3 (.cells #[.slice ta tn tc,.slice oa on oc] 25)::.blk b2 (.cells #[.slice none 0 0,.slice none 0 0] 25)::.blk b1 (.cells #[.slice sa sn sc,.slice ga gn gc] 25)::S) w:=hw
  repeat first|refine A5 ?_|refine A6 ?_;intro w hw
  refine E4 [cG ⟨x.g,xa,xn,xc⟩] ?_
  intro a29 w hw;repeat first|refine A5 ?_|refine A6 ?_;intro w hw
  refine Bv (i:=2) (rows2:=[cG ⟨x.g,xa,xn,xc⟩]) ?_ (hw.own_rd (i:=0) rfl) rfl rfl
  intro v30 w hw;have hw:Wd Γ2 (.own (.slice (some a29) 1 1) 77 15 [cG ⟨x.g,xa,xn,xc⟩]::.blk b5 (.cells (cG ⟨x.g,xa,xn,xc⟩).toArray 77)::.own v30 77 15 (gs'.map cG++[cG ⟨x.g,xa,xn,xc⟩])::.blk b3 (.cells #[.slice ta tn tc,.slice oa on oc] 25)::.blk b2 (.cells #[.slice none 0 0,.slice none 0 0] 25)::.blk b1 (.cells #[.slice sa sn sc,.slice ga gn gc] 25)::S) w:=hw
  obtain⟨va,vn,vc,rfl,-,-,-⟩:=hw.own_shape (i:=2) rfl
  repeat first|refine A5 ?_|refine A6 ?_;intro w hw
  refine A9 (i:=3) ?_
  intro w hw;have hw:Wd Γ2 (.own (.slice (some a29) 1 1) 77 15 [cG ⟨x.g,xa,xn,xc⟩]::.blk b5 (.cells (cG ⟨x.g,xa,xn,xc⟩).toArray 77)::.own (.slice va vn vc) 77 15 (gs'.map cG++[cG ⟨x.g,xa,xn,xc⟩])::.blk b3 (.cells #[.slice ta tn tc,.slice va vn vc] 25)::.blk b2 (.cells #[.slice none 0 0,.slice none 0 0] 25)::.blk b1 (.cells #[.slice sa sn sc,.slice ga gn gc] 25)::S) w:=hw
  have e5:gs'.map cG++[cG ⟨x.g,xa,xn,xc⟩]=(gs'++[(⟨x.g,xa,xn,xc⟩:E6)]).map cG:=by rw[List.map_append];rfl
  rw[e5]at hw;repeat first|refine A5 ?_|refine A6 ?_;intro w hw
  have hw2:Wd Γ2 (.own (.slice va vn vc) 77 15 ((gs'++[(⟨x.g,xa,xn,xc⟩:E6)]).map cG)::.blk b3 (.cells #[.slice ta tn tc,.slice va vn vc] 25)::.blk b2 (.cells #[.slice none 0 0,.slice none 0 0] 25)::.blk b1 (.cells #[.slice sa sn sc,.slice ga gn gc] 25)::S) w:=hw.ds [0,0]
  refine⟨μ-1,by omega,k+1,Γ2,gs'++[⟨x.g,xa,xn,xc⟩],va,vn,vc,by omega,⟨rfl,rfl,rfl,rfl,trivial⟩,hle.trans hle2,?_,?_,hw2⟩
  ·rw[List.map_append,hgs,List.take_add_one,hgx];rfl
  ·intro y hy;rcases List.mem_append.1 hy with hy|hy
   ·exact(hoks y hy).mono hle2
   ·rw[List.mem_singleton]at hy;subst hy;exact hxr
 have h:k=gn:=by have:=of_decide_eq_false h;omega
 have e:q.Goals.take k=q.Goals:=List.take_of_length_le (by omega)
 rw[e]at hgs;obtain⟨Γ2,hle2,hgr,hw1⟩:=hw.freeze;clear hw;have hw:Wd Γ2 (.blk b3 (.cells #[.slice ta tn tc,.slice oa on oc] 25)::.blk b2 (.cells #[.slice none 0 0,.slice none 0 0] 25)::.blk b1 (.cells #[.slice sa sn sc,.slice ga gn gc] 25)::S) w:=hw1
 clear hw1;have hle12:=hle1.trans (hle.trans hle2)
 have hqr:QR Γ2 (.slice ta tn tc) (.slice oa on oc) gs' q:=⟨hsel.mono (hle.trans hle2),hgr,hgs,fun x hx=>(hoks x hx).mono hle2⟩
 repeat first|refine A5 ?_|refine A6 ?_;intro w hw
 refine A9 (i:=1) ?_
 intro w hw;repeat first|refine A5 ?_|refine A6 ?_;intro w hw
 have hw:Wd Γ2 (.blk b3 (.cells #[.slice ta tn tc,.slice oa on oc] 25)::.blk b2 (.cells #[.slice ta tn tc,.slice oa on oc] 25)::.blk b1 (.cells #[.slice sa sn sc,.slice ga gn gc] 25)::S) w:=hw
 refine⟨[.agg #[.slice ta tn tc,.slice oa on oc]],⟨J2 (i:=1) hw rfl rfl rfl,trivial⟩,Γ2,((ta,tn,tc),(oa,on,oc),gs'),hle12,rfl,VD hqr (hw.ds [0,0,0])⟩
end Go.Proofs.YtlmiakjbogojgaaGreatDoor
end
section
open Go Mk
namespace Go.Proofs.YtlmiakjbogojgaaGreatDoor
set_option maxHeartbeats 4000000
theorem LN{s:ByteArray}:(C7 s).1.length≤s.size:=by
 unfold C7;split
 ·simp
 ·have:=AO (s:=s) (f:=s.size+1) (off:=0) (acc:=[]) (Nat.zero_le _)
  simpa using this
section
variable {toks:List Tok}{e:C8}
theorem Cl{k k':Nat}{s:ByteArray}(h:M5 toks e k=.ok (s,k')):s.size≤24:=by
 unfold M5 at h;split at h
 ·split at h
  ·rename_i h2
   cases h
   exact h2
  ·cases h
 ·cases h
theorem Fv{k k':Nat}{v:Int}(h:Ai toks e k=.ok (v,k')):u5 v:=by
 unfold Ai at h;split at h
 ·obtain⟨z,-,rfl⟩:=L1 h
  exact r9 _
 ·obtain⟨z,-,rfl⟩:=L1 h
  exact r9 _
theorem MX:m0 H8:=⟨⟨by decide,by decide⟩,by decide⟩
theorem Kw:k0 D3:=⟨by decide,MX⟩
theorem Fs{k k':Nat}{o:G8}(h:AV toks e k=.ok (o,k')):k0 o:=by
 have z0:C5.size≤9223372036854775807:=by decide
 unfold AV at h;split at h
 ·obtain⟨s,hs,rfl⟩:=L1 h
  have h1:=Cl hs
  unfold Cs;split
  ·exact⟨by show s.size≤_;omega,MX⟩
  ·exact⟨z0,⟨by show (-9223372036854775808:Int)≤0;decide,by show (0:Int)≤9223372036854775807;decide⟩,by show s.size≤_;omega⟩
 split at h
 ·split at h
  ·cases h
  ·rename_i h2
   cases h
   have h3:(D2 toks k).Text.size≤24:=by omega
   exact⟨z0,⟨by show (-9223372036854775808:Int)≤0;decide,by show (0:Int)≤9223372036854775807;decide⟩,by show (D2 toks k).Text.size≤_;omega⟩
 ·obtain⟨v,hv,rfl⟩:=L1 h
  exact⟨z0,Fv hv,z0⟩
theorem JE:∀(f:Nat) {acc os:List G8} {k k':Nat},(∀o∈acc,k0 o)→m4 toks e f acc k=.ok (os,k')→(∀o∈os,k0 o)∧os.length*2+k≤acc.length*2+k'
 | 0,acc,os,k,k',ha,h=>by
  unfold m4 at h;cases h
  exact⟨ha,Nat.le_refl _⟩
 | f+1,acc,os,k,k',ha,h=>by
  unfold m4 at h;split at h
  ·obtain⟨o,k1,h1,h2⟩:=F5 h
   have h3:=BD h1
   have h4:=JE f (acc:=acc++[o]) (by
    intro x hx;rcases List.mem_append.1 hx with hx|hx
    ·exact ha x hx
    ·rw[List.mem_singleton.1 hx];exact Fs h1) h2
   refine⟨h4.1,?_⟩
   have h5:=h4.2
   rw[List.length_append,List.length_singleton]at h5;omega
  ·cases h
   exact⟨ha,Nat.le_refl _⟩
theorem MC{kind:Int}{k k':Nat}{g:F6}(hN:toks.length≤2000)(h:BI toks e kind k=.ok (g,k')):t7 g∧k'≤toks.length:=by
 unfold BI at h;obtain⟨s,k1,h1,h⟩:=F5 h
 obtain⟨_,k2,h2,h⟩:=F5 h
 obtain⟨o,k3,h3,h⟩:=F5 h
 obtain⟨os,k4,h4,h⟩:=F5 h
 obtain⟨_,k5,h5,h⟩:=F5 h
 cases h
 have hs:=Cl h1
 have ho:=Fs h3
 obtain⟨ha,hl⟩:=JE _ (acc:=[o]) (fun x hx=>by rw[List.mem_singleton.1 hx];exact ho) h4
 have h6:=Ez h5
 have h7:k4<toks.length:=by
  unfold m8 at h5;split at h5
  ·rename_i q;exact s9 (by decide) q
  ·cases h5
 rw[List.length_singleton]at hl;have z0:u5 0:=⟨by decide,by decide⟩
 exact⟨⟨by show s.size≤_;omega,by show os.length≤1000;omega,ha,Kw,Kw,z0,z0,z0⟩,by omega⟩
theorem Rk{k k':Nat}{v:Int}(h:Ai toks e k=.ok (v,k')):k'≤toks.length:=by
 have num:∀ {most:Int} {j j':Nat} {v:Int},d4 toks e most j=.ok (v,j')→j'≤toks.length:=fun {most j j' v} h=>by
  have h1:=n0 h
  unfold d4 at h;split at h
  ·rename_i h2
   have:=u2 (toks:=toks) (at':=j) (by rw[h2];decide)
   omega
  ·cases h
 unfold Ai at h;split at h
 ·obtain⟨z,hz,-⟩:=L1 h
  exact num hz
 ·obtain⟨z,hz,-⟩:=L1 h
  exact num hz
theorem Qm{l:G8}{k k':Nat}{g:F6}(hl:k0 l)(h:Hz toks e l k=.ok (g,k')):t7 g∧k'≤toks.length:=by
 unfold Hz at h;obtain⟨lo,k1,h1,h⟩:=F5 h
 obtain⟨_,k2,h2,h⟩:=F5 h
 obtain⟨hi,k3,h3,h⟩:=F5 h
 cases h
 have z0:u5 0:=⟨by decide,by decide⟩
 exact⟨⟨by show C5.size≤_;decide,by show 0≤1000;decide,fun x hx=>(by cases hx),hl,Kw,z0,Fv h1,Fv h3⟩,Rk h3⟩
theorem Ra{k k':Nat}{v:Int}(hk:k≤toks.length)(h:Dl toks e k=.ok (v,k')):u5 v∧k'≤toks.length:=by
 have num:∀ {most:Int} {j j':Nat} {v:Int},d4 toks e most j=.ok (v,j')→j'≤toks.length:=fun {most j j' v} h=>by
  have h1:=n0 h
  unfold d4 at h;split at h
  ·rename_i h2
   have:=u2 (toks:=toks) (at':=j) (by rw[h2];decide)
   omega
  ·cases h
 unfold Dl at h;split at h
 ·obtain⟨z,hz,rfl⟩:=L1 h
  exact⟨r9 _,num hz⟩
 split at h
 ·obtain⟨z,hz,rfl⟩:=L1 h
  exact⟨r9 _,num hz⟩
 ·cases h
  exact⟨⟨by decide,by decide⟩,hk⟩
theorem Rt{l:G8}{k k':Nat}{g:F6}(hl:k0 l)(h:GI toks e l k=.ok (g,k')):t7 g∧k'≤toks.length:=by
 unfold GI at h;split at h
 ·cases h
 obtain⟨r,k1,h1,h⟩:=F5 h
 obtain⟨o,k2,h2,h⟩:=F5 h
 cases h
 obtain⟨h3,h4⟩:=Ra (Kq h1) h2
 have z0:u5 0:=⟨by decide,by decide⟩
 exact⟨⟨by show C5.size≤_;decide,by show 0≤1000;decide,fun x hx=>(by cases hx),hl,Fs h1,h3,z0,z0⟩,h4⟩
theorem Iv{k k':Nat}{g:F6}(hN:toks.length≤2000)(h:M6 toks e k=.ok (g,k')):t7 g∧k'≤toks.length:=by
 unfold M6 at h;split at h
 ·exact MC hN h
 split at h
 ·exact MC hN h
 obtain⟨l,k1,h1,h⟩:=F5 h
 split at h
 ·exact Qm (Fs h1) h
 ·exact Rt (Fs h1) h
theorem HF:∀(f:Nat) {acc os:List ByteArray} {k k':Nat},k≤toks.length→(∀o∈acc,o.size≤24)→U0 toks e f acc k=.ok (os,k')→(∀o∈os,o.size≤24)∧os.length*2+k≤acc.length*2+k'∧k'≤toks.length
 | 0,acc,os,k,k',hk,ha,h=>by
  unfold U0 at h;cases h
  exact⟨ha,Nat.le_refl _,hk⟩
 | f+1,acc,os,k,k',hk,ha,h=>by
  unfold U0 at h;split at h
  ·obtain⟨o,k1,h1,h2⟩:=F5 h
   have h3:=j7 h1
   have h4:=HF f (acc:=acc++[o]) (DC h1) (by
    intro x hx;rcases List.mem_append.1 hx with hx|hx
    ·exact ha x hx
    ·rw[List.mem_singleton.1 hx];exact Cl h1) h2
   refine⟨h4.1,?_,h4.2.2⟩
   have h5:=h4.2.1
   rw[List.length_append,List.length_singleton]at h5;omega
  ·cases h
   exact⟨ha,Nat.le_refl _,hk⟩
theorem Gu(hN:toks.length≤2000):∀(f:Nat) {acc os:List F6} {k k':Nat},k≤toks.length→(∀o∈acc,t7 o)→X5 toks e f acc k=.ok (os,k')→(∀o∈os,t7 o)∧os.length*2+k≤acc.length*2+k'∧k'≤toks.length
 | 0,acc,os,k,k',hk,ha,h=>by
  unfold X5 at h;cases h
  exact⟨ha,Nat.le_refl _,hk⟩
 | f+1,acc,os,k,k',hk,ha,h=>by
  unfold X5 at h;split at h
  ·obtain⟨o,k1,h1,h2⟩:=F5 h
   have h3:=Cn h1
   have h0:=Iv hN h1
   have h4:=Gu hN f (acc:=acc++[o]) h0.2 (by
    intro x hx;rcases List.mem_append.1 hx with hx|hx
    ·exact ha x hx
    ·rw[List.mem_singleton.1 hx];exact h0.1) h2
   refine⟨h4.1,?_,h4.2.2⟩
   have h5:=h4.2.1
   rw[List.length_append,List.length_singleton]at h5;omega
  ·cases h
   exact⟨ha,Nat.le_refl _,hk⟩
theorem Mq{k:Nat}{q:D8}(hN:toks.length≤2000)(h:V8 toks e 0=.ok (q,k)):L0 q:=by
 unfold V8 at h;obtain⟨_,k1,h1,h⟩:=F5 h
 obtain⟨sel,k2,h2,h⟩:=F5 h
 unfold Cr at h;obtain⟨_,k3,h3,h⟩:=F5 h
 obtain⟨g,k4,h4,h⟩:=F5 h
 obtain⟨gs,k5,h5,h⟩:=F5 h
 split at h
 ·cases h
 cases h
 have hs:(∀s∈sel,s.size≤24)∧sel.length≤1000:=by
  unfold Jz at h2;split at h2
  ·cases h2
   exact⟨fun s hs=>(by cases hs),by simp⟩
  ·obtain⟨s,k6,h6,h7⟩:=F5 h2
   have h8:=HF _ (acc:=[s]) (DC h6) (fun x hx=>by rw[List.mem_singleton.1 hx];exact Cl h6) h7
   have h9:=j7 h6
   refine⟨h8.1,?_⟩
   have:=h8.2
   rw[List.length_singleton]at this;omega
 have h6:=Iv hN h4
 have h7:=Gu hN _ (acc:=[g]) h6.2 (fun x hx=>by rw[List.mem_singleton.1 hx];exact h6.1) h5
 have h8:=Cn h4
 refine⟨hs.2,fun s h=>?_,?_,h7.1⟩
 ·have:=hs.1 s h;omega
 ·have:=h7.2
  rw[List.length_singleton]at this;show gs.length≤1000
  omega
end
theorem Nm{s:ByteArray}(hs:s.size≤2000):L0 (Q8 s).1:=by
 have z:L0 ⟨[],[]⟩:=⟨by show 0≤1000;decide,fun s h=>(by cases h),by show 0≤1000;decide,fun s h=>(by cases h)⟩
 have hl:=LN (s:=s)
 unfold Q8;split
 ·cases h:V8 (C7 s).1 (C0 s) 0 with
  | error q=>exact z
  | ok q=>
   obtain⟨q,k⟩:=q;exact Mq (by omega) h
 ·exact z
end Go.Proofs.YtlmiakjbogojgaaGreatDoor
end
section
open Go Mk
namespace Go.Proofs.YtlmiakjbogojgaaGreatDoor
set_option maxHeartbeats 32000000
attribute [local irreducible] Calls cI cB
def UG(g:F6)(A:Option Addr)(N C:Nat):List Value:=
 [.int .i64 g.Kind,.string g.Rel,.slice A N C,.int .i64 g.Op,.string g.L.Var,.int .i64 g.L.Const.Kind,.int .i64 g.L.Const.Num,.string g.L.Const.Word,
  .string g.R.Var,.int .i64 g.R.Const.Kind,.int .i64 g.R.Const.Num,.string g.R.Const.Word,.int .i64 g.Off,.int .i64 g.Low,.int .i64 g.High]
theorem PF{Γ:C4}{va vg vb vh:Value}{gs hs:List E6}{q:D8}(ha:QR Γ va vg gs q)(hb:QR Γ vb vh hs q):PG Tryz.prog Γ 9 [.agg #[va,vg],.agg #[vb,vh]] (.bool true):=⟨fun S w hw=>by
 obtain⟨ga,gn,gc,rfl,hgn,hgnc,hgc⟩:=ha.goals.shape;obtain⟨sa,sn,sc,rfl,hsn,hsnc,hsc⟩:=ha.sel.shape;obtain⟨ya,yn,yc,rfl,hyn,hync,hyc⟩:=hb.goals.shape;obtain⟨xa,xn,xc,rfl,hxn,hxnc,hxc⟩:=hb.sel.shape;simp only[List.length_map]at hgn hsn hyn hxn
 have hgl:q.Goals.length=gs.length:=by rw[←ha.eq,List.length_map]
 have hhl:q.Goals.length=hs.length:=by rw[←hb.eq,List.length_map]
 have r1:=ha.sel
 have r2:=hb.sel
 have r3:=ha.goals
 have r4:=hb.goals
 refine A4 Tryz.func9 rfl rfl ?_
 repeat first|refine A5 ?_|refine A6 ?_;intro w hw
 refine J5 ?_;intro b2 w hw;refine J5 ?_;intro b3 w hw;have hw:Wd Γ (.blk b2 (.cells #[.slice sa sn sc,.slice ga gn gc] 25)::.blk b3 (.cells #[.slice xa xn xc,.slice ya yn yc] 25)::S) w:=hw.ps [1]
 repeat first|refine A5 ?_|refine A6 ?_;intro w hw
 refine A0 rfl (fun h=>?_) (fun h=>?_)
 ·exfalso
  simp at h
  omega
 clear h;repeat first|refine A5 ?_|refine A6 ?_;intro w hw
 refine C1 (fun μ ρ w=>∃(j:Nat),μ+j=sn∧Has ρ [(2,.pointer (some ⟨b2,0,none⟩)),(3,.pointer (some ⟨b3,0,none⟩)),(5,.int .i64 j)]∧Wd Γ (.blk b2 (.cells #[.slice sa sn sc,.slice ga gn gc] 25)::.blk b3 (.cells #[.slice xa xn xc,.slice ya yn yc] 25)::S) w) sn ⟨0,by omega,⟨rfl,rfl,rfl,trivial⟩,hw⟩ ?_
 clear hw;rintro μ ρ w ⟨j,hj,hρ,hw⟩
 rw[hρ.eq];clear hρ;repeat first|refine A5 ?_|refine A6 ?_;intro w hw
 refine A0 rfl (fun h=>?_) (fun h=>?_)
 ·have hjn:j<sn:=by have:=of_decide_eq_true h;omega
  clear h;obtain⟨s,hs⟩:=B8 (l:=q.Sel) (k:=j) (by omega)
  repeat first|refine A5 ?_|refine A6 ?_;intro w hw
  refine H0 (by kernel_rfl) (by kernel_rfl) hw ?_
  repeat(first|(first|refine P2 ?_|(apply D1;first|(apply F4;first|refine qP ?_|refine CO ?_)|refine qY ?_)|(apply B4;first|(apply F4;first|refine Dj ?_|refine Z0 ?_)|refine qG ?_))|refine qY ?_ (hy:=fun w hw=>Y5 (r1.rd hw) rfl rfl (by omega) (by omega))|refine qY ?_ (hy:=fun w hw=>Y5 (r2.rd hw) rfl rfl (by omega) (by omega))|refine qY ?_ (hy:=fun w hw=>H9 (k:=j) (u:=.string s) rfl (r1.rd hw) (B2 hs))|refine qY ?_ (hy:=fun w hw=>H9 (k:=j) (u:=.string s) rfl (r2.rd hw) (B2 hs)))
  clear hw;intro w hw;refine A0 rfl (fun h=>?_) (fun h=>?_)
  ·exact absurd h (by simp)
  clear h;repeat first|refine A5 ?_|refine A6 ?_;intro w hw
  exact⟨μ-1,by omega,j+1,by omega,⟨rfl,rfl,rfl,trivial⟩,hw⟩
 clear h hj;repeat first|refine A5 ?_|refine A6 ?_;intro w hw
 refine C1 (fun μ ρ w=>∃(j:Nat),μ+j=gn∧Has ρ [(2,.pointer (some ⟨b2,0,none⟩)),(3,.pointer (some ⟨b3,0,none⟩)),(6,.int .i64 j)]∧Wd Γ (.blk b2 (.cells #[.slice sa sn sc,.slice ga gn gc] 25)::.blk b3 (.cells #[.slice xa xn xc,.slice ya yn yc] 25)::S) w) gn ⟨0,by omega,⟨rfl,rfl,rfl,trivial⟩,hw⟩ ?_
 clear hw;rintro μ ρ w ⟨j,hj,hρ,hw⟩
 rw[hρ.eq];clear hρ;repeat first|refine A5 ?_|refine A6 ?_;intro w hw
 refine A0 rfl (fun h=>?_) (fun h=>?_)
 ·have hjn:j<gn:=by have:=of_decide_eq_true h;omega
  clear h;obtain⟨x,hx⟩:=B8 (l:=gs) (k:=j) (by omega)
  obtain⟨y,hy⟩:=B8 (l:=hs) (k:=j) (by omega)
  have hxo:=ha.ok x (List.mem_of_getElem? hx)
  have hyo:=hb.ok y (List.mem_of_getElem? hy)
  have hxy:x.g=y.g:=by
   have h1:=ha.get hx
   have h2:=hb.get hy
   rw[h1]at h2;exact Option.some.inj h2
  obtain⟨l1,l2,l3⟩:=hxo.len;obtain⟨m1,m2,m3⟩:=hyo.len;obtain⟨g,A,N,C⟩:=x;obtain⟨g',A2,N2,C2⟩:=y;have hxy:g=g':=hxy
  subst hxy;simp only at l1 l2 l3 m1 m2 m3
  have r5:D6 Γ (.slice A N C) 4 (g.Args.map enc):=hxo
  have r6:D6 Γ (.slice A2 N2 C2) 4 (g.Args.map enc):=hyo
  repeat first|refine A5 ?_|refine A6 ?_;intro w hw
  refine Dx 2 [[],[],[],[],[],[],[],[],[],[],[0],[1],[0],[1]] [[],[],[],[],[],[],[],[],[],[],[0],[1],[0],[1]] [[7],[8]] ?_ (hw:=hw)
  clear hw;repeat(first|refine mY ?_|refine mY ?_ (hy:=fun Y w g hw=>Y5 (r3.rd hw) rfl rfl (by omega) (by omega))|refine mY ?_ (hy:=fun Y w g hw=>Y5 (r4.rd hw) rfl rfl (by omega) (by omega))|refine mY ?_ (hy:=fun Y w _ hw=>L4 (k:=j) (r:=cG ⟨g,A,N,C⟩) rfl (r3.rd hw) (B2 hx))|refine mY ?_ (hy:=fun Y w _ hw=>L4 (k:=j) (r:=cG ⟨g,A2,N2,C2⟩) rfl (r4.rd hw) (B2 hy)))
  refine Ce (c:=0) ?_
  refine Ce (c:=1) ?_
  refine o5 (c:=0) ?_ (hM:=(A8 (by decide)).trans B6)
  refine o5 (c:=1) ?_ (hM:=(A8 (by decide)).trans B6)
  refine X6 fun w g' hw=>?_
  have hw:Wd Γ ((.blk b2 (.cells #[.slice sa sn sc,.slice ga gn gc] 25)::.blk b3 (.cells #[.slice xa xn xc,.slice ya yn yc] 25)::S)++([IT (g' 7) fun bb=>[.blk bb (.cells (cG ⟨g,A,N,C⟩).toArray 77)]]++([IT (g' 8) fun bb=>[.blk bb (.cells (cG ⟨g,A2,N2,C2⟩).toArray 77)]]++[]))) w:=hw
  have hw:=hw.flip
  have hw:Wd Γ (IT (g' 7) (fun bb=>[.blk bb (.cells (cG ⟨g,A,N,C⟩).toArray 77)])::IT (g' 8) (fun bb=>[.blk bb (.cells (cG ⟨g,A2,N2,C2⟩).toArray 77)])::.blk b2 (.cells #[.slice sa sn sc,.slice ga gn gc] 25)::.blk b3 (.cells #[.slice xa xn xc,.slice ya yn yc] 25)::S) w:=hw
  obtain⟨b7,h7,hw⟩:=hw.openAt;have hw:Wd Γ (.blk b7 (.cells (UG g A N C).toArray 77)::IT (g' 8) (fun bb=>[.blk bb (.cells (cG ⟨g,A2,N2,C2⟩).toArray 77)])::.blk b2 (.cells #[.slice sa sn sc,.slice ga gn gc] 25)::.blk b3 (.cells #[.slice xa xn xc,.slice ya yn yc] 25)::S) w:=hw
  obtain⟨b8,h8,hw⟩:=(hw.ps [1]).openAt
  have hw:Wd Γ (.blk b8 (.cells (UG g A2 N2 C2).toArray 77)::.blk b7 (.cells (UG g A N C).toArray 77)::.blk b2 (.cells #[.slice sa sn sc,.slice ga gn gc] 25)::.blk b3 (.cells #[.slice xa xn xc,.slice ya yn yc] 25)::S) w:=hw
  refine Oq (l:=[(2,.pointer (some ⟨b2,0,none⟩)),(3,.pointer (some ⟨b3,0,none⟩)),(6,.int .i64 j),(7,.pointer (some ⟨b7,0,none⟩)),(8,.pointer (some ⟨b8,0,none⟩))]) ⟨rfl,rfl,rfl,h7,h8,trivial⟩ fun ρ hρ=>?_
  rw[hρ.eq];clear hρ h7 h8;repeat first|refine A5 ?_|refine A6 ?_;intro w hw
  refine lG (v:=.bool (decide (g.L≠g.L))) ?_ (hv:=fun hc=>by exact Z9 (a:=g.L) (b:=g.L) B1 B1 rfl)
  repeat first|refine A5 ?_|refine A6 ?_;intro w hw
  refine lG (v:=.bool (decide (g.R≠g.R))) ?_ (hv:=fun hc=>by exact Z9 (a:=g.R) (b:=g.R) B1 B1 rfl)
  repeat first|refine A5 ?_|refine A6 ?_;intro w hw
  refine A0 rfl (fun h=>?_) (fun h=>?_)
  ·exfalso
   simp at h
   omega
  clear h;repeat first|refine A5 ?_|refine A6 ?_;intro w hw
  refine C1 (fun μ2 ρ w=>∃(i:Nat),μ2+i=N∧Has ρ [(2,.pointer (some ⟨b2,0,none⟩)),(3,.pointer (some ⟨b3,0,none⟩)),(6,.int .i64 j),(7,.pointer (some ⟨b7,0,none⟩)),(8,.pointer (some ⟨b8,0,none⟩)),(9,.int .i64 i)]∧Wd Γ (.blk b8 (.cells (UG g A2 N2 C2).toArray 77)::.blk b7 (.cells (UG g A N C).toArray 77)::.blk b2 (.cells #[.slice sa sn sc,.slice ga gn gc] 25)::.blk b3 (.cells #[.slice xa xn xc,.slice ya yn yc] 25)::S) w) N ⟨0,by omega,⟨rfl,rfl,rfl,rfl,rfl,rfl,trivial⟩,hw⟩ ?_
  clear hw;rintro μ2 ρ w ⟨i,hi,hρ,hw⟩
  rw[hρ.eq];clear hρ;repeat first|refine A5 ?_|refine A6 ?_;intro w hw
  refine A0 rfl (fun h=>?_) (fun h=>?_)
  ·have hin:i<N:=by have:=of_decide_eq_true h;omega
   clear h;obtain⟨o,ho⟩:=B8 (l:=g.Args) (k:=i) (by omega)
   repeat first|refine A5 ?_|refine A6 ?_;intro w hw
   refine H0 (by kernel_rfl) (by kernel_rfl) hw ?_
   repeat(first|(first|refine P2 ?_|(apply D1;first|(apply F4;first|refine qP ?_|refine CO ?_)|refine qY ?_)|(apply B4;first|(apply F4;first|refine Dj ?_|refine Z0 ?_)|refine qG ?_))|refine qY ?_ (hy:=fun w hw=>Y5 (r5.rd hw) rfl rfl (by omega) (by omega))|refine qY ?_ (hy:=fun w hw=>Y5 (r6.rd hw) rfl rfl (by omega) (by omega))|refine qY ?_ (hy:=fun w hw=>L4 (k:=i) (r:=enc o) rfl (r5.rd hw) (B2 ho))|refine qY ?_ (hy:=fun w hw=>L4 (k:=i) (r:=enc o) rfl (r6.rd hw) (B2 ho))|refine qY ?_ (hy:=fun w hw=>Z9 (a:=o) (b:=o) rfl rfl rfl))
   clear hw;intro w hw;refine A0 rfl (fun h=>?_) (fun h=>?_)
   ·exact absurd h (by simp)
   clear h;repeat first|refine A5 ?_|refine A6 ?_;intro w hw
   exact⟨μ2-1,by omega,i+1,by omega,⟨rfl,rfl,rfl,rfl,rfl,rfl,trivial⟩,hw⟩
  clear h hi;repeat first|refine A5 ?_|refine A6 ?_;intro w hw
  exact⟨μ-1,by omega,j+1,by omega,⟨rfl,rfl,rfl,trivial⟩,hw.ds [0,0]⟩
 repeat first|refine A5 ?_|refine A6 ?_;intro w hw
 exact⟨_,rfl,rfl,hw.ds [0,0]⟩⟩
end Go.Proofs.YtlmiakjbogojgaaGreatDoor
end
section
open Go Mk
namespace Go.Proofs.YtlmiakjbogojgaaGreatDoor
set_option maxHeartbeats 16000000
def Au:ByteArray:=⟨#[115,101,108,101,99,116,32,88,32,119,104,101,114,101,32,112,40,88,44,32,89,41,44,32,112,40,89,44,32,95,41]⟩
def pQ:ByteArray:=⟨#[112]⟩
def xQ:ByteArray:=⟨#[88]⟩
def yQ:ByteArray:=⟨#[89]⟩
def Y6(i:Int):Val:=⟨1,i,⟨#[]⟩⟩
def Kp:D8:=⟨[xQ],[M3 pQ [⟨xQ,H8⟩,⟨yQ,H8⟩],M3 pQ [⟨yQ,H8⟩,⟨J9,H8⟩]]⟩
def Jc:List K3:=[(pQ,[Y6 1,Y6 2]),(pQ,[Y6 2,Y6 3])]
theorem Tl:(C7 Au).2.2=0:=by decide +kernel
theorem Te:∀i,i<2→∀j,j<2→PU (D2 (C7 Au).1 (3+7*i+2+2*j)):=fun i hi j hj=>by
 have h1:i=0∨i=1:=by omega
 have h2:j=0∨j=1:=by omega
 rcases h1 with rfl|rfl <;> rcases h2 with rfl|rfl <;> exact⟨by decide +kernel,by decide +kernel,by decide +kernel,by decide +kernel,by decide +kernel⟩
theorem TI:TM (C7 Au).1:=by
 refine⟨by decide +kernel,by decide +kernel,by decide +kernel,by decide +kernel,by decide +kernel,by decide +kernel,by decide +kernel,by decide +kernel,fun i hi=>?_,fun i hi=>?_⟩
 ·have h1:i=0∨i=1:=by omega
  have hv:=Te i hi
  have hc:∀j,j+1<2→M4 (C7 Au).1 (3+7*i+3+2*j) 4 K4=true:=fun j hj=>by
   have h2:j=0:=by omega
   subst h2;rcases h1 with rfl|rfl <;> decide +kernel
  rcases h1 with rfl|rfl
  ·exact⟨by decide +kernel,by decide +kernel,by decide +kernel,by decide +kernel,by decide,by decide,hv,hc,by decide +kernel,by decide +kernel⟩
  ·exact⟨by decide +kernel,by decide +kernel,by decide +kernel,by decide +kernel,by decide,by decide,hv,hc,by decide +kernel,by decide +kernel⟩
 ·have h1:i=0∨i=1:=by omega
  rcases h1 with rfl|rfl <;> decide +kernel
theorem QG:(⟨[(D2 (C7 Au).1 1).Text],l7 (C7 Au).1 2⟩:D8)=Kp:=by
 have h1:(D2 (C7 Au).1 1).Text=xQ:=by decide +kernel
 have h2:(D2 (C7 Au).1 3).Text=pQ:=by decide +kernel
 have h3:(D2 (C7 Au).1 10).Text=pQ:=by decide +kernel
 have h4:E5 (C7 Au).1 5 2=[⟨xQ,H8⟩,⟨yQ,H8⟩]:=by decide +kernel
 have h5:E5 (C7 Au).1 12 2=[⟨yQ,H8⟩,⟨J9,H8⟩]:=by decide +kernel
 rw[h1];unfold l7;show (⟨[xQ],[M3 (D2 (C7 Au).1 3).Text (E5 (C7 Au).1 5 2),M3 (D2 (C7 Au).1 10).Text (E5 (C7 Au).1 12 2)]⟩:D8)=_
 rw[h2,h3,h4,h5];rfl
theorem Me:x9 Jc Kp=0:=by decide +kernel
theorem Td:BK Jc Kp=[[Y6 1]]:=by
 unfold BK;rw[if_pos Me];have:Js Jc Kp=[[Y6 1]]:=by decide +kernel
 unfold UA;rw[this];rfl
theorem UU:L0 Kp:=by
 have hv:∀s:ByteArray,s.size≤10→k0 ⟨s,H8⟩:=fun s h=>⟨by show s.size≤9223372036854775807;omega,Lq⟩
 have h0:u5 0:=⟨by decide,by decide⟩
 refine⟨by decide,fun s hs=>?_,by decide,fun g hg=>?_⟩
 ·have:s=xQ:=by simpa[Kp] using hs
  subst this;decide
 ·have:g=M3 pQ [⟨xQ,H8⟩,⟨yQ,H8⟩]∨g=M3 pQ [⟨yQ,H8⟩,⟨J9,H8⟩]:=by simpa[Kp] using hg
  rcases this with rfl|rfl
  ·refine⟨by decide,by decide,fun o ho=>?_,hv _ (by decide),hv _ (by decide),h0,h0,h0⟩
   have:o=⟨xQ,H8⟩∨o=⟨yQ,H8⟩:=by simpa[M3] using ho
   rcases this with rfl|rfl <;> exact hv _ (by decide)
  ·refine⟨by decide,by decide,fun o ho=>?_,hv _ (by decide),hv _ (by decide),h0,h0,h0⟩
   have:o=⟨yQ,H8⟩∨o=⟨J9,H8⟩:=by simpa[M3] using ho
   rcases this with rfl|rfl <;> exact hv _ (by decide)
theorem Jt:∀f∈Jc,y0 f:=fun f hf=>by
 have:f=(pQ,[Y6 1,Y6 2])∨f=(pQ,[Y6 2,Y6 3]):=by simpa[Jc] using hf
 rcases this with rfl|rfl
 ·refine⟨by decide,by decide,fun v hv=>?_⟩
  have:v=Y6 1∨v=Y6 2:=by simpa using hv
  rcases this with rfl|rfl <;> exact⟨by decide,by decide⟩
 ·refine⟨by decide,by decide,fun v hv=>?_⟩
  have:v=Y6 2∨v=Y6 3:=by simpa using hv
  rcases this with rfl|rfl <;> exact⟨by decide,by decide⟩
attribute [local irreducible] Calls cI cB C7 x9 BK K8
theorem Nl{Γ:C4}:PG Tryz.prog Γ 6 [] (.bool true):=N6 fun Γ w _ hw=>by
 refine A4 Tryz.func6 rfl rfl ?_
 repeat first|refine A5 ?_|refine A6 ?_;intro w hw
 refine E4 [enc (Y6 1),enc (Y6 2)] ?_
 intro a9 w hw;repeat first|refine A5 ?_|refine A6 ?_;intro w hw
 refine B9 (vs:=[.string pQ,.slice (some a9) 2 2]) ?_
 refine(IW Γ _ w _ pQ [Y6 1,Y6 2] (R8.own (i:=0) hw rfl) (by decide) hw).mono ?_
 clear hw;rintro e w ⟨⟨fr,fa,fn,fc,xs⟩,rfl,hf1,hw⟩
 refine⟨_,rfl,?_⟩;have hf1:(fr,xs)=(pQ,[Y6 1,Y6 2]):=hf1
 obtain⟨Γ1,hle1,hfo1,hw⟩:=hw.freeze;have hfo1:Cf Γ1 ⟨fr,fa,fn,fc,xs⟩:=hfo1
 have hw:Wd Γ1 [] w:=hw.drop
 repeat first|refine A5 ?_|refine A6 ?_;intro w hw
 refine E4 [enc (Y6 2),enc (Y6 3)] ?_
 intro a13 w hw;repeat first|refine A5 ?_|refine A6 ?_;intro w hw
 refine B9 (vs:=[.string pQ,.slice (some a13) 2 2]) ?_
 refine(IW Γ1 _ w _ pQ [Y6 2,Y6 3] (R8.own (i:=0) hw rfl) (by decide) hw).mono ?_
 clear hw;rintro e w ⟨⟨gr,ga,gn,gc,ys⟩,rfl,hf2,hw⟩
 refine⟨_,rfl,?_⟩;have hf2:(gr,ys)=(pQ,[Y6 2,Y6 3]):=hf2
 obtain⟨Γ2,hle2,hfo2,hw⟩:=hw.freeze;have hfo2:Cf Γ2 ⟨gr,ga,gn,gc,ys⟩:=hfo2
 have hw:Wd Γ2 [] w:=hw.drop
 repeat first|refine A5 ?_|refine A6 ?_;intro w hw
 refine E4 [cF ⟨fr,fa,fn,fc,xs⟩,cF ⟨gr,ga,gn,gc,ys⟩] ?_
 intro a15 w hw;repeat first|refine A5 ?_|refine A6 ?_;intro w hw
 obtain⟨Γ3,hle3,hdb,hw⟩:=hw.freeze;have hfs:facts [(⟨fr,fa,fn,fc,xs⟩:D4),⟨gr,ga,gn,gc,ys⟩]=Jc:=by
  show [(fr,xs),(gr,ys)]=_
  rw[hf1,hf2];rfl
 have hRL:RL Γ3 (.slice (some a15) 2 2) [(⟨fr,fa,fn,fc,xs⟩:D4),⟨gr,ga,gn,gc,ys⟩]:=by
  refine⟨hdb,fun x hx=>?_⟩
  have hx2:x=⟨fr,fa,fn,fc,xs⟩∨x=⟨gr,ga,gn,gc,ys⟩:=by simpa using hx
  rcases hx2 with rfl|rfl
  ·exact⟨hfo1.mono (hle2.trans hle3),by show y0 (fr,xs);rw[hf1];exact Jt _ (by simp[Jc])⟩
  ·exact⟨hfo2.mono hle3,by show y0 (gr,ys);rw[hf2];exact Jt _ (by simp[Jc])⟩
 refine B9 (vs:=[.string Au]) ?_
 refine(LB Au (by decide) Tl TI hw).mono ?_
 clear hw;rintro e w ⟨Γ4,vs,vg,gs,hle4,rfl,hq,hw⟩
 rw[QG]at hq;obtain⟨qa,qn,qc,rfl,hqn,hqnc,hqc⟩:=hq.goals.shape;obtain⟨sa,sn,sc,rfl,hsn,hsnc,hsc⟩:=hq.sel.shape;refine⟨_,rfl,?_⟩;repeat first|refine A5 ?_|refine A6 ?_;intro w hw
 refine B7 ?_;intro b2 w hw;refine B7 ?_;intro b3 w hw;refine A9 (i:=1) ?_
 intro w hw;refine A9 (i:=0) ?_
 intro w hw;have hw:Wd Γ4 [.blk b2 (.cells #[.slice sa sn sc,.slice qa qn qc] 25),.blk b3 (.cells (enc (⟨0,0⟩:C8)).toArray 29)] w:=hw.ps [1]
 repeat first|refine A5 ?_|refine A6 ?_;intro w hw
 refine B9 (vs:=[.slice (some a15) 2 2,.agg #[.slice sa sn sc,.slice qa qn qc]]) ?_
 refine(NO (hRL.mono hle4) (by simp) hq UU hw).mono ?_
 clear hw;rintro e w ⟨Γ5,v,L,hle5,rfl,hL,hrows,hw⟩
 rw[hfs]at hrows ⊢
 rw[Td]at hrows;rw[Me];obtain⟨pv,rfl⟩:∃pv,L=[(pv,[Y6 1])]:=by
  unfold rowsOf at hrows;match L,hrows with
  | [(pv,r)],h=>exact⟨pv,by simp at h;rw[h]⟩
  | [],h=>simp at h
  | _::_::_,h=>simp at h
 have hp:D6 Γ5 pv 3 [enc (Y6 1)]:=hL.ok (pv,[Y6 1]) (by simp)
 have hrep:D6 Γ5 v 1 [[pv]]:=hL.rep
 obtain⟨va,vn,vc,rfl,hvn,hvnc,hvc⟩:=hrep.shape;obtain⟨pa,pn,pc,rfl,hpn,hpnc,hpc⟩:=hp.shape;simp only[List.length_cons,List.length_nil,Nat.zero_add]at hvn hpn
 subst hvn hpn;refine⟨_,rfl,?_⟩;repeat first|refine A5 ?_|refine A6 ?_;intro w hw
 refine lG ?_ (hv:=fun hc=>by exact H9 (k:=0) (u:=.slice pa 1 pc) B1 (hL.rep.rd hw) rfl)
 repeat first|refine A5 ?_|refine A6 ?_;intro w hw
 refine lG ?_ (hv:=fun hc=>by exact H9 (k:=0) (u:=.slice pa 1 pc) B1 (hL.rep.rd hw) rfl)
 repeat first|refine A5 ?_|refine A6 ?_;intro w hw
 refine lG ?_ (hv:=fun hc=>by exact M9 (k:=0) (f:=1) (u:=.int .i64 1) B1 (hp.rd hw) rfl rfl)
 repeat first|refine A5 ?_|refine A6 ?_;intro w hw
 exact⟨_,rfl,Γ5,hle1.trans (hle2.trans (hle3.trans (hle4.trans hle5))),F7 rfl rfl,hw.ds [0,0]⟩
end Go.Proofs.YtlmiakjbogojgaaGreatDoor
end
section
open Go Mk
namespace Go.Proofs.YtlmiakjbogojgaaGreatDoor
set_option maxHeartbeats 32000000
attribute [local irreducible] Calls cI cB T8
theorem LE{p:Prop}[Decidable p](h:p):Value.bool (decide p)=.bool true:=by rw[decide_eq_true h]
theorem Gd{Γ:C4}[hT:BM Γ]{S:List B5}{w:World}{vs vg:Value}{gs:List E6}{q:D8}(src:ByteArray)(hq:QR Γ vs vg gs q)(hin:IL q)(hw:Wd Γ S w) :
  Calls Tryz.prog 3 #[.string src,.agg #[vs,vg]] w fun e w'=>∃Γ',Γ.le Γ'∧e=.returned (.bool true)∧Wd Γ' S w':=by
 have pA:=fun Γ=>Nl (Γ:=Γ)
 obtain⟨ga,gn,gc,rfl,-,-,-⟩:=hq.goals.shape;obtain⟨sa,sn,sc,rfl,-,-,-⟩:=hq.sel.shape;have pF:=TX hq
 refine A4 Tryz.func3 rfl rfl ?_
 repeat first|refine A5 ?_|refine A6 ?_;intro w hw
 refine J5 ?_;intro b3 w hw;have hw:Wd Γ (.blk b3 (.cells #[.slice sa sn sc,.slice ga gn gc] 25)::S) w:=hw
 repeat first|refine A5 ?_|refine A6 ?_;intro w hw
 refine A0 rfl (fun h=>?_) (fun h=>?_)
 ·clear h;have pA:=pA Γ
  repeat first|refine A5 ?_|refine A6 ?_;intro w hw
  exact⟨_,rfl,Γ,.refl _,rfl,hw.drop⟩
 have hfs:Hr q=true∧src.size≤2000:=by
  simp at h
  exact⟨h.2,by omega⟩
 clear h;obtain⟨hfew,hsz⟩:=hfs;have hok:=SH hfew hin
 repeat first|refine A5 ?_|refine A6 ?_;intro w hw
 refine B9 (vs:=[.string src]) ?_
 refine(LC src (by omega) hw).mono ?_
 clear hw;rintro e w ⟨Γ2,qs,qg,ghs,hle2,rfl,hqa,hw⟩
 have hoka:=Nm hsz
 obtain⟨a1,n1,c1,rfl,-,-⟩:=hqa.sel.shape;obtain⟨a2,n2,c2,rfl,-,-⟩:=hqa.goals.shape;refine⟨_,rfl,?_⟩;repeat first|refine A5 ?_|refine A6 ?_;intro w hw
 refine B7 ?_;intro b5 w hw;refine B7 ?_;intro b6 w hw;refine A9 ?_;intro w hw;refine A9 ?_;intro w hw;have hw:Wd Γ2 (.blk b6 (.cells (enc (Q8 src).2.1).toArray 29)::.blk b5 (.cells #[.slice a1 n1 c1,.slice a2 n2 c2] 25)::.blk b3 (.cells #[.slice sa sn sc,.slice ga gn gc] 25)::S) w:=hw
 repeat first|refine A5 ?_|refine A6 ?_;intro w hw
 refine B9 (vs:=[.string src]) ?_
 haveI hSZ:SZ src:=⟨by omega⟩
 refine(JA src hw).mono ?_
 clear hw;rintro e w ⟨Γ3,us,ug,uhs,hle3,rfl,hqb,hw⟩
 generalize (Q8 src).1=qa at *
 generalize (Q8 src).2.1=pa at *
 generalize (Q8 src).2.2=ea at *
 obtain⟨x1,y1,z1,rfl,-,-⟩:=hqb.sel.shape;obtain⟨x2,y2,z2,rfl,-,-⟩:=hqb.goals.shape;refine⟨_,rfl,?_⟩;repeat first|refine A5 ?_|refine A6 ?_;intro w hw
 refine B7 ?_;intro b8 w hw;refine B7 ?_;intro b9 w hw;refine A9 ?_;intro w hw;refine A9 ?_;intro w hw;have hw:Wd Γ3 (.blk b9 (.cells (enc pa).toArray 29)::.blk b8 (.cells #[.slice x1 y1 z1,.slice x2 y2 z2] 25)::.blk b6 (.cells (enc pa).toArray 29)::.blk b5 (.cells #[.slice a1 n1 c1,.slice a2 n2 c2] 25)::.blk b3 (.cells #[.slice sa sn sc,.slice ga gn gc] 25)::S) w:=hw
 repeat first|refine A5 ?_|refine A6 ?_;intro w hw
 have hle23:=hle2.trans hle3
 have hq3:=hq.mono hle23
 have hT3:BM Γ3:=hT.mono hle23
 have pS:∀Γ',Γ3.le Γ'→PG Tryz.prog Γ' 9 [.agg #[.slice a1 n1 c1,.slice a2 n2 c2],.agg #[.slice x1 y1 z1,.slice x2 y2 z2]] (.bool true):=fun Γ' h=>PF ((hqa.mono hle3).mono h) (hqb.mono h)
 have pR:∀Γ',Γ3.le Γ'→PG Tryz.prog Γ' 12 [.agg #[.slice sa sn sc,.slice ga gn gc]] (.string (f0 q)):=fun Γ' h=>LM (hq3.mono h) hok
 have pW:∀Γ',Γ3.le Γ'→PG Tryz.prog Γ' 6 [] (.bool true):=fun Γ' h=>pA Γ'
 have hwX:Wd Γ3 ((.blk b9 (.cells (enc pa).toArray 29)::.blk b8 (.cells #[.slice x1 y1 z1,.slice x2 y2 z2] 25)::.blk b6 (.cells (enc pa).toArray 29)::.blk b5 (.cells #[.slice a1 n1 c1,.slice a2 n2 c2] 25)::.blk b3 (.cells #[.slice sa sn sc,.slice ga gn gc] 25)::S)++[]) w:=by rw[List.append_nil];exact hw
 refine Ql (.blk b9 (.cells (enc pa).toArray 29)::.blk b8 (.cells #[.slice x1 y1 z1,.slice x2 y2 z2] 25)::.blk b6 (.cells (enc pa).toArray 29)::.blk b5 (.cells #[.slice a1 n1 c1,.slice a2 n2 c2] 25)::.blk b3 (.cells #[.slice sa sn sc,.slice ga gn gc] 25)::S) [] [47] [[],[],[],[],[],[],[],[],[],[],[],[],[],[],[],[0],[0],[],[],[],[],[],[],[],[]] hwX ?_
 clear hwX hw;iterate 2 (refine gY ?_)
 refine VG pS ?_
 refine gY ?_
 iterate 2 (refine o9 ?_;refine gY ?_)
 refine o9 ?_
 refine gY (v:=.bool true) ?_ (hy:=fun Γ' Y w g hle hw=>LE (rfl:pa=pa) ▸ Dh (a:=pa) (b:=pa) rfl rfl rfl)
 iterate 2 (refine gY ?_)
 iterate 2 (refine o9 ?_;refine gY ?_)
 refine o9 ?_
 refine gY (v:=.bool true) ?_ (hy:=fun Γ' Y w g hle hw=>LE (rfl:ea=ea) ▸ Pw rfl rfl)
 iterate 2 (refine gY ?_)
 refine o9 ?_
 refine gY ?_
 refine o9 ?_
 refine Pj (T':=UT) (v:=undef) (fun t g=>g 47=.agg #[Ef t.1,Ef t.2.1]) (fun t=>[B5.qr t q]) (fun _ _=>[.agg #[.slice sa sn sc,.slice ga gn gc]]) (fun Γ' t g w Y hle _ hw=>?_) ?_
 ·refine(Ks (hq3.mono hle) hok hw).mono ?_
  rintro e w ⟨Γ'',t,hle2,rfl,hw⟩
  exact⟨_,rfl,Γ'',t,hle2,rfl,(fun h=>by cases h),hw⟩
 refine o9 ?_
 refine Pj (φ:=fun (t:UT) g=>g 47=.agg #[Ef t.1,Ef t.2.1]) (R:=fun t=>[B5.qr t q]) (T':=Unit) (v:=.string (f0 q)) (fun _ _=>True) (fun _=>[]) (fun t _=>[.agg #[Ef t.1,Ef t.2.1]]) (fun Γ' t g w Y hle ht hw=>?_) ?_ (ha:=fun t g ht=>EvL.cons ht EvL.nil)
 ·have hqr:=UR (i:=0) hw rfl
  haveI:BM Γ':=hT3.mono hle
  refine((NI hqr hok).h (B5.qr t q::_) w hw).mono ?_
  rintro e w ⟨rfl,hw⟩
  exact⟨_,rfl,Γ',(),.refl _,trivial,(fun _=>rfl),hw.drop⟩
 refine o9 ?_
 refine gY ?_
 refine o9 ?_
 refine VG pR ?_
 refine o9 ?_
 refine gY (v:=.bool true) ?_ (hy:=fun Γ' Y w g hle hw=>LE (rfl:f0 q=f0 q) ▸ KG rfl rfl)
 iterate 2 (refine gY ?_)
 refine o9 ?_
 refine VG pW ?_
 iterate 2 (refine gY ?_)
 refine Ty (φ:=fun (_:Unit) _=>True) (R:=fun _=>[]) fun Γ' t w g hle _ hw=>?_
 have hw:Wd Γ' (.blk b9 (.cells (enc pa).toArray 29)::.blk b8 (.cells #[.slice x1 y1 z1,.slice x2 y2 z2] 25)::.blk b6 (.cells (enc pa).toArray 29)::.blk b5 (.cells #[.slice a1 n1 c1,.slice a2 n2 c2] 25)::.blk b3 (.cells #[.slice sa sn sc,.slice ga gn gc] 25)::S) w:=hw
 repeat first|refine A5 ?_|refine A6 ?_;intro w hw
 exact⟨_,rfl,Γ',hle23.trans hle,rfl,hw.ds [0,0,0,0,0]⟩
end Go.Proofs.YtlmiakjbogojgaaGreatDoor
end
