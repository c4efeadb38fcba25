/- Texts of this proof, one behind another. -/
import Derived.Test.YtlmiakjbogojgaaGreatDoorM5
import Derived.Test.YtlmiakjbogojgaaGreatDoorM3
import Derived.Test.YtlmiakjbogojgaaGreatDoorM2
import Derived.Test.YtlmiakjbogojgaaGreatDoorM4
set_option linter.unusedVariables false
set_option linter.unusedSimpArgs false
section
open Go Mk
namespace Go.Proofs.YtlmiakjbogojgaaGreatDoor
set_option maxHeartbeats 16000000
attribute [local irreducible] Calls cI cB
def m9:ByteArray:=⟨#[115,101,108,101,99,116]⟩
def K5:ByteArray:=⟨#[119,104,101,114,101]⟩
def l7(toks:List Tok)(k:Nat):List F6:=(List.range k).map fun i=>M3 (D2 toks (3+7*i)).Text (E5 toks (3+7*i+2) 2)
theorem ET{toks:List Tok}{k:Nat}:l7 toks (k+1)=l7 toks k++[M3 (D2 toks (3+7*k)).Text (E5 toks (3+7*k+2) 2)]:=by
 unfold l7;rw[List.range_succ,List.map_append];rfl
structure TM(toks:List Tok):Prop where
 len:toks.length=16
 sel:M4 toks 0 1 m9=true
 now:M4 toks 1 1 K5=false
 kind:(D2 toks 1).Kind=1
 kw:u3 (D2 toks 1).Text=false
 size:(D2 toks 1).Text.size≤24
 noc:M4 toks 2 4 K4=false
 whe:M4 toks 2 1 K5=true
 rels:∀i,i<2→RJ toks (3+7*i) 2
 com:∀i,i<2→M4 toks (3+7*i+2*2+2) 4 K4=decide (i+1<2)
section
variable {Γ:C4}{S:List B5}{w:World}{bp:Nat}{a:Option Addr}{n c:Nat}{e1 e2:Int}{toks:List Tok}
theorem Rq(hr:TM toks)(ht:D6 Γ (.slice a n c) 5 (toks.map enc))(hw:Wd Γ (B3 bp a n c 0 e1 e2::S) w) :
  Calls Tryz.prog 32 #[.pointer (some ⟨bp,0,none⟩)] w fun r w'=>∃Γ' vs vg gs,Γ.le Γ'∧r=.returned (.agg #[vs,vg])∧QR Γ' vs vg gs ⟨[(D2 toks 1).Text],l7 toks 2⟩∧Wd Γ' S w':=by
 have hn:n=16∧n≤c∧c≤9223372036854775807:=by obtain⟨_,_,_,h1,h2,h3⟩:=ht.shape;cases h1;exact⟨by rw[h2,List.length_map,hr.len],h3⟩
 obtain⟨hn,hnc,hc⟩:=hn;have hN:toks.length≤1000000:=by rw[hr.len];decide
 refine F1 Tryz.func32 rfl rfl ?_
 repeat first|refine A5 ?_|refine A6 ?_;intro w hw
 refine B7 ?_;intro b2 w hw;repeat first|refine A5 ?_|refine A6 ?_;intro w hw
 refine B7 ?_;intro b3 w hw;have hw:Wd Γ (B3 bp a n c 0 e1 e2::.blk b3 (.cells #[.slice none 0 0,.slice none 0 0] 25)::.blk b2 (.cells #[.slice none 0 0,.slice none 0 0] 25)::S) w:=hw.ps [2]
 repeat first|refine A5 ?_|refine A6 ?_;intro w hw
 refine B9 (vs:=[.pointer (some ⟨bp,0,none⟩),.int .i64 1,.string m9]) ?_
 refine(Cq 1 m9 hr.sel (by omega) hN ht hw).mono ?_
 clear hw;rintro r w ⟨rfl,hw⟩
 refine⟨_,rfl,?_⟩;repeat first|refine A5 ?_|refine A6 ?_;intro w hw
 refine B9 (vs:=[.pointer (some ⟨bp,0,none⟩),.int .i64 0,.int .i64 1,.string K5]) ?_
 refine(PN (j:=0) (by decide) 1 K5 (by omega) hN ht hw).mono ?_
 clear hw;rintro r w ⟨rfl,hw⟩
 rw[show M4 toks (0+1+0) 1 K5=false from hr.now];refine⟨_,rfl,?_⟩;repeat first|refine A5 ?_|refine A6 ?_;intro w hw
 refine A0 rfl (fun _=>?_) (fun h=>by cases h)
 have hw:=Wd.addNil (a:=none) (E:=9) (sz:=1) hw
 have hw:Wd Γ (.own (.slice none 0 0) 9 1 (A1 [])::B3 bp a n c 1 e1 e2::.blk b3 (.cells #[.slice none 0 0,.slice none 0 0] 25)::.blk b2 (.cells #[.slice none 0 0,.slice none 0 0] 25)::S) w:=hw
 repeat first|refine A5 ?_|refine A6 ?_;intro w hw
 refine Y7 [.blk b2 (.cells #[.slice none 0 0,.slice none 0 0] 25)] [.blk b3 (.cells #[.slice none 0 0,.slice none 0 0] 25)] (.own (.slice none 0 0) 9 1 (A1 [])::B3 bp a n c 1 e1 e2::S) [] [12,13,14] [] [[],[],[],[1],[1],[1],[],[0,1]] [[],[0],[],[1],[1],[1],[],[0,1]] (by rw[List.append_nil];exact hw.ps [2,3]) ?_
 repeat(first|refine mY ?_|refine mP ?_|refine O0 ?_|refine W0 ?_|refine X6 ?_)
 refine X7 (c:=1) (T:=Unit) (T':=Unit) (vs:=[.pointer (some ⟨bp,0,none⟩)]) (fun _=>.string (D2 toks 1).Text) (fun _=>B3 bp a n c (1+1) e1 e2::.own (.slice none 0 0) 9 1 (A1 [])::S) (R:=fun _=>.own (.slice none 0 0) 9 1 (A1 [])::B3 bp a n c 1 e1 e2::S) (fun _ Y w hw=>(Kl hr.kind hr.kw hr.size (by omega) hN ht (hw.ps [1]:Wd Γ (B3 bp a n c 1 e1 e2::(.own (.slice none 0 0) 9 1 (A1 [])::(S++Y))) w)).mono fun r w h=>⟨(),h.1,h.2⟩) ?_
 refine R2 (T:=Unit) (fun _=>[[.string (D2 toks 1).Text]]) ?_ ?_
 rotate_left
 ·intro t g h;have h2:g 12=_:=h
  show S1 _ _ [(0,g 12)]=_
  rw[h2];rfl
 refine w5 (T:=Unit×Addr) (j:=2) (j2:=0) (fun t=>some t.2) (fun _=>[[.string (D2 toks 1).Text]]) ?_ ?_
 rotate_left
 ·intro t g h;exact h.2
 refine W9 ?_;refine Y3 (T:=(Unit×Addr)×Value) (j:=2) (val:=fun t=>t.2) ?_ ?_
 rotate_left
 ·intro t g h;exact h.2
 refine v7 fun t w g h hw=>?_
 obtain⟨⟨⟨⟩,aB⟩,vv⟩:=t;have hw:Wd Γ (.blk b3 (.cells #[vv,.slice none 0 0] 25)::.own (.slice (some aB) 1 1) 9 1 [[.string (D2 toks 1).Text]]::B3 bp a n c (1+1) e1 e2::.own vv 9 1 (A1 [(D2 toks 1).Text])::(S++[.blk b2 (.cells #[.slice none 0 0,.slice none 0 0] 25)])) w:=hw
 obtain⟨sa,sn,sc,rfl,hsn,hsc,hscc⟩:=hw.own_shape (i:=3) rfl
 have hw:Wd Γ (B3 bp a n c 2 e1 e2::.blk b3 (.cells #[.slice sa sn sc,.slice none 0 0] 25)::.blk b2 (.cells #[.slice none 0 0,.slice none 0 0] 25)::.own (.slice sa sn sc) 9 1 (A1 [(D2 toks 1).Text])::S) w:=(hw.dropAt 1).perm L2
 repeat first|refine A5 ?_|refine A6 ?_;intro w hw
 refine C1 (fun μ ρ w=>Has ρ [(0,.pointer (some ⟨bp,0,none⟩)),(2,.pointer (some ⟨b2,0,none⟩)),(3,.pointer (some ⟨b3,0,none⟩))]∧Wd Γ (B3 bp a n c 2 e1 e2::.blk b3 (.cells #[.slice sa sn sc,.slice none 0 0] 25)::.blk b2 (.cells #[.slice none 0 0,.slice none 0 0] 25)::.own (.slice sa sn sc) 9 1 (A1 [(D2 toks 1).Text])::S) w) 1 ⟨⟨rfl,rfl,rfl,trivial⟩,hw⟩ ?_
 clear hw;rintro μ ρ w ⟨hρ,hw⟩
 rw[hρ.eq];clear hρ;repeat first|refine A5 ?_|refine A6 ?_;intro w hw
 refine B9 (vs:=[.pointer (some ⟨bp,0,none⟩),.int .i64 4,.string K4]) ?_
 refine(M7 4 K4 (by omega) hN ht hw).mono ?_
 clear hw;rintro r w ⟨rfl,hw⟩
 rw[hr.noc]at hw ⊢
 have hw:Wd Γ (B3 bp a n c 2 e1 e2::.blk b3 (.cells #[.slice sa sn sc,.slice none 0 0] 25)::.blk b2 (.cells #[.slice none 0 0,.slice none 0 0] 25)::.own (.slice sa sn sc) 9 1 (A1 [(D2 toks 1).Text])::S) w:=hw
 refine⟨_,rfl,?_⟩;repeat first|refine A5 ?_|refine A6 ?_;intro w hw
 refine A0 rfl (fun h=>by cases h) (fun _=>?_)
 repeat first|refine A5 ?_|refine A6 ?_;intro w hw
 refine B9 (vs:=[.pointer (some ⟨bp,0,none⟩),.int .i64 1,.string K5]) ?_
 refine(Cq 1 K5 hr.whe (by omega) hN ht hw).mono ?_
 clear hw;rintro r w ⟨rfl,hw⟩
 refine⟨_,rfl,?_⟩;have hw:=Wd.addNil (a:=none) (E:=77) (sz:=15) hw
 obtain⟨gs,hgs⟩:∃gs:List E6,gs=[]:=⟨_,rfl⟩
 obtain⟨ga,gn,gc,hga,hgn,hgc⟩:∃(ga:Option Addr) (gn gc:Nat),ga=none∧gn=0∧gc=0:=⟨_,_,_,rfl,rfl,rfl⟩
 have hw:Wd Γ (.own (.slice ga gn gc) 77 15 (gs.map cG)::B3 bp a n c (3+7*0) e1 e2::.blk b3 (.cells #[.slice sa sn sc,.slice ga gn gc] 25)::.blk b2 (.cells #[.slice none 0 0,.slice none 0 0] 25)::.own (.slice sa sn sc) 9 1 (A1 [(D2 toks 1).Text])::S) w:=by
  rw[hga,hgn,hgc,hgs];exact hw
 have hgl:gn=gs.length:=by rw[hgs,hgn];rfl
 have hgb:gn≤2:=by omega
 have hok:∀x∈gs,Eu Γ x:=fun x hx=>by rw[hgs]at hx;cases hx
 have hgs:gs.map (·.g)=l7 toks 0:=by rw[hgs];rfl
 have hrel:RJ toks (3+7*0) 2:=hr.rels 0 (by decide)
 obtain⟨Γ1,hΓ1⟩:∃Γ1,Γ1=Γ:=⟨_,rfl⟩
 rw[←hΓ1]at hw hok
 have ht1:D6 Γ1 (.slice a n c) 5 (toks.map enc):=by rw[hΓ1];exact ht
 have hle1:Γ.le Γ1:=by rw[hΓ1];exact C4.le.refl _
 clear hga hgn hgc hΓ1;repeat first|refine A5 ?_|refine A6 ?_;intro w hw
 refine Y7 [.blk b2 (.cells #[.slice none 0 0,.slice none 0 0] 25)] [.blk b3 (.cells #[.slice sa sn sc,.slice ga gn gc] 25)] (.own (.slice ga gn gc) 77 15 (gs.map cG)::B3 bp a n c (3+7*0) e1 e2::.own (.slice sa sn sc) 9 1 (A1 [(D2 toks 1).Text])::S) [] [30,31,32] [] [[],[],[],[1],[1],[1],[],[0,1]] [[],[0],[],[1],[1],[1],[],[0,1]] (by rw[List.append_nil];exact hw.ps [2,3]) ?_
 repeat(first|refine mY ?_|refine mP ?_|refine O0 ?_|refine W0 ?_|refine X6 ?_)
 refine X7 (c:=1) (T:=Unit) (T':=EN) (vs:=[.pointer (some ⟨bp,0,none⟩)]) (fun v=>.agg (cG ⟨M3 (D2 toks (3+7*0)).Text (E5 toks (3+7*0+2) 2),v.1,v.2.1,v.2.2⟩).toArray) (fun v=>.own (Ef v) 75 4 ((E5 toks (3+7*0+2) 2).map enc)::B3 bp a n c (3+7*0+2*2+2) e1 e2::.own (.slice ga gn gc) 77 15 (gs.map cG)::.own (.slice sa sn sc) 9 1 (A1 [(D2 toks 1).Text])::S) (R:=fun _=>.own (.slice ga gn gc) 77 15 (gs.map cG)::B3 bp a n c (3+7*0) e1 e2::.own (.slice sa sn sc) 9 1 (A1 [(D2 toks 1).Text])::S) (fun _ Y w hw=>PE hrel (by omega) hN ht1 (hw.ps [1]:Wd Γ1 (B3 bp a n c (3+7*0) e1 e2::(.own (.slice ga gn gc) 77 15 (gs.map cG)::.own (.slice sa sn sc) 9 1 (A1 [(D2 toks 1).Text])::(S++Y))) w)) ?_
 refine R2 (T:=EN) (fun v=>[cG ⟨M3 (D2 toks (3+7*0)).Text (E5 toks (3+7*0+2) 2),v.1,v.2.1,v.2.2⟩]) ?_ ?_
 rotate_left
 ·intro t g h;have h2:g 30=_:=h
  show S1 _ _ [(0,g 30)]=_
  rw[h2];rfl
 refine w5 (T:=EN×Addr) (j:=3) (j2:=0) (fun t=>some t.2) (fun t=>[cG ⟨M3 (D2 toks (3+7*0)).Text (E5 toks (3+7*0+2) 2),t.1.1,t.1.2.1,t.1.2.2⟩]) ?_ ?_
 rotate_left
 ·intro t g h;exact h.2
 refine W9 ?_;refine Y3 (T:=(EN×Addr)×Value) (j:=3) (val:=fun t=>t.2) ?_ ?_
 rotate_left
 ·intro t g h;exact h.2
 refine v7 fun t w g h hw=>?_
 obtain⟨⟨⟨Ax,Nx,Cx⟩,aB⟩,vv⟩:=t;have hw:Wd Γ1 (.blk b3 (.cells #[.slice sa sn sc,vv] 25)::.own (.slice (some aB) 1 1) 77 15 [cG ⟨M3 (D2 toks (3+7*0)).Text (E5 toks (3+7*0+2) 2),Ax,Nx,Cx⟩]::.own (.slice Ax Nx Cx) 75 4 ((E5 toks (3+7*0+2) 2).map enc)::B3 bp a n c (3+7*0+2*2+2) e1 e2::.own vv 77 15 (gs.map cG++[cG ⟨M3 (D2 toks (3+7*0)).Text (E5 toks (3+7*0+2) 2),Ax,Nx,Cx⟩])::.own (.slice sa sn sc) 9 1 (A1 [(D2 toks 1).Text])::(S++[.blk b2 (.cells #[.slice none 0 0,.slice none 0 0] 25)])) w:=hw
 obtain⟨A2,N2,C2,rfl,hN2,hNC2,hC2⟩:=hw.own_shape (i:=4) rfl
 obtain⟨Γ2,hle2,hfo,hw⟩:=Wd.freeze (hw.ps [2]:Wd Γ1 (.own (.slice Ax Nx Cx) 75 4 ((E5 toks (3+7*0+2) 2).map enc)::.blk b3 (.cells #[.slice sa sn sc,.slice A2 N2 C2] 25)::.own (.slice (some aB) 1 1) 77 15 [cG ⟨M3 (D2 toks (3+7*0)).Text (E5 toks (3+7*0+2) 2),Ax,Nx,Cx⟩]::B3 bp a n c (3+7*0+2*2+2) e1 e2::.own (.slice A2 N2 C2) 77 15 (gs.map cG++[cG ⟨M3 (D2 toks (3+7*0)).Text (E5 toks (3+7*0+2) 2),Ax,Nx,Cx⟩])::.own (.slice sa sn sc) 9 1 (A1 [(D2 toks 1).Text])::(S++[.blk b2 (.cells #[.slice none 0 0,.slice none 0 0] 25)])) w)
 have hw:Wd Γ2 (.own (.slice A2 N2 C2) 77 15 ((gs++[(⟨M3 (D2 toks (3+7*0)).Text (E5 toks (3+7*0+2) 2),Ax,Nx,Cx⟩:E6)]).map cG)::B3 bp a n c (3+7*0+2*2+2) e1 e2::.blk b3 (.cells #[.slice sa sn sc,.slice A2 N2 C2] 25)::.blk b2 (.cells #[.slice none 0 0,.slice none 0 0] 25)::.own (.slice sa sn sc) 9 1 (A1 [(D2 toks 1).Text])::S) w:=by
  rw[List.map_append];exact(hw.dropAt 1).perm L2
 have hgs2:(gs++[(⟨M3 (D2 toks (3+7*0)).Text (E5 toks (3+7*0+2) 2),Ax,Nx,Cx⟩:E6)]).map (·.g)=l7 toks (0+1):=by
  rw[List.map_append,hgs,ET];rfl
 have hok2:∀x∈gs++[(⟨M3 (D2 toks (3+7*0)).Text (E5 toks (3+7*0+2) 2),Ax,Nx,Cx⟩:E6)],Eu Γ2 x:=fun x hx=>by
  rcases List.mem_append.1 hx with hx|hx
  ·exact(hok x hx).mono hle2
  ·rw[List.mem_singleton.1 hx];exact hfo
 repeat first|refine A5 ?_|refine A6 ?_;intro w hw
 refine C1 (fun μ ρ w=>∃(k:Nat) (Γ1:C4) (ga:Option Addr) (gn gc:Nat) (gs:List E6),μ+k=2∧k<2∧Γ.le Γ1∧gs.map (·.g)=l7 toks (k+1)∧(∀x∈gs,Eu Γ1 x)∧Has ρ [(0,.pointer (some ⟨bp,0,none⟩)),(2,.pointer (some ⟨b2,0,none⟩)),(3,.pointer (some ⟨b3,0,none⟩))]∧Wd Γ1 (.own (.slice ga gn gc) 77 15 (gs.map cG)::B3 bp a n c (3+7*k+2*2+2) e1 e2::.blk b3 (.cells #[.slice sa sn sc,.slice ga gn gc] 25)::.blk b2 (.cells #[.slice none 0 0,.slice none 0 0] 25)::.own (.slice sa sn sc) 9 1 (A1 [(D2 toks 1).Text])::S) w) 2 ⟨0,Γ2,A2,N2,C2,_,by omega,by omega,hle1.trans hle2,hgs2,hok2,⟨rfl,rfl,rfl,trivial⟩,hw⟩ ?_
 clear hw hgs hok hgl hgb hrel ht1 hle1 hle2 hfo hgs2 hok2 hN2 hNC2 hC2;rintro μ ρ w ⟨k,Γ1,ga,gn,gc,gs,hk,hk2,hle1,hgs,hok,hρ,hw⟩
 rw[hρ.eq];clear hρ;have ht1:=ht.mono hle1
 have hgl:gs.length=k+1:=by have:=congrArg List.length hgs;simpa[l7] using this
 have hgb:gn=gs.length:=by obtain⟨_,_,_,h1,h2,_⟩:=hw.own_shape (i:=0) rfl;cases h1;simpa using h2
 repeat first|refine A5 ?_|refine A6 ?_;intro w hw
 refine B9 (vs:=[.pointer (some ⟨bp,0,none⟩),.int .i64 4,.string K4]) ?_
 refine(M7 4 K4 (by omega) hN ht1 (hw.ps [1])).mono ?_
 clear hw;rintro r w ⟨rfl,hw⟩
 rw[hr.com k hk2]at hw ⊢
 refine⟨_,rfl,?_⟩;repeat first|refine A5 ?_|refine A6 ?_;intro w hw
 refine A0 rfl (fun h=>?_) (fun h=>?_)
 ·have h1:=of_decide_eq_true h
  rw[if_pos h]at hw;have hk0:k=0:=by omega
  subst hk0;have hrel:RJ toks (3+7*(0+1)) 2:=hr.rels 1 (by decide)
  have hw:Wd Γ1 (.own (.slice ga gn gc) 77 15 (gs.map cG)::B3 bp a n c (3+7*(0+1)) e1 e2::.blk b3 (.cells #[.slice sa sn sc,.slice ga gn gc] 25)::.blk b2 (.cells #[.slice none 0 0,.slice none 0 0] 25)::.own (.slice sa sn sc) 9 1 (A1 [(D2 toks 1).Text])::S) w:=hw.ps [1]
  clear h;repeat first|refine A5 ?_|refine A6 ?_;intro w hw
  refine Y7 [.blk b2 (.cells #[.slice none 0 0,.slice none 0 0] 25)] [.blk b3 (.cells #[.slice sa sn sc,.slice ga gn gc] 25)] (.own (.slice ga gn gc) 77 15 (gs.map cG)::B3 bp a n c (3+7*(0+1)) e1 e2::.own (.slice sa sn sc) 9 1 (A1 [(D2 toks 1).Text])::S) [] [39,40,41] [] [[],[],[],[1],[1],[1],[],[0,1]] [[],[0],[],[1],[1],[1],[],[0,1]] (by rw[List.append_nil];exact hw.ps [2,3]) ?_
  repeat(first|refine mY ?_|refine mP ?_|refine O0 ?_|refine W0 ?_|refine X6 ?_)
  refine X7 (c:=1) (T:=Unit) (T':=EN) (vs:=[.pointer (some ⟨bp,0,none⟩)]) (fun v=>.agg (cG ⟨M3 (D2 toks (3+7*(0+1))).Text (E5 toks (3+7*(0+1)+2) 2),v.1,v.2.1,v.2.2⟩).toArray) (fun v=>.own (Ef v) 75 4 ((E5 toks (3+7*(0+1)+2) 2).map enc)::B3 bp a n c (3+7*(0+1)+2*2+2) e1 e2::.own (.slice ga gn gc) 77 15 (gs.map cG)::.own (.slice sa sn sc) 9 1 (A1 [(D2 toks 1).Text])::S) (R:=fun _=>.own (.slice ga gn gc) 77 15 (gs.map cG)::B3 bp a n c (3+7*(0+1)) e1 e2::.own (.slice sa sn sc) 9 1 (A1 [(D2 toks 1).Text])::S) (fun _ Y w hw=>PE hrel (by omega) hN ht1 (hw.ps [1]:Wd Γ1 (B3 bp a n c (3+7*(0+1)) e1 e2::(.own (.slice ga gn gc) 77 15 (gs.map cG)::.own (.slice sa sn sc) 9 1 (A1 [(D2 toks 1).Text])::(S++Y))) w)) ?_
  refine R2 (T:=EN) (fun v=>[cG ⟨M3 (D2 toks (3+7*(0+1))).Text (E5 toks (3+7*(0+1)+2) 2),v.1,v.2.1,v.2.2⟩]) ?_ ?_
  rotate_left
  ·intro t g h;have h2:g 39=_:=h
   show S1 _ _ [(0,g 39)]=_
   rw[h2];rfl
  refine w5 (T:=EN×Addr) (j:=3) (j2:=0) (fun t=>some t.2) (fun t=>[cG ⟨M3 (D2 toks (3+7*(0+1))).Text (E5 toks (3+7*(0+1)+2) 2),t.1.1,t.1.2.1,t.1.2.2⟩]) ?_ ?_
  rotate_left
  ·intro t g h;exact h.2
  refine W9 ?_;refine Y3 (T:=(EN×Addr)×Value) (j:=3) (val:=fun t=>t.2) ?_ ?_
  rotate_left
  ·intro t g h;exact h.2
  refine v7 fun t w g h hw=>?_
  obtain⟨⟨⟨Ax,Nx,Cx⟩,aB⟩,vv⟩:=t;have hw:Wd Γ1 (.blk b3 (.cells #[.slice sa sn sc,vv] 25)::.own (.slice (some aB) 1 1) 77 15 [cG ⟨M3 (D2 toks (3+7*(0+1))).Text (E5 toks (3+7*(0+1)+2) 2),Ax,Nx,Cx⟩]::.own (.slice Ax Nx Cx) 75 4 ((E5 toks (3+7*(0+1)+2) 2).map enc)::B3 bp a n c (3+7*(0+1)+2*2+2) e1 e2::.own vv 77 15 (gs.map cG++[cG ⟨M3 (D2 toks (3+7*(0+1))).Text (E5 toks (3+7*(0+1)+2) 2),Ax,Nx,Cx⟩])::.own (.slice sa sn sc) 9 1 (A1 [(D2 toks 1).Text])::(S++[.blk b2 (.cells #[.slice none 0 0,.slice none 0 0] 25)])) w:=hw
  obtain⟨A2,N2,C2,rfl,hN2,hNC2,hC2⟩:=hw.own_shape (i:=4) rfl
  obtain⟨Γ2,hle2,hfo,hw⟩:=Wd.freeze (hw.ps [2]:Wd Γ1 (.own (.slice Ax Nx Cx) 75 4 ((E5 toks (3+7*(0+1)+2) 2).map enc)::.blk b3 (.cells #[.slice sa sn sc,.slice A2 N2 C2] 25)::.own (.slice (some aB) 1 1) 77 15 [cG ⟨M3 (D2 toks (3+7*(0+1))).Text (E5 toks (3+7*(0+1)+2) 2),Ax,Nx,Cx⟩]::B3 bp a n c (3+7*(0+1)+2*2+2) e1 e2::.own (.slice A2 N2 C2) 77 15 (gs.map cG++[cG ⟨M3 (D2 toks (3+7*(0+1))).Text (E5 toks (3+7*(0+1)+2) 2),Ax,Nx,Cx⟩])::.own (.slice sa sn sc) 9 1 (A1 [(D2 toks 1).Text])::(S++[.blk b2 (.cells #[.slice none 0 0,.slice none 0 0] 25)])) w)
  have hw:Wd Γ2 (.own (.slice A2 N2 C2) 77 15 ((gs++[(⟨M3 (D2 toks (3+7*(0+1))).Text (E5 toks (3+7*(0+1)+2) 2),Ax,Nx,Cx⟩:E6)]).map cG)::B3 bp a n c (3+7*(0+1)+2*2+2) e1 e2::.blk b3 (.cells #[.slice sa sn sc,.slice A2 N2 C2] 25)::.blk b2 (.cells #[.slice none 0 0,.slice none 0 0] 25)::.own (.slice sa sn sc) 9 1 (A1 [(D2 toks 1).Text])::S) w:=by
   rw[List.map_append];exact(hw.dropAt 1).perm L2
  have hgs2:(gs++[(⟨M3 (D2 toks (3+7*(0+1))).Text (E5 toks (3+7*(0+1)+2) 2),Ax,Nx,Cx⟩:E6)]).map (·.g)=l7 toks ((0+1)+1):=by
   rw[List.map_append,hgs,ET];rfl
  have hok2:∀x∈gs++[(⟨M3 (D2 toks (3+7*(0+1))).Text (E5 toks (3+7*(0+1)+2) 2),Ax,Nx,Cx⟩:E6)],Eu Γ2 x:=fun x hx=>by
   rcases List.mem_append.1 hx with hx|hx
   ·exact(hok x hx).mono hle2
   ·rw[List.mem_singleton.1 hx];exact hfo
  repeat first|refine A5 ?_|refine A6 ?_;intro w hw
  exact⟨μ-1,by omega,0+1,Γ2,A2,N2,C2,_,by omega,by omega,hle1.trans hle2,hgs2,hok2,⟨rfl,rfl,rfl,trivial⟩,hw⟩
 ·have h1:=of_decide_eq_false h
  have hk1:k=1:=by omega
  subst hk1;rw[if_neg (by rw[h];decide)]at hw
  clear h;unfold B3 at hw;repeat first|refine A5 ?_|refine A6 ?_;intro w hw
  refine H0 (by kernel_rfl) (by kernel_rfl) hw ?_
  refine Bt ?_;intro w hw;refine A0 rfl (fun h=>absurd (of_decide_eq_true h) (by omega)) (fun _=>?_)
  repeat first|refine A5 ?_|refine A6 ?_;intro w hw
  refine A9 (i:=3) ?_
  intro w hw;have hw:Wd Γ1 (.blk b2 (.cells #[.slice sa sn sc,.slice ga gn gc] 25)::.own (.slice ga gn gc) 77 15 (gs.map cG)::.own (.slice sa sn sc) 9 1 (A1 [(D2 toks 1).Text])::B3 bp a n c (3+7*1+2*2+2) e1 e2::.blk b3 (.cells #[.slice sa sn sc,.slice ga gn gc] 25)::S) w:=hw.ps [2,1,4,3,4]
  repeat first|refine A5 ?_|refine A6 ?_;intro w hw
  refine⟨[.agg #[.slice sa sn sc,.slice ga gn gc]],⟨J2 (i:=0) hw rfl rfl rfl,trivial⟩,?_⟩
  obtain⟨Γ2,hle2,hg2,hw⟩:=hw.drop.freeze;obtain⟨Γ3,hle3,hs3,hw⟩:=hw.freeze;exact⟨Γ3,_,_,gs,hle1.trans (hle2.trans hle3),rfl,⟨hs3,hg2.mono hle3,hgs,fun x hx=>(hok x hx).mono (hle2.trans hle3)⟩,hw.ds [0,0]⟩
end
end Go.Proofs.YtlmiakjbogojgaaGreatDoor
end
section
open Go Mk
namespace Go.Proofs.YtlmiakjbogojgaaGreatDoor
set_option maxHeartbeats 32000000
def U0(toks:List Tok)(e:C8):Nat→List ByteArray→Nat→PR (List ByteArray)
 | 0,acc,k=>.ok (acc,k)
 | f+1,acc,k=>if M4 toks k 4 K4=true then C6 (M5 toks e (k+1)) fun s k1=>U0 toks e f (acc++[s]) k1 else .ok (acc,k)
def Jz(toks:List Tok)(e:C8)(k:Nat):PR (List ByteArray):=
 if M4 toks k 1 K5=true then .ok ([],k) else C6 (M5 toks e k) fun s k1=>U0 toks e (toks.length+1) [s] k1
def X5(toks:List Tok)(e:C8):Nat→List F6→Nat→PR (List F6)
 | 0,acc,k=>.ok (acc,k)
 | f+1,acc,k=>if M4 toks k 4 K4=true then C6 (M6 toks e (k+1)) fun g k1=>X5 toks e f (acc++[g]) k1 else .ok (acc,k)
def Cr(toks:List Tok)(e:C8)(sel:List ByteArray)(k:Nat):PR D8:=
 C6 (m8 toks e 1 K5 k) fun _ k3=>C6 (M6 toks e k3) fun g k4=>C6 (X5 toks e (toks.length+1) [g] k4) fun gs k5=>
  if k5<toks.length then .error (G2 toks k5 e,50) else .ok (⟨sel,gs⟩,k5)
def V8(toks:List Tok)(e:C8)(k:Nat):PR D8:=
 C6 (m8 toks e 1 m9 k) fun _ k1=>C6 (Jz toks e k1) fun sel k2=>Cr toks e sel k2
def SI(Γ:C4)(S:List B5)(bp:Nat)(a:Option Addr)(n c:Nat)(e:C8):PR D8→Ending→World→Prop
 | .ok (q,_),r,w=>∃Γ' vs vg gs,Γ.le Γ'∧r=.returned (.agg #[vs,vg])∧QR Γ' vs vg gs q∧Wd Γ' S w
 | .error (p,er),r,w=>∃Γ' k,Γ.le Γ'∧r=.panicked [An p er]∧Wd Γ' (B3 bp a n c k e.Line e.Col::S) w
section
variable {Γ:C4}{S:List B5}{w:World}{bp:Nat}{a:Option Addr}{n c at':Nat}{e:C8}{toks:List Tok}
theorem Bc{α β:Type}{x:α}{k:Nat}{f:α→Nat→PR β}:C6 (.ok (x,k)) f=f x k:=rfl
theorem DY{α β:Type}{q:C8×Int}{f:α→Nat→PR β}:C6 (.error q) f=.error q:=rfl
theorem F5{α β:Type}{x:PR α}{f:α→Nat→PR β}{y:β×Nat}(h:C6 x f=.ok y):∃a k,x=.ok (a,k)∧f a k=.ok y:=by
 cases x with
 | error q=>cases h
 | ok q=>exact⟨q.1,q.2,rfl,h⟩
theorem Ez{kind:Int}{text:ByteArray}{k k':Nat}{u:Unit}(h:m8 toks e kind text k=.ok (u,k')):k'=k+1:=by
 unfold m8 at h;split at h
 ·cases h;rfl
 ·cases h
theorem MO{k k':Nat}{v:Int}(h:Ai toks e k=.ok (v,k')):k<k':=by
 unfold Ai at h;split at h
 ·obtain⟨z2,hz2,-⟩:=L1 h
  have:=n0 hz2
  omega
 ·obtain⟨z2,hz2,-⟩:=L1 h
  have:=n0 hz2
  omega
theorem JV:∀(f:Nat) {acc os:List G8} {k k':Nat},m4 toks e f acc k=.ok (os,k')→k≤k'
 | 0,acc,os,k,k',h=>by unfold m4 at h;cases h;exact Nat.le_refl _
 | f+1,acc,os,k,k',h=>by
  unfold m4 at h;split at h
  ·obtain⟨o,k1,h1,h2⟩:=F5 h
   have:=BD h1
   have:=JV f h2
   omega
  ·cases h;exact Nat.le_refl _
theorem Qq{k k':Nat}{v:Int}(h:Dl toks e k=.ok (v,k')):k≤k':=by
 unfold Dl at h;split at h
 ·obtain⟨z2,hz2,-⟩:=L1 h
  have:=n0 hz2
  omega
 ·split at h
  ·obtain⟨z2,hz2,-⟩:=L1 h
   have:=n0 hz2
   omega
  ·cases h;exact Nat.le_refl _
theorem MW{kind:Int}{k k':Nat}{g:F6}(h:BI toks e kind k=.ok (g,k')):k<k':=by
 unfold BI at h;obtain⟨_,_,h1,h⟩:=F5 h
 obtain⟨_,_,h2,h⟩:=F5 h
 obtain⟨_,_,h3,h⟩:=F5 h
 obtain⟨_,_,h4,h⟩:=F5 h
 obtain⟨_,_,h5,h⟩:=F5 h
 cases h
 have:=j7 h1
 have:=Ez h2
 have:=BD h3
 have:=JV _ h4
 have:=Ez h5
 omega
theorem Cn{k k':Nat}{g:F6}(h:M6 toks e k=.ok (g,k')):k<k':=by
 unfold M6 at h;split at h
 ·have:=MW h;omega
 ·split at h
  ·exact MW h
  ·obtain⟨l,k1,h1,h⟩:=F5 h
   have:=BD h1
   split at h
   ·unfold Hz at h;obtain⟨_,_,h1,h⟩:=F5 h
    obtain⟨_,_,h2,h⟩:=F5 h
    obtain⟨_,_,h3,h⟩:=F5 h
    cases h
    have:=MO h1
    have:=Ez h2
    have:=MO h3
    omega
   ·unfold GI at h;split at h
    ·cases h
    ·obtain⟨_,_,h2,h⟩:=F5 h
     obtain⟨_,_,h3,h⟩:=F5 h
     cases h
     have:=BD h2
     have:=Qq h3
     omega
theorem DC{k k':Nat}{s:ByteArray}(h:M5 toks e k=.ok (s,k')):k'≤toks.length:=by
 have h1:=j7 h
 unfold M5 at h;split at h
 ·rename_i hk
  have:=u2 (toks:=toks) (at':=k) (by omega)
  omega
 ·cases h
theorem Ti(hW:X8 toks)(hat:at'≤n)(hN:toks.length≤1000000)(ht:D6 Γ (.slice a n c) 5 (toks.map enc))(hw:Wd Γ (B3 bp a n c at' e.Line e.Col::S) w) :
  Calls Tryz.prog 32 #[.pointer (some ⟨bp,0,none⟩)] w (SI Γ S bp a n c e (V8 toks e at')):=by
 have hn:n=toks.length:=by obtain⟨_,_,_,h1,h2,h3⟩:=ht.shape;cases h1;simpa using h2
 refine F1 Tryz.func32 rfl rfl ?_
 refine A7 ?_;refine B7 ?_;intro b2 w hw;refine A7 ?_;refine B7 ?_;intro b3 w hw;have hw:Wd Γ (B3 bp a n c at' e.Line e.Col::.blk b3 (.cells #[.slice none 0 0,.slice none 0 0] 25)::.blk b2 (.cells #[.slice none 0 0,.slice none 0 0] 25)::S) w:=hw.ps [2]
 unfold V8;refine A7 ?_;refine I0 (vs:=[.pointer (some ⟨bp,0,none⟩),.int .i64 1,.string m9]) ?_
 refine(Ct 1 m9 (by decide) hat hN ht hw).mono ?_
 clear hw;rintro r w hr
 cases hE:m8 toks e 1 m9 at' with
 | error q=>
  obtain⟨p,er⟩:=q;rw[hE]at hr;obtain⟨rfl,k,hw⟩:=hr;exact⟨Γ,k,C4.le.refl _,rfl,(hw.dropAt 1).dropAt 1⟩
 | ok q=>
 obtain⟨_,k1⟩:=q;rw[hE]at hr;obtain⟨rfl,hk1,hw⟩:=hr;show L _ _ _ _ _ _ _
 rw[Bc];clear hE hat;refine R5 ?_
 refine BL (fun ρ w=>∃(sel:List ByteArray) (k:Nat) (sa:Option Addr) (sn sc:Nat),Jz toks e k1=.ok (sel,k)∧k≤n∧Has ρ [(0,.pointer (some ⟨bp,0,none⟩)),(2,.pointer (some ⟨b2,0,none⟩)),(3,.pointer (some ⟨b3,0,none⟩))]∧Wd Γ (B3 bp a n c k e.Line e.Col::.blk b3 (.cells #[.slice sa sn sc,.slice none 0 0] 25)::.blk b2 (.cells #[.slice none 0 0,.slice none 0 0] 25)::.own (.slice sa sn sc) 9 1 (A1 sel)::S) w) ?_ ?_
 ·refine A7 ?_;refine B9 (vs:=[.pointer (some ⟨bp,0,none⟩),.int .i64 0,.int .i64 1,.string K5]) ?_
  refine(PN (j:=0) (by decide) 1 K5 hk1 hN ht hw).mono ?_
  clear hw;rintro r w ⟨rfl,hw⟩
  rw[Nat.add_zero];refine⟨_,rfl,?_⟩;unfold Jz;generalize M4 toks k1 1 K5=bi at *
  refine A7 ?_;cases bi with
  | true=>
   refine A0 rfl (fun h=>by cases h) (fun _=>?_)
   refine A7 ?_;have hw:=Wd.addNil (a:=none) (E:=9) (sz:=1) hw
   exact⟨[],k1,none,0,0,by rw[if_pos rfl],hk1,⟨rfl,rfl,rfl,trivial⟩,hw.ps [3,3,3]⟩
  | false=>
   refine A0 rfl (fun _=>?_) (fun h=>by cases h)
   rw[if_neg (by decide)]
   have hw:=Wd.addNil (a:=none) (E:=9) (sz:=1) hw
   have hw:Wd Γ (.own (.slice none 0 0) 9 1 (A1 [])::B3 bp a n c k1 e.Line e.Col::.blk b3 (.cells #[.slice none 0 0,.slice none 0 0] 25)::.blk b2 (.cells #[.slice none 0 0,.slice none 0 0] 25)::S) w:=hw
   refine A7 ?_;have hk9:k1≤n:=hk1
   cases hO:M5 toks e k1 with
   | error q=>
    obtain⟨p,er⟩:=q;rw[DY,DY];refine Be (fun ch w=>ch=[An p er]∧∃k,Wd Γ (B3 bp a n c k e.Line e.Col::S) w) [.blk b2 (.cells #[.slice none 0 0,.slice none 0 0] 25)] [.blk b3 (.cells #[.slice none 0 0,.slice none 0 0] 25)] (.own (.slice none 0 0) 9 1 (A1 [])::B3 bp a n c k1 e.Line e.Col::S) [] [12,13,14] [] [[],[],[],[1],[1],[1],[],[0,1]] [[],[0],[],[1],[1],[1],[],[0,1]] (by rw[List.append_nil];exact hw.ps [2,3]) (fun ch ρ w ⟨h1,k,h2⟩=>by subst h1;exact⟨Γ,k,C4.le.refl _,rfl,h2⟩) ?_
    refine eY ?_
    refine eY ?_
    refine eY ?_
    refine HO (c:=1) (T:=Unit) (T':=Empty) (vs:=[.pointer (some ⟨bp,0,none⟩)]) (fun t=>t.elim) (fun t=>t.elim) (φ:=fun _ _=>True) (R:=fun _=>.own (.slice none 0 0) 9 1 (A1 [])::B3 bp a n c k1 e.Line e.Col::S) (fun _ Y w hw=>(Hb hk9 hN ht (hw.ps [1]:Wd Γ (B3 bp a n c k1 e.Line e.Col::(.own (.slice none 0 0) 9 1 (A1 [])::(S++Y))) w)).mono fun r w h=>?_) ?_
    ·rw[hO]at h;obtain⟨rfl,k,hw⟩:=h;have hw:Wd Γ (B3 bp a n c k e.Line e.Col::(.own (.slice none 0 0) 9 1 (A1 [])::(S++Y))) w:=hw
     exact⟨rfl,k,Wd.left (S:=B3 bp a n c k e.Line e.Col::S) (hw.dropAt 1)⟩
    refine IU (c:=1) ?_
    refine IU (c:=1) ?_
    refine eY ?_
    refine IU (c:=1) ?_
    exact EA (c:=1)
   | ok q=>
   obtain⟨s,k9⟩:=q;rw[Bc];refine Y7 [.blk b2 (.cells #[.slice none 0 0,.slice none 0 0] 25)] [.blk b3 (.cells #[.slice none 0 0,.slice none 0 0] 25)] (.own (.slice none 0 0) 9 1 (A1 [])::B3 bp a n c k1 e.Line e.Col::S) [] [12,13,14] [] [[],[],[],[1],[1],[1],[],[0,1]] [[],[0],[],[1],[1],[1],[],[0,1]] (by rw[List.append_nil];exact hw.ps [2,3]) ?_
   repeat(first|refine mY ?_|refine mP ?_|refine O0 ?_|refine W0 ?_|refine X6 ?_)
   refine X7 (c:=1) (T:=Unit) (T':=Unit) (vs:=[.pointer (some ⟨bp,0,none⟩)]) (fun _=>.string s) (fun _=>B3 bp a n c k9 e.Line e.Col::.own (.slice none 0 0) 9 1 (A1 [])::S) (R:=fun _=>.own (.slice none 0 0) 9 1 (A1 [])::B3 bp a n c k1 e.Line e.Col::S) (fun _ Y w hw=>(Hb hk9 hN ht (hw.ps [1]:Wd Γ (B3 bp a n c k1 e.Line e.Col::(.own (.slice none 0 0) 9 1 (A1 [])::(S++Y))) w)).mono fun r w h=>by rw[hO]at h;exact⟨(),h.1,h.2.2⟩) ?_
   refine R2 (T:=Unit) (fun _=>[[.string s]]) ?_ ?_
   rotate_left
   ·intro t g h;have h2:g 12=.string s:=h
    show S1 _ _ [(0,g 12)]=_
    rw[h2];rfl
   refine w5 (T:=Unit×Addr) (j:=2) (j2:=0) (fun t=>some t.2) (fun _=>[[.string s]]) ?_ ?_
   rotate_left
   ·intro t g h;exact h.2
   refine W9 ?_;refine Y3 (T:=(Unit×Addr)×Value) (j:=2) (val:=fun t=>t.2) ?_ ?_
   rotate_left
   ·intro t g h;exact h.2
   refine v7 fun t w g h hw=>?_
   obtain⟨⟨⟨⟩,aB⟩,vv⟩:=t;have hw:Wd Γ (.blk b3 (.cells #[vv,.slice none 0 0] 25)::.own (.slice (some aB) 1 1) 9 1 [[.string s]]::B3 bp a n c k9 e.Line e.Col::.own vv 9 1 (A1 []++[[.string s]])::(S++[.blk b2 (.cells #[.slice none 0 0,.slice none 0 0] 25)])) w:=hw
   obtain⟨A2,N2,C2,hvv,hN2,hNC2,hC2⟩:=hw.own_shape (i:=3) rfl
   rw[hvv]at hw;rw[show A1 []++[[.string s]]=A1 ([]++[s]) from by unfold A1;rw[List.map_append];rfl]at hw hN2
   have hw:Wd Γ (.own (.slice A2 N2 C2) 9 1 (A1 ([]++[s]))::B3 bp a n c k9 e.Line e.Col::.blk b3 (.cells #[.slice A2 N2 C2,.slice none 0 0] 25)::.blk b2 (.cells #[.slice none 0 0,.slice none 0 0] 25)::S) w:=(hw.dropAt 1).perm L2
   have hk9':k9≤n:=by rw[hn];exact DC hO
   obtain⟨tot,htot⟩:∃t,t=U0 toks e (toks.length+1) [s] k9:=⟨_,rfl⟩
   rw[←htot];have hw:Wd Γ (.own (.slice A2 N2 C2) 9 1 (A1 [s])::B3 bp a n c k9 e.Line e.Col::.blk b3 (.cells #[.slice A2 N2 C2,.slice none 0 0] 25)::.blk b2 (.cells #[.slice none 0 0,.slice none 0 0] 25)::S) w:=hw
   refine A7 ?_;refine C1 (fun μ ρ w=>∃(f:Nat) (acc:List ByteArray) (k:Nat) (A:Option Addr) (N C:Nat),U0 toks e f acc k=tot∧μ=n-k∧k≤n∧n<f+k∧acc.length≤1+k∧Has ρ [(0,.pointer (some ⟨bp,0,none⟩)),(2,.pointer (some ⟨b2,0,none⟩)),(3,.pointer (some ⟨b3,0,none⟩))]∧Wd Γ (.own (.slice A N C) 9 1 (A1 acc)::B3 bp a n c k e.Line e.Col::.blk b3 (.cells #[.slice A N C,.slice none 0 0] 25)::.blk b2 (.cells #[.slice none 0 0,.slice none 0 0] 25)::S) w) (n-k9) ⟨toks.length+1,[s],k9,A2,N2,C2,htot.symm,rfl,hk9',by omega,by simp,⟨rfl,rfl,rfl,trivial⟩,hw⟩ ?_
   clear hw hO hk9;rintro μ ρ w ⟨f,acc,k,A,N,C,hf,hμ,hkn,hfk,hal,hρ,hw⟩
   rw[hρ.eq];clear hρ;have hNl:N=acc.length:=by
    obtain⟨_,_,_,hE,h2,-,-⟩:=hw.own_shape (i:=0) rfl
    cases hE
    simpa[A1] using h2
   obtain⟨f',rfl⟩:∃f',f=f'+1:=⟨f-1,by omega⟩
   unfold U0 at hf;refine A7 ?_;refine B9 (vs:=[.pointer (some ⟨bp,0,none⟩),.int .i64 4,.string K4]) ?_
   refine(M7 (S:=.own (.slice A N C) 9 1 (A1 acc)::.blk b3 (.cells #[.slice A N C,.slice none 0 0] 25)::.blk b2 (.cells #[.slice none 0 0,.slice none 0 0] 25)::S) 4 K4 hkn hN ht (hw.ps [1])).mono ?_
   clear hw;rintro r w ⟨rfl,hw⟩
   refine⟨_,rfl,?_⟩;cases hi:M4 toks k 4 K4 with
   | true=>
    have hlt:=s9 (by decide) hi
    rw[hi,if_pos rfl]at hw hf
    have hk9:k+1≤n:=by omega
    have hw:Wd Γ (.own (.slice A N C) 9 1 (A1 acc)::B3 bp a n c (k+1) e.Line e.Col::.blk b3 (.cells #[.slice A N C,.slice none 0 0] 25)::.blk b2 (.cells #[.slice none 0 0,.slice none 0 0] 25)::S) w:=hw.ps [1]
    refine A7 ?_;refine A0 rfl (fun _=>?_) (fun h=>by cases h)
    refine A7 ?_;cases hO:M5 toks e (k+1) with
    | error q=>
     obtain⟨p,er⟩:=q;have htE:tot=.error (p,er):=by rw[←hf,hO];rfl
     rw[htE,DY];refine Be (fun ch w=>ch=[An p er]∧∃k,Wd Γ (B3 bp a n c k e.Line e.Col::S) w) [.blk b2 (.cells #[.slice none 0 0,.slice none 0 0] 25)] [.blk b3 (.cells #[.slice A N C,.slice none 0 0] 25)] (.own (.slice A N C) 9 1 (A1 acc)::B3 bp a n c (k+1) e.Line e.Col::S) [] [21,22,23] [] [[],[],[],[1],[1],[1],[],[0,1]] [[],[0],[],[1],[1],[1],[],[0,1]] (by rw[List.append_nil];exact hw.ps [2,3]) (fun ch ρ w ⟨h1,k,h2⟩=>by subst h1;exact⟨Γ,k,C4.le.refl _,rfl,h2⟩) ?_
     refine eY ?_
     refine eY ?_
     refine eY ?_
     refine HO (c:=1) (T:=Unit) (T':=Empty) (vs:=[.pointer (some ⟨bp,0,none⟩)]) (fun t=>t.elim) (fun t=>t.elim) (φ:=fun _ _=>True) (R:=fun _=>.own (.slice A N C) 9 1 (A1 acc)::B3 bp a n c (k+1) e.Line e.Col::S) (fun _ Y w hw=>(Hb hk9 hN ht (hw.ps [1]:Wd Γ (B3 bp a n c (k+1) e.Line e.Col::(.own (.slice A N C) 9 1 (A1 acc)::(S++Y))) w)).mono fun r w h=>?_) ?_
     ·rw[hO]at h;obtain⟨rfl,k,hw⟩:=h;have hw:Wd Γ (B3 bp a n c k e.Line e.Col::(.own (.slice A N C) 9 1 (A1 acc)::(S++Y))) w:=hw
      exact⟨rfl,k,Wd.left (S:=B3 bp a n c k e.Line e.Col::S) (hw.dropAt 1)⟩
     refine IU (c:=1) ?_
     refine IU (c:=1) ?_
     refine eY ?_
     refine IU (c:=1) ?_
     exact EA (c:=1)
    | ok q=>
    obtain⟨s,k9⟩:=q;have hk9':k9≤n:=by rw[hn];exact DC hO
    have hk9l:=j7 hO
    refine Y7 [.blk b2 (.cells #[.slice none 0 0,.slice none 0 0] 25)] [.blk b3 (.cells #[.slice A N C,.slice none 0 0] 25)] (.own (.slice A N C) 9 1 (A1 acc)::B3 bp a n c (k+1) e.Line e.Col::S) [] [21,22,23] [] [[],[],[],[1],[1],[1],[],[0,1]] [[],[0],[],[1],[1],[1],[],[0,1]] (by rw[List.append_nil];exact hw.ps [2,3]) ?_
    repeat(first|refine mY ?_|refine mP ?_|refine O0 ?_|refine W0 ?_|refine X6 ?_)
    refine X7 (c:=1) (T:=Unit) (T':=Unit) (vs:=[.pointer (some ⟨bp,0,none⟩)]) (fun _=>.string s) (fun _=>B3 bp a n c k9 e.Line e.Col::.own (.slice A N C) 9 1 (A1 acc)::S) (R:=fun _=>.own (.slice A N C) 9 1 (A1 acc)::B3 bp a n c (k+1) e.Line e.Col::S) (fun _ Y w hw=>(Hb hk9 hN ht (hw.ps [1]:Wd Γ (B3 bp a n c (k+1) e.Line e.Col::(.own (.slice A N C) 9 1 (A1 acc)::(S++Y))) w)).mono fun r w h=>by rw[hO]at h;exact⟨(),h.1,h.2.2⟩) ?_
    refine R2 (T:=Unit) (fun _=>[[.string s]]) ?_ ?_
    rotate_left
    ·intro t g h;have h2:g 21=.string s:=h
     show S1 _ _ [(0,g 21)]=_
     rw[h2];rfl
    refine w5 (T:=Unit×Addr) (j:=2) (j2:=0) (fun t=>some t.2) (fun _=>[[.string s]]) ?_ ?_
    rotate_left
    ·intro t g h;exact h.2
    refine W9 ?_;refine Y3 (T:=(Unit×Addr)×Value) (j:=2) (val:=fun t=>t.2) ?_ ?_
    rotate_left
    ·intro t g h;exact h.2
    refine v7 fun t w g h hw=>?_
    obtain⟨⟨⟨⟩,aB⟩,vv⟩:=t;have hw:Wd Γ (.blk b3 (.cells #[vv,.slice none 0 0] 25)::.own (.slice (some aB) 1 1) 9 1 [[.string s]]::B3 bp a n c k9 e.Line e.Col::.own vv 9 1 (A1 acc++[[.string s]])::(S++[.blk b2 (.cells #[.slice none 0 0,.slice none 0 0] 25)])) w:=hw
    obtain⟨A2,N2,C2,hvv,hN2,hNC2,hC2⟩:=hw.own_shape (i:=3) rfl
    rw[hvv]at hw;rw[show A1 acc++[[.string s]]=A1 (acc++[s]) from by unfold A1;rw[List.map_append];rfl]at hw hN2
    have hw:Wd Γ (.own (.slice A2 N2 C2) 9 1 (A1 (acc++[s]))::B3 bp a n c k9 e.Line e.Col::.blk b3 (.cells #[.slice A2 N2 C2,.slice none 0 0] 25)::.blk b2 (.cells #[.slice none 0 0,.slice none 0 0] 25)::S) w:=(hw.dropAt 1).perm L2
    refine A7 ?_;exact⟨n-k9,by omega,f',acc++[s],k9,A2,N2,C2,by rw[←hf,hO];rfl,rfl,hk9',by omega,by rw[List.length_append];simp;omega,⟨rfl,rfl,rfl,trivial⟩,hw⟩
   | false=>
    rw[hi,if_neg (by decide)]at hw hf
    refine A7 ?_;refine A0 rfl (fun h=>by cases h) (fun _=>?_)
    refine A7 ?_;exact⟨acc,k,A,N,C,hf.symm,hkn,⟨rfl,rfl,rfl,trivial⟩,hw.ps [3,3,2]⟩
 clear hw hk1;rintro ρ w ⟨sel,k2,sa,sn,sc,hsel,hk2,hρ,hw⟩
 rw[hρ.eq];clear hρ;rw[hsel,Bc];obtain⟨_,_,_,hE,hsn,hsc,hscc⟩:=hw.own_shape (i:=3) rfl
 cases hE
 clear hsel;unfold Cr;refine A7 ?_;refine I0 (vs:=[.pointer (some ⟨bp,0,none⟩),.int .i64 1,.string K5]) ?_
 refine(Ct 1 K5 (by decide) hk2 hN ht hw).mono ?_
 clear hw;rintro r w hr
 cases hE:m8 toks e 1 K5 k2 with
 | error q=>
  obtain⟨p,er⟩:=q;rw[hE]at hr;obtain⟨rfl,k,hw⟩:=hr;exact⟨Γ,k,C4.le.refl _,rfl,((hw.dropAt 1).dropAt 1).dropAt 1⟩
 | ok q=>
 obtain⟨_,k3⟩:=q;rw[hE]at hr;obtain⟨rfl,hk9,hw⟩:=hr;show L _ _ _ _ _ _ _
 rw[Bc];clear hE hk2;have hw:=Wd.addNil (a:=none) (E:=77) (sz:=15) hw
 obtain⟨gs,hgs⟩:∃gs:List E6,gs=[]:=⟨_,rfl⟩
 obtain⟨ga,gn,gc,hga,hgn,hgc⟩:∃(ga:Option Addr) (gn gc:Nat),ga=none∧gn=0∧gc=0:=⟨_,_,_,rfl,rfl,rfl⟩
 have hw:Wd Γ (.own (.slice ga gn gc) 77 15 (gs.map cG)::B3 bp a n c k3 e.Line e.Col::.blk b3 (.cells #[.slice sa sn sc,.slice ga gn gc] 25)::.blk b2 (.cells #[.slice none 0 0,.slice none 0 0] 25)::.own (.slice sa sn sc) 9 1 (A1 sel)::S) w:=by
  rw[hga,hgn,hgc,hgs];exact hw
 have hgl:gn=gs.length:=by rw[hgs,hgn];rfl
 have hok:∀x∈gs,Eu Γ x:=fun x hx=>by rw[hgs]at hx;cases hx
 obtain⟨Γ1,hΓ1⟩:∃Γ1,Γ1=Γ:=⟨_,rfl⟩
 rw[←hΓ1]at hw hok
 have ht1:D6 Γ1 (.slice a n c) 5 (toks.map enc):=by rw[hΓ1];exact ht
 have hle1:Γ.le Γ1:=by rw[hΓ1];exact C4.le.refl _
 have hgl0:gn=0:=hgn
 clear hga hgn hgc hΓ1;refine R5 ?_
 refine A7 ?_;cases hO:M6 toks e k3 with
 | error q=>
  obtain⟨p,er⟩:=q;rw[DY];refine Be (fun ch w=>ch=[An p er]∧∃k,Wd Γ1 (B3 bp a n c k e.Line e.Col::S) w) [.blk b2 (.cells #[.slice none 0 0,.slice none 0 0] 25)] [.blk b3 (.cells #[.slice sa sn sc,.slice ga gn gc] 25)] (.own (.slice ga gn gc) 77 15 (gs.map cG)::B3 bp a n c k3 e.Line e.Col::.own (.slice sa sn sc) 9 1 (A1 sel)::S) [] [30,31,32] [] [[],[],[],[1],[1],[1],[],[0,1]] [[],[0],[],[1],[1],[1],[],[0,1]] (by rw[List.append_nil];exact hw.ps [2,3]) (fun ch ρ w ⟨h1,k,h2⟩=>by subst h1;exact⟨Γ1,k,hle1,rfl,h2⟩) ?_
  refine eY ?_
  refine eY ?_
  refine eY ?_
  refine HO (c:=1) (T:=Unit) (T':=Empty) (vs:=[.pointer (some ⟨bp,0,none⟩)]) (fun t=>t.elim) (fun t=>t.elim) (φ:=fun _ _=>True) (R:=fun _=>.own (.slice ga gn gc) 77 15 (gs.map cG)::B3 bp a n c k3 e.Line e.Col::.own (.slice sa sn sc) 9 1 (A1 sel)::S) (fun _ Y w hw=>(MN hW hk9 hN ht1 (hw.ps [1]:Wd Γ1 (B3 bp a n c k3 e.Line e.Col::(.own (.slice ga gn gc) 77 15 (gs.map cG)::.own (.slice sa sn sc) 9 1 (A1 sel)::(S++Y))) w)).mono fun r w h=>?_) ?_
  ·rw[hO]at h;obtain⟨rfl,k,hw⟩:=h;have hw:Wd Γ1 (B3 bp a n c k e.Line e.Col::(.own (.slice ga gn gc) 77 15 (gs.map cG)::.own (.slice sa sn sc) 9 1 (A1 sel)::(S++Y))) w:=hw
   exact⟨rfl,k,Wd.left (S:=B3 bp a n c k e.Line e.Col::S) ((hw.dropAt 1).dropAt 1)⟩
  refine IU (c:=1) ?_
  refine IU (c:=1) ?_
  refine eY ?_
  refine IU (c:=1) ?_
  exact EA (c:=1)
 | ok q=>
 obtain⟨g,k9⟩:=q;rw[Bc];refine Y7 [.blk b2 (.cells #[.slice none 0 0,.slice none 0 0] 25)] [.blk b3 (.cells #[.slice sa sn sc,.slice ga gn gc] 25)] (.own (.slice ga gn gc) 77 15 (gs.map cG)::B3 bp a n c k3 e.Line e.Col::.own (.slice sa sn sc) 9 1 (A1 sel)::S) [] [30,31,32] [] [[],[],[],[1],[1],[1],[],[0,1]] [[],[0],[],[1],[1],[1],[],[0,1]] (by rw[List.append_nil];exact hw.ps [2,3]) ?_
 repeat(first|refine mY ?_|refine mP ?_|refine O0 ?_|refine W0 ?_|refine X6 ?_)
 refine X7 (c:=1) (T:=Unit) (T':={v:EN // k9≤n}) (vs:=[.pointer (some ⟨bp,0,none⟩)]) (fun v=>.agg (cG ⟨g,v.1.1,v.1.2.1,v.1.2.2⟩).toArray) (fun v=>.own (Ef v.1) 75 4 (g.Args.map enc)::B3 bp a n c k9 e.Line e.Col::.own (.slice ga gn gc) 77 15 (gs.map cG)::.own (.slice sa sn sc) 9 1 (A1 sel)::S) (R:=fun _=>.own (.slice ga gn gc) 77 15 (gs.map cG)::B3 bp a n c k3 e.Line e.Col::.own (.slice sa sn sc) 9 1 (A1 sel)::S) (fun _ Y w hw=>(MN hW hk9 hN ht1 (hw.ps [1]:Wd Γ1 (B3 bp a n c k3 e.Line e.Col::(.own (.slice ga gn gc) 77 15 (gs.map cG)::.own (.slice sa sn sc) 9 1 (A1 sel)::(S++Y))) w)).mono fun r w h=>by rw[hO]at h;obtain⟨v,h1,h2,h3⟩:=h;exact⟨⟨v,h2⟩,h1,h3⟩) ?_
 refine R2 (T:={v:EN // k9≤n}) (fun v=>[cG ⟨g,v.1.1,v.1.2.1,v.1.2.2⟩]) ?_ ?_
 rotate_left
 ·intro t gg h;have h2:gg 30=.agg (cG ⟨g,t.1.1,t.1.2.1,t.1.2.2⟩).toArray:=h
  show S1 _ _ [(0,gg 30)]=_
  rw[h2];rfl
 refine w5 (T:={v:EN // k9≤n} × Addr) (j:=3) (j2:=0) (fun t=>some t.2) (fun t=>[cG ⟨g,t.1.1.1,t.1.1.2.1,t.1.1.2.2⟩]) ?_ ?_
 rotate_left
 ·intro t g h;exact h.2
 refine W9 ?_;refine Y3 (T:=({v:EN // k9≤n} × Addr)×Value) (j:=3) (val:=fun t=>t.2) ?_ ?_
 rotate_left
 ·intro t g h;exact h.2
 refine v7 fun t w g' h hw=>?_
 obtain⟨⟨⟨⟨Ax,Nx,Cx⟩,hk9'⟩,aB⟩,vv⟩:=t;have hw:Wd Γ1 (.blk b3 (.cells #[.slice sa sn sc,vv] 25)::.own (.slice (some aB) 1 1) 77 15 [cG ⟨g,Ax,Nx,Cx⟩]::.own (.slice Ax Nx Cx) 75 4 (g.Args.map enc)::B3 bp a n c k9 e.Line e.Col::.own vv 77 15 (gs.map cG++[cG ⟨g,Ax,Nx,Cx⟩])::.own (.slice sa sn sc) 9 1 (A1 sel)::(S++[.blk b2 (.cells #[.slice none 0 0,.slice none 0 0] 25)])) w:=hw
 obtain⟨A2,N2,C2,hvv,hN2,hNC2,hC2⟩:=hw.own_shape (i:=4) rfl
 rw[hvv]at hw;obtain⟨Γ2,hle2,hfo,hw⟩:=Wd.freeze (hw.ps [2]:Wd Γ1 (.own (.slice Ax Nx Cx) 75 4 (g.Args.map enc)::.blk b3 (.cells #[.slice sa sn sc,.slice A2 N2 C2] 25)::.own (.slice (some aB) 1 1) 77 15 [cG ⟨g,Ax,Nx,Cx⟩]::B3 bp a n c k9 e.Line e.Col::.own (.slice A2 N2 C2) 77 15 (gs.map cG++[cG ⟨g,Ax,Nx,Cx⟩])::.own (.slice sa sn sc) 9 1 (A1 sel)::(S++[.blk b2 (.cells #[.slice none 0 0,.slice none 0 0] 25)])) w)
 have hw:Wd Γ2 (.own (.slice A2 N2 C2) 77 15 ((gs++[(⟨g,Ax,Nx,Cx⟩:E6)]).map cG)::B3 bp a n c k9 e.Line e.Col::.blk b3 (.cells #[.slice sa sn sc,.slice A2 N2 C2] 25)::.blk b2 (.cells #[.slice none 0 0,.slice none 0 0] 25)::.own (.slice sa sn sc) 9 1 (A1 sel)::S) w:=by
  rw[List.map_append];exact(hw.dropAt 1).perm L2
 have hok2:∀x∈gs++[(⟨g,Ax,Nx,Cx⟩:E6)],Eu Γ2 x:=fun x hx=>by
  rcases List.mem_append.1 hx with hx|hx
  ·exact(hok x hx).mono hle2
  ·rw[List.mem_singleton.1 hx];exact hfo
 obtain⟨tot,htot⟩:∃t,t=X5 toks e (toks.length+1) [g] k9:=⟨_,rfl⟩
 rw[←htot];have hgs2:(gs++[(⟨g,Ax,Nx,Cx⟩:E6)]).map (·.g)=[g]:=by rw[hgs];rfl
 refine A7 ?_;refine C1 (fun μ ρ w=>∃(f:Nat) (acc:List F6) (k:Nat) (Γ1:C4) (ga:Option Addr) (gn gc:Nat) (gs:List E6),X5 toks e f acc k=tot∧μ=n-k∧k≤n∧n<f+k∧acc.length≤1+k∧Γ.le Γ1∧gs.map (·.g)=acc∧(∀x∈gs,Eu Γ1 x)∧Has ρ [(0,.pointer (some ⟨bp,0,none⟩)),(2,.pointer (some ⟨b2,0,none⟩)),(3,.pointer (some ⟨b3,0,none⟩))]∧Wd Γ1 (.own (.slice ga gn gc) 77 15 (gs.map cG)::B3 bp a n c k e.Line e.Col::.blk b3 (.cells #[.slice sa sn sc,.slice ga gn gc] 25)::.blk b2 (.cells #[.slice none 0 0,.slice none 0 0] 25)::.own (.slice sa sn sc) 9 1 (A1 sel)::S) w) (n-k9) ⟨toks.length+1,[g],k9,Γ2,A2,N2,C2,_,htot.symm,rfl,hk9',by omega,by simp,hle1.trans hle2,hgs2,hok2,⟨rfl,rfl,rfl,trivial⟩,hw⟩ ?_
 clear hw hgs hok hgl hgl0 ht1 hle1 hle2 hfo hgs2 hok2 hN2 hNC2 hC2 hk9 hO;rintro μ ρ w ⟨f,acc,k,Γ1,ga,gn,gc,gs,hf,hμ,hkn,hfk,hal,hle1,hgs,hok,hρ,hw⟩
 rw[hρ.eq];clear hρ;have ht1:=ht.mono hle1
 have hgl:gs.length=acc.length:=by rw[←hgs,List.length_map]
 have hgb:gn=gs.length:=by obtain⟨_,_,_,h1,h2,_⟩:=hw.own_shape (i:=0) rfl;cases h1;simpa using h2
 obtain⟨f',rfl⟩:∃f',f=f'+1:=⟨f-1,by omega⟩
 unfold X5 at hf;refine A7 ?_;refine B9 (vs:=[.pointer (some ⟨bp,0,none⟩),.int .i64 4,.string K4]) ?_
 refine(M7 4 K4 hkn hN ht1 (hw.ps [1])).mono ?_
 clear hw;rintro r w ⟨rfl,hw⟩
 refine⟨_,rfl,?_⟩;cases hi:M4 toks k 4 K4 with
 | true=>
  have hlt:=s9 (by decide) hi
  rw[hi,if_pos rfl]at hw hf
  have hk9:k+1≤n:=by omega
  have hw:Wd Γ1 (.own (.slice ga gn gc) 77 15 (gs.map cG)::B3 bp a n c (k+1) e.Line e.Col::.blk b3 (.cells #[.slice sa sn sc,.slice ga gn gc] 25)::.blk b2 (.cells #[.slice none 0 0,.slice none 0 0] 25)::.own (.slice sa sn sc) 9 1 (A1 sel)::S) w:=hw.ps [1]
  refine A7 ?_;refine A0 rfl (fun _=>?_) (fun h=>by cases h)
  refine A7 ?_;cases hO:M6 toks e (k+1) with
  | error q=>
   obtain⟨p,er⟩:=q;have htE:tot=.error (p,er):=by rw[←hf,hO];rfl
   rw[htE,DY];refine Be (fun ch w=>ch=[An p er]∧∃k,Wd Γ1 (B3 bp a n c k e.Line e.Col::S) w) [.blk b2 (.cells #[.slice none 0 0,.slice none 0 0] 25)] [.blk b3 (.cells #[.slice sa sn sc,.slice ga gn gc] 25)] (.own (.slice ga gn gc) 77 15 (gs.map cG)::B3 bp a n c (k+1) e.Line e.Col::.own (.slice sa sn sc) 9 1 (A1 sel)::S) [] [39,40,41] [] [[],[],[],[1],[1],[1],[],[0,1]] [[],[0],[],[1],[1],[1],[],[0,1]] (by rw[List.append_nil];exact hw.ps [2,3]) (fun ch ρ w ⟨h1,k,h2⟩=>by subst h1;exact⟨Γ1,k,hle1,rfl,h2⟩) ?_
   refine eY ?_
   refine eY ?_
   refine eY ?_
   refine HO (c:=1) (T:=Unit) (T':=Empty) (vs:=[.pointer (some ⟨bp,0,none⟩)]) (fun t=>t.elim) (fun t=>t.elim) (φ:=fun _ _=>True) (R:=fun _=>.own (.slice ga gn gc) 77 15 (gs.map cG)::B3 bp a n c (k+1) e.Line e.Col::.own (.slice sa sn sc) 9 1 (A1 sel)::S) (fun _ Y w hw=>(MN hW hk9 hN ht1 (hw.ps [1]:Wd Γ1 (B3 bp a n c (k+1) e.Line e.Col::(.own (.slice ga gn gc) 77 15 (gs.map cG)::.own (.slice sa sn sc) 9 1 (A1 sel)::(S++Y))) w)).mono fun r w h=>?_) ?_
   ·rw[hO]at h;obtain⟨rfl,k,hw⟩:=h;have hw:Wd Γ1 (B3 bp a n c k e.Line e.Col::(.own (.slice ga gn gc) 77 15 (gs.map cG)::.own (.slice sa sn sc) 9 1 (A1 sel)::(S++Y))) w:=hw
    exact⟨rfl,k,Wd.left (S:=B3 bp a n c k e.Line e.Col::S) ((hw.dropAt 1).dropAt 1)⟩
   refine IU (c:=1) ?_
   refine IU (c:=1) ?_
   refine eY ?_
   refine IU (c:=1) ?_
   exact EA (c:=1)
  | ok q=>
  obtain⟨g,k9⟩:=q;have hk9l:=Cn hO
  refine Y7 [.blk b2 (.cells #[.slice none 0 0,.slice none 0 0] 25)] [.blk b3 (.cells #[.slice sa sn sc,.slice ga gn gc] 25)] (.own (.slice ga gn gc) 77 15 (gs.map cG)::B3 bp a n c (k+1) e.Line e.Col::.own (.slice sa sn sc) 9 1 (A1 sel)::S) [] [39,40,41] [] [[],[],[],[1],[1],[1],[],[0,1]] [[],[0],[],[1],[1],[1],[],[0,1]] (by rw[List.append_nil];exact hw.ps [2,3]) ?_
  repeat(first|refine mY ?_|refine mP ?_|refine O0 ?_|refine W0 ?_|refine X6 ?_)
  refine X7 (c:=1) (T:=Unit) (T':={v:EN // k9≤n}) (vs:=[.pointer (some ⟨bp,0,none⟩)]) (fun v=>.agg (cG ⟨g,v.1.1,v.1.2.1,v.1.2.2⟩).toArray) (fun v=>.own (Ef v.1) 75 4 (g.Args.map enc)::B3 bp a n c k9 e.Line e.Col::.own (.slice ga gn gc) 77 15 (gs.map cG)::.own (.slice sa sn sc) 9 1 (A1 sel)::S) (R:=fun _=>.own (.slice ga gn gc) 77 15 (gs.map cG)::B3 bp a n c (k+1) e.Line e.Col::.own (.slice sa sn sc) 9 1 (A1 sel)::S) (fun _ Y w hw=>(MN hW hk9 hN ht1 (hw.ps [1]:Wd Γ1 (B3 bp a n c (k+1) e.Line e.Col::(.own (.slice ga gn gc) 77 15 (gs.map cG)::.own (.slice sa sn sc) 9 1 (A1 sel)::(S++Y))) w)).mono fun r w h=>by rw[hO]at h;obtain⟨v,h1,h2,h3⟩:=h;exact⟨⟨v,h2⟩,h1,h3⟩) ?_
  refine R2 (T:={v:EN // k9≤n}) (fun v=>[cG ⟨g,v.1.1,v.1.2.1,v.1.2.2⟩]) ?_ ?_
  rotate_left
  ·intro t gg h;have h2:gg 39=.agg (cG ⟨g,t.1.1,t.1.2.1,t.1.2.2⟩).toArray:=h
   show S1 _ _ [(0,gg 39)]=_
   rw[h2];rfl
  refine w5 (T:={v:EN // k9≤n} × Addr) (j:=3) (j2:=0) (fun t=>some t.2) (fun t=>[cG ⟨g,t.1.1.1,t.1.1.2.1,t.1.1.2.2⟩]) ?_ ?_
  rotate_left
  ·intro t g h;exact h.2
  refine W9 ?_;refine Y3 (T:=({v:EN // k9≤n} × Addr)×Value) (j:=3) (val:=fun t=>t.2) ?_ ?_
  rotate_left
  ·intro t g h;exact h.2
  refine v7 fun t w g' h hw=>?_
  obtain⟨⟨⟨⟨Ax,Nx,Cx⟩,hk9'⟩,aB⟩,vv⟩:=t;have hw:Wd Γ1 (.blk b3 (.cells #[.slice sa sn sc,vv] 25)::.own (.slice (some aB) 1 1) 77 15 [cG ⟨g,Ax,Nx,Cx⟩]::.own (.slice Ax Nx Cx) 75 4 (g.Args.map enc)::B3 bp a n c k9 e.Line e.Col::.own vv 77 15 (gs.map cG++[cG ⟨g,Ax,Nx,Cx⟩])::.own (.slice sa sn sc) 9 1 (A1 sel)::(S++[.blk b2 (.cells #[.slice none 0 0,.slice none 0 0] 25)])) w:=hw
  obtain⟨A2,N2,C2,hvv,hN2,hNC2,hC2⟩:=hw.own_shape (i:=4) rfl
  rw[hvv]at hw;obtain⟨Γ2,hle2,hfo,hw⟩:=Wd.freeze (hw.ps [2]:Wd Γ1 (.own (.slice Ax Nx Cx) 75 4 (g.Args.map enc)::.blk b3 (.cells #[.slice sa sn sc,.slice A2 N2 C2] 25)::.own (.slice (some aB) 1 1) 77 15 [cG ⟨g,Ax,Nx,Cx⟩]::B3 bp a n c k9 e.Line e.Col::.own (.slice A2 N2 C2) 77 15 (gs.map cG++[cG ⟨g,Ax,Nx,Cx⟩])::.own (.slice sa sn sc) 9 1 (A1 sel)::(S++[.blk b2 (.cells #[.slice none 0 0,.slice none 0 0] 25)])) w)
  have hw:Wd Γ2 (.own (.slice A2 N2 C2) 77 15 ((gs++[(⟨g,Ax,Nx,Cx⟩:E6)]).map cG)::B3 bp a n c k9 e.Line e.Col::.blk b3 (.cells #[.slice sa sn sc,.slice A2 N2 C2] 25)::.blk b2 (.cells #[.slice none 0 0,.slice none 0 0] 25)::.own (.slice sa sn sc) 9 1 (A1 sel)::S) w:=by
   rw[List.map_append];exact(hw.dropAt 1).perm L2
  have hok2:∀x∈gs++[(⟨g,Ax,Nx,Cx⟩:E6)],Eu Γ2 x:=fun x hx=>by
   rcases List.mem_append.1 hx with hx|hx
   ·exact(hok x hx).mono hle2
   ·rw[List.mem_singleton.1 hx];exact hfo
  refine A7 ?_;exact⟨n-k9,by omega,f',acc++[g],k9,Γ2,A2,N2,C2,_,by rw[←hf,hO];rfl,rfl,hk9',by omega,by rw[List.length_append];simp;omega,hle1.trans hle2,by rw[List.map_append,hgs];rfl,hok2,⟨rfl,rfl,rfl,trivial⟩,hw⟩
 | false=>
  rw[hi,if_neg (by decide)]at hw hf
  rw[←hf,Bc];unfold B3 at hw;refine A7 ?_;refine A0 rfl (fun h=>by cases h) (fun _=>?_)
  refine A7 ?_;refine H0 (by kernel_rfl) (by kernel_rfl) hw ?_
  refine Bt ?_;intro w hw;refine A0 rfl (fun h=>?_) (fun h=>?_)
  ·have h:k<toks.length:=by simp at h;omega
   rw[if_pos h];have hw:Wd Γ1 (B3 bp a n c k e.Line e.Col::.own (.slice ga gn gc) 77 15 (gs.map cG)::.blk b3 (.cells #[.slice sa sn sc,.slice ga gn gc] 25)::.blk b2 (.cells #[.slice none 0 0,.slice none 0 0] 25)::.own (.slice sa sn sc) 9 1 (A1 sel)::S) w:=hw
   refine A7 ?_;refine I0 ?_
   refine(BO 50 ht1 hw).mono ?_
   rintro r w ⟨rfl,hw⟩
   exact⟨Γ1,k,hle1,rfl,(((hw.dropAt 1).dropAt 1).dropAt 1).dropAt 1⟩
  ·have h:¬k<toks.length:=by simp at h;omega
   rw[if_neg h];have hw:Wd Γ1 (B3 bp a n c k e.Line e.Col::.own (.slice ga gn gc) 77 15 (gs.map cG)::.blk b3 (.cells #[.slice sa sn sc,.slice ga gn gc] 25)::.blk b2 (.cells #[.slice none 0 0,.slice none 0 0] 25)::.own (.slice sa sn sc) 9 1 (A1 sel)::S) w:=hw
   refine A7 ?_;refine A9 (i:=3) ?_
   intro w hw;have hw:Wd Γ1 (.blk b2 (.cells #[.slice sa sn sc,.slice ga gn gc] 25)::.own (.slice ga gn gc) 77 15 (gs.map cG)::.own (.slice sa sn sc) 9 1 (A1 sel)::B3 bp a n c k e.Line e.Col::.blk b3 (.cells #[.slice sa sn sc,.slice ga gn gc] 25)::S) w:=hw.ps [2,1,4,3,4]
   refine A7 ?_;refine⟨[.agg #[.slice sa sn sc,.slice ga gn gc]],⟨J2 (i:=0) hw rfl rfl rfl,trivial⟩,?_⟩
   obtain⟨Γ2,hle2,hg2,hw⟩:=hw.drop.freeze;obtain⟨Γ3,hle3,hs3,hw⟩:=hw.freeze;exact⟨Γ3,_,_,gs,hle1.trans (hle2.trans hle3),rfl,⟨hs3,hg2.mono hle3,hgs,fun x hx=>(hok x hx).mono (hle2.trans hle3)⟩,hw.ds [0,0]⟩
end
set_option maxHeartbeats 4000000
attribute [local irreducible] Calls
def Gm:List ByteArray:=[⟨#[60,61]⟩,⟨#[62,61]⟩,⟨#[33,61]⟩,⟨#[46,46]⟩,⟨#[45,62]⟩]
def l4:List ByteArray:=[⟨#[60,61]⟩,⟨#[62,61]⟩,⟨#[33,61]⟩,⟨#[46,46]⟩,⟨#[45,62]⟩,⟨#[123]⟩,⟨#[125]⟩,⟨#[40]⟩,⟨#[41]⟩,⟨#[91]⟩,⟨#[93]⟩,⟨#[44]⟩,⟨#[59]⟩,⟨#[58]⟩,⟨#[61]⟩,⟨#[60]⟩,⟨#[62]⟩,⟨#[33]⟩,⟨#[43]⟩,⟨#[45]⟩,⟨#[42]⟩,⟨#[63]⟩,⟨#[46]⟩,⟨#[47]⟩]
abbrev FP(l:List ByteArray):List (List Value):=l.map fun x=>[.string x]
theorem Mj{Γ:C4}{S:List B5}{w:World}(hw:Wd Γ S w) :
  Calls Tryz.prog 289 #[] w fun e w'=>∃v,e=.returned v∧Wd Γ (.own v 9 1 (FP l4)::S) w':=by
 refine A4 Tryz.func289 rfl rfl ?_
 repeat first|refine A5 ?_|refine A6 ?_;intro w hw
 refine E4 (FP l4) ?_
 intro a w hw;repeat first|refine A5 ?_|refine A6 ?_;intro w hw
 exact⟨_,rfl,_,rfl,hw⟩
def preB(s m:ByteArray):Bool:=decide (m.size≤s.size)&&decide (D7 s 0 m.size=m)
theorem one_byte{s:ByteArray}(h:1≤s.size):D7 s 0 1=⟨#[s.data.toList.getD 0 0]⟩:=by
 have hl:=K9 s
 apply N7
 rw[o0];match hb:H6 s with
 | []=>rw[hb]at hl;simp at hl;omega
 | x::r=>
  have:s.data.toList.getD 0 0=x:=by show (H6 s).getD 0 0=x;rw[hb];rfl
  rw[this];rfl
theorem Ho{s:ByteArray}:(Gm.any fun m=>preB s m)=decide (2≤s.size∧Dr (A3 s 0) (A3 s 1)=true):=by
 by_cases h:2≤s.size
 ·obtain⟨x,y,hx,hy,hxy⟩:=two_bytes h
  rw[hx,hy];have e:∀a b:UInt8,preB s ⟨#[a,b]⟩=(decide ((x.toNat:Int)=a.toNat)&&decide ((y.toNat:Int)=b.toNat)):=fun a b=>by
   unfold preB;show (decide (2≤s.size)&&decide (D7 s 0 2=⟨#[a,b]⟩))=_
   rw[hxy,decide_eq_true h,Bool.true_and,←Bool.decide_and,decide_eq_decide,v6];omega
  simp only[Gm,List.any_cons,List.any_nil,e,Bool.or_false]
  rw[Bool.eq_iff_iff];simp only[Dr,Bool.or_eq_true,Bool.and_eq_true,decide_eq_true_eq,h,true_and]
  show _∨_↔_
  constructor
  ·rintro (h|h|h|h|h) <;> simp_all
  ·rintro ((((h|h)|h)|h)|h) <;> simp_all
 ·have e:∀a b:UInt8,preB s ⟨#[a,b]⟩=false:=fun a b=>by
   unfold preB;show (decide (2≤s.size)&&_)=false
   rw[decide_eq_false h];rfl
  simp only[Gm,List.any_cons,List.any_nil,e]
  simp[h]
theorem Lz{s:ByteArray}{a:UInt8}:preB s ⟨#[a]⟩=decide (0<s.size∧s.data.toList.getD 0 0=a):=by
 unfold preB;show (decide (1≤s.size)&&decide (D7 s 0 1=⟨#[a]⟩))=_
 by_cases h:1≤s.size
 ·rw[one_byte h,decide_eq_true h,Bool.true_and,decide_eq_decide];have:0<s.size:=h
  simp[this]
 ·have h2:¬0<s.size:=h
  simp[h,h2]
theorem EQ:l4=Gm++OD.map fun a=>⟨#[a]⟩:=by decide +kernel
theorem KP{s:ByteArray}(h:∀m∈l4,preB s m=false):G4 s=0:=by
 rw[EQ]at h;have h2:(Gm.any fun m=>preB s m)=false:=by
  rw[List.any_eq_false];intro m hm;rw[h m (List.mem_append_left _ hm)];decide
 rw[Ho]at h2;unfold G4;rw[if_neg (of_decide_eq_false h2),if_neg];rintro⟨h3,h4⟩;have:=h _ (List.mem_append_right _ (List.mem_map_of_mem h4))
 rw[Lz]at this;exact of_decide_eq_false this ⟨h3,rfl⟩
theorem Oc{s m:ByteArray}{k:Nat}(hm:l4[k]? = some m)(hp:preB s m=true)(hn:∀j m',j<k→l4[j]? = some m'→preB s m'=false):G4 s=m.size:=by
 rw[EQ]at hm hn
 have hl:Gm.length=5:=rfl
 unfold G4;by_cases hk:k<5
 ·rw[List.getElem?_append_left (by omega)]at hm
  have hmem:=List.mem_of_getElem? hm
  have h2:(Gm.any fun m=>preB s m)=true:=List.any_eq_true.2 ⟨m,hmem,hp⟩
  rw[Ho]at h2;rw[if_pos (of_decide_eq_true h2)];have:∀x∈Gm,x.size=2:=by decide
  exact(this m hmem).symm
 ·have h2:(Gm.any fun m=>preB s m)=false:=by
   rw[List.any_eq_false];intro x hx;obtain⟨j,hj⟩:=List.getElem?_of_mem hx
   have hjl:=(List.getElem?_eq_some_iff.1 hj).1
   rw[hn j x (by omega) (by rw[List.getElem?_append_left (by omega)];exact hj)];decide
  rw[Ho]at h2;rw[if_neg (of_decide_eq_false h2)];rw[List.getElem?_append_right (by omega),List.getElem?_map]at hm
  cases hb:OD[k-Gm.length]? with
  | none=>rw[hb]at hm;cases hm
  | some a=>
   rw[hb]at hm;cases hm
   have hp:=of_decide_eq_true (Lz.symm.trans hp)
   rw[if_pos ⟨hp.1,by rw[hp.2];exact List.mem_of_getElem? hb⟩];rfl
theorem QT{Γ:C4}{S:List B5}{w:World}(s:ByteArray)(i:Nat)(hi:i<s.size)(hs:s.size≤4611686018427387904)(hw:Wd Γ S w) :
  Calls Tryz.prog 245 #[.string s,.int .i64 i] w fun e w'=>∃t:ByteArray,e=.returned (.string t)∧t.size=G4 (D7 s i s.size)∧Wd Γ S w':=by
 refine A4 Tryz.func245 rfl rfl ?_
 repeat first|refine A5 ?_|refine A6 ?_;intro w hw
 refine B9 ?_;refine(Mj hw).mono ?_
 clear hw;rintro e w ⟨v,rfl,hw⟩
 refine⟨_,rfl,?_⟩;obtain⟨a,n,c,rfl,hn,hm,hx⟩:=hw.own_shape (i:=0) rfl
 have hn:n=24:=hn
 subst hn;repeat first|refine A5 ?_|refine A6 ?_;intro w hw
 refine C1 (fun μ ρ w=>∃(k:Nat),μ+k=24∧(∀j m',j<k→l4[j]? = some m'→preB (D7 s i s.size) m'=false)∧Has ρ [(0,.string s),(1,.int .i64 i),(5,.slice a 24 c),(6,.int .i64 (k:Nat))]∧Wd Γ (.own (.slice a 24 c) 9 1 (FP l4)::S) w) 24 ⟨0,by omega,by simp,⟨rfl,rfl,rfl,rfl,trivial⟩,hw⟩ ?_
 clear hw;rintro μ ρ w ⟨k,hk,hj,hρ,hw⟩
 rw[hρ.eq];have hsz:(D7 s i s.size).size=s.size-i:=O7 (Nat.le_refl _)
 repeat first|refine A5 ?_|refine A6 ?_;intro w hw
 refine A0 rfl (fun h=>?_) (fun h=>?_)
 ·have hkn:k<24:=by have:=of_decide_eq_true h;omega
  obtain⟨m,hm⟩:=B8 (l:=l4) (k:=k) (by show k<24;omega)
  have hms:m.size≤2:=by
   have:∀x∈l4,x.size≤2:=by decide
   exact this m (List.mem_of_getElem? hm)
  have hrow:(FP l4)[k]? = some [.string m]:=by simp[FP,hm]
  have key:∀b:Bool,b=(decide ((m.size:Int)≤(s.size:Int)-i)&&decide (D7 s (i:Int).toNat ((i:Int)+m.size).toNat=m))→b=preB (D7 s i s.size) m:=fun b hb=>by
   rw[hb];unfold preB;by_cases h1:(m.size:Int)≤(s.size:Int)-i
   ·have h2:m.size≤(D7 s i s.size).size:=by omega
    rw[decide_eq_true h1,decide_eq_true h2,MB (by omega)]
    rfl
   ·have h2:¬m.size≤(D7 s i s.size).size:=by omega
    rw[decide_eq_false h1,decide_eq_false h2];rfl
  repeat first|refine A5 ?_|refine A6 ?_;intro w hw
  refine H0 (by kernel_rfl) (by kernel_rfl) hw ?_
  refine Bt ?_;intro w hw;refine A0 rfl (fun h2=>?_) (fun h2=>?_)
  ·have hp:preB (D7 s i s.size) m=true:=(key _ rfl).symm.trans h2
   repeat first|refine A5 ?_|refine A6 ?_;intro w hw
   exact⟨_,rfl,m,rfl,(Oc hm hp hj).symm,hw.drop⟩
  ·have hp:preB (D7 s i s.size) m=false:=(key _ rfl).symm.trans h2
   repeat first|refine A5 ?_|refine A6 ?_;intro w hw
   refine⟨μ-1,by omega,k+1,by omega,fun j m' hjk hm'=>?_,⟨rfl,rfl,rfl,rfl,trivial⟩,hw⟩
   rcases Nat.lt_succ_iff_lt_or_eq.1 hjk with hlt|rfl
   ·exact hj j m' hlt hm'
   ·rw[hm]at hm';cases hm';exact hp
 ·have hkn:k=24:=by have:=of_decide_eq_false h;omega
  have h0:G4 (D7 s i s.size)=0:=KP fun m hm=>by
   obtain⟨j,hj2⟩:=List.getElem?_of_mem hm
   exact hj j m (by have:=(List.getElem?_eq_some_iff.1 hj2).1;have e:l4.length=24:=rfl;omega) hj2
  repeat first|refine A5 ?_|refine A6 ?_;intro w hw
  exact⟨_,rfl,⟨#[]⟩,rfl,h0.symm,hw.drop⟩
end Go.Proofs.YtlmiakjbogojgaaGreatDoor
end
section
open Go Mk
namespace Go.Proofs.YtlmiakjbogojgaaGreatDoor
set_option maxHeartbeats 4000000
attribute [local irreducible] Calls G4 B0
def T6(t:ByteArray):Nat:=
 if F2 (A3 t 0)=true∨H2 (A3 t 0)=true then runN t
 else if A3 t 0=34 then (if R7 t<t.size∧A3 t (R7 t)=34 then R7 t+1 else 0)
 else G4 t
theorem Hq{k:IntKind}{a b:Int}(h:a=b):Ending.returned (.int k a)=Ending.returned (.int k b):=by rw[h]
theorem SD{Γ:C4}{S:List B5}{w:World}(s:ByteArray)(i:Nat)(hi:i<s.size)(hs:s.size≤4611686018427387904)(hw:Wd Γ S w) :
  Calls Tryz.prog 165 #[.string s,.int .i64 i] w fun e w'=>e=.returned (.int .i64 ((i+T6 (D7 s i s.size):Nat):Int))∧Wd Γ S w':=by
 refine A4 Tryz.func165 rfl rfl ?_
 have hsz:(D7 s i s.size).size=s.size-i:=O7 (Nat.le_refl _)
 have hby:∀j,i+j<s.size→A3 (D7 s i s.size) j=A3 s (i+j):=fun j hj=>FO hj
 have hgt:∀j,i+j<s.size→(D7 s i s.size).data.toList.getD j 0=s.data.toList.getD (i+j) 0:=fun j hj=>by
  have:=hby j hj
  unfold A3 at this;exact UInt8.toNat_inj.1 (by omega)
 have hlen:=W5 (D7 s i s.size)
 have hb0:A3 (D7 s i s.size) 0=A3 s i:=by simpa using hby 0 (by omega)
 obtain⟨t,ht⟩:∃t,t=D7 s i s.size:=⟨_,rfl⟩
 rw[←ht]at hsz hby hgt hlen hb0 ⊢
 repeat first|refine A5 ?_|refine A6 ?_;intro w hw
 refine A0 rfl (fun h=>?_) (fun h=>?_)
 ·have h:F2 (A3 t 0)=true∨H2 (A3 t 0)=true:=by
   rw[hb0];have h':(F2 (A3 s i)||H2 (A3 s i))=true:=h
   simpa using h'
  have hE:T6 t=runN t:=by unfold T6;rw[if_pos h]
  rw[hE];repeat first|refine A5 ?_|refine A6 ?_;intro w hw
  refine C1 (fun μ ρ w=>∃(k:Nat),μ+(i+k)=s.size∧(∀j,j<k→O6 (t.data.toList.getD j 0)=true)∧Has ρ [(0,.string s),(5,.int .i64 ((i+k:Nat):Int))]∧Wd Γ S w) (s.size-i) ⟨0,by omega,by simp,⟨rfl,rfl,trivial⟩,hw⟩ ?_
  clear hw h;rintro μ ρ w ⟨k,hk,hall,hρ,hw⟩
  rw[hρ.eq];repeat first|refine A5 ?_|refine A6 ?_;intro w hw
  refine A0 rfl (fun h=>?_) (fun h=>?_)
  ·have h':=H4 h
   simp only[decide_eq_true_eq]at h'
   have h2:O6 (s.data.toList.getD (i+k) 0)=true:=T9 h
   repeat first|refine A5 ?_|refine A6 ?_;intro w hw
   refine⟨μ-1,by omega,k+1,by omega,fun j hj=>?_,⟨rfl,by push_cast;rfl,trivial⟩,hw⟩
   by_cases e:j=k
   ·subst e;rw[hgt j (by omega)];exact h2
   ·exact hall j (by omega)
  ·have hr:=U8 (p:=O6) (l:=t.data.toList) (k:=k) (by omega) hall (fun hk'=>by
    rw[hgt k (by omega)]
    rw[show decide (((i+k:Nat):Int)<(s.size:Int))=true from by simp;omega]at h
    exact h)
   repeat first|refine A5 ?_|refine A6 ?_;intro w hw
   refine⟨_,rfl,Hq ?_,hw⟩
   show ((i+k:Nat):Int)=_
   unfold runN;rw[hr]
 have h1:¬(F2 (A3 t 0)=true∨H2 (A3 t 0)=true):=by
  rw[hb0];have h':(F2 (A3 s i)||H2 (A3 s i))=false:=h
  simpa using h'
 repeat first|refine A5 ?_|refine A6 ?_;intro w hw
 refine A0 rfl (fun h2=>?_) (fun h2=>?_)
 ·have h2:A3 t 0=34:=by rw[hb0];exact of_decide_eq_true h2
  have hE:T6 t=if R7 t<t.size∧A3 t (R7 t)=34 then R7 t+1 else 0:=by unfold T6;rw[if_neg h1,if_pos h2]
  repeat first|refine A5 ?_|refine A6 ?_;intro w hw
  refine C1 (fun μ ρ w=>∃(k:Nat),1≤k∧μ+(i+k)=s.size∧(∀j,1≤j→j<k→W3 (A3 t j)=true)∧Has ρ [(0,.string s),(1,.int .i64 i),(5,.int .i64 ((i+k:Nat):Int))]∧Wd Γ S w) (s.size-i-1) ⟨1,by omega,by omega,fun j h1 h2=>by omega,⟨rfl,rfl,by push_cast;rfl,trivial⟩,hw⟩ ?_
  clear hw h;rintro μ ρ w ⟨k,hk1,hk,hall,hρ,hw⟩
  rw[hρ.eq];repeat first|refine A5 ?_|refine A6 ?_;intro w hw
  refine A0 rfl (fun h=>?_) (fun h=>?_)
  ·have h':=H4 h
   simp only[decide_eq_true_eq]at h'
   have h3:W3 (A3 s (i+k))=true:=T9 h
   repeat first|refine A5 ?_|refine A6 ?_;intro w hw
   refine⟨μ-1,by omega,k+1,by omega,by omega,fun j hj1 hj=>?_,⟨rfl,rfl,by push_cast;rfl,trivial⟩,hw⟩
   by_cases e:j=k
   ·subst e;rw[hby j (by omega)];exact h3
   ·exact hall j hj1 (by omega)
  ·have hr:=Lg (s:=t) (k:=k) hk1 (by omega) hall (fun hk'=>by
    rw[hby k (by omega)]
    rw[show decide (((i+k:Nat):Int)<(s.size:Int))=true from by simp;omega]at h
    exact h)
   rw[hr]at hE;repeat first|refine A5 ?_|refine A6 ?_;intro w hw
   refine A0 rfl (fun h3=>?_) (fun h3=>?_)
   ·have h3':=H4 h3
    simp only[decide_eq_true_eq]at h3'
    have h4:A3 s (i+k)=34:=of_decide_eq_true (T9 h3)
    rw[if_pos ⟨by omega,by rw[hby k (by omega)];exact h4⟩]at hE
    repeat first|refine A5 ?_|refine A6 ?_;intro w hw
    refine⟨_,rfl,Hq ?_,hw⟩
    rw[hE];push_cast;omega
   ·rw[if_neg (fun hh=>by
     rw[hby k (by omega)]at hh
     have q:(decide (((i+k:Nat):Int)<(s.size:Int))&&decide (A3 s (i+k)=34))=true:=by
      simp only[Bool.and_eq_true,decide_eq_true_eq]
      exact⟨by omega,hh.2⟩
     exact absurd (q.symm.trans h3) (by decide))]at hE
    repeat first|refine A5 ?_|refine A6 ?_;intro w hw
    refine⟨_,rfl,Hq ?_,hw⟩
    rw[hE];rfl
 have h2:¬A3 t 0=34:=by rw[hb0];exact of_decide_eq_false h2
 have hE:T6 t=G4 t:=by unfold T6;rw[if_neg h1,if_neg h2]
 repeat first|refine A5 ?_|refine A6 ?_;intro w hw
 refine B9 ?_;refine(QT s i hi hs hw).mono ?_
 clear hw;rintro e w ⟨m,rfl,hm,hw⟩
 refine⟨_,rfl,?_⟩;rw[←ht]at hm;have hp:=Bg t
 repeat first|refine A5 ?_|refine A6 ?_;intro w hw
 refine⟨_,rfl,Hq ?_,hw⟩
 rw[hE,hm];push_cast;rfl
theorem TP{Γ:C4}{S:List B5}{w:World}(s:ByteArray)(n:Nat)(hn:n≤s.size)(hs:s.size≤4611686018427387904)(hw:Wd Γ S w) :
  Calls Tryz.prog 96 #[.string s,.int .i64 n] w fun e w'=>e=.returned (.agg (enc (B0 s n)).toArray)∧Wd Γ S w':=by
 refine F1 Tryz.func96 rfl rfl ?_
 repeat first|refine A5 ?_|refine A6 ?_;intro w hw
 refine B7 ?_;intro b1 w hw;repeat first|refine A5 ?_|refine A6 ?_;intro w hw
 refine B7 ?_;intro b2 w hw;refine A9 ?_;intro w hw;have p0:B0 s 0=⟨1,1⟩:=by unfold B0;rfl
 have hw:Wd Γ (.blk b2 (.cells (enc (B0 s 0)).toArray 29)::.blk b1 (.cells (enc (⟨0,0⟩:C8)).toArray 29)::S) w:=by rw[p0];exact hw
 repeat first|refine A5 ?_|refine A6 ?_;intro w hw
 refine C1 (fun μ ρ w=>∃(k:Nat),μ+k=n∧(B0 s k).Line≤1+k∧(B0 s k).Col≤1+k∧0≤(B0 s k).Line∧0≤(B0 s k).Col∧Has ρ [(0,.string s),(1,.int .i64 n),(4,.pointer (some ⟨b1,0,none⟩)),(5,.pointer (some ⟨b2,0,none⟩)),(6,.int .i64 (k:Nat))]∧Wd Γ (.blk b2 (.cells (enc (B0 s k)).toArray 29)::.blk b1 (.cells (enc (⟨0,0⟩:C8)).toArray 29)::S) w) n ⟨0,by omega,by rw[p0];decide,by rw[p0];decide,by rw[p0];decide,by rw[p0];decide,⟨rfl,rfl,rfl,rfl,rfl,trivial⟩,hw⟩ ?_
 clear hw;rintro μ ρ w ⟨k,hk,hl,hc,hl0,hc0,hρ,hw⟩
 rw[hρ.eq];repeat first|refine A5 ?_|refine A6 ?_;intro w hw
 refine A0 rfl (fun h=>?_) (fun h=>?_)
 ·have h':=H4 h
  simp only[decide_eq_true_eq]at h'
  have hp1:A3 s k≠10→B0 s (k+1)=⟨(B0 s k).Line,(B0 s k).Col+1⟩:=fun q=>by
   have:=W1 (s:=s) (off:=k) 1 (fun i hi=>by rw[show k+i=k from by omega];exact q)
   simpa using this
  have hp2:A3 s k=10→B0 s (k+1)=⟨(B0 s k).Line+1,1⟩:=BV
  repeat first|refine A5 ?_|refine A6 ?_;intro w hw
  refine A9 ?_;intro w hw;have hw:Wd Γ (.blk b2 (.cells #[.int .i64 (B0 s k).Line,.int .i64 ((B0 s k).Col+1)] 29)::.blk b1 (.cells (enc (⟨0,0⟩:C8)).toArray 29)::S) w:=hw
  repeat first|refine A5 ?_|refine A6 ?_;intro w hw
  refine A0 rfl (fun h2=>?_) (fun h2=>?_)
  ·have h2:A3 s k=10:=of_decide_eq_true h2
   repeat first|refine A5 ?_|refine A6 ?_;intro w hw
   refine A9 ?_;intro w hw;have hw:Wd Γ (.blk b2 (.cells (enc (B0 s (k+1))).toArray 29)::.blk b1 (.cells (enc (⟨0,0⟩:C8)).toArray 29)::S) w:=by rw[hp2 h2];exact hw
   repeat first|refine A5 ?_|refine A6 ?_;intro w hw
   exact⟨μ-1,by omega,k+1,by omega,by rw[hp2 h2];dsimp;omega,by rw[hp2 h2];dsimp;omega,by rw[hp2 h2];dsimp;omega,by rw[hp2 h2];dsimp;omega,⟨rfl,rfl,rfl,rfl,rfl,trivial⟩,hw⟩
  ·have h2:¬A3 s k=10:=of_decide_eq_false h2
   have hw:Wd Γ (.blk b2 (.cells (enc (B0 s (k+1))).toArray 29)::.blk b1 (.cells (enc (⟨0,0⟩:C8)).toArray 29)::S) w:=by rw[hp1 h2];exact hw
   repeat first|refine A5 ?_|refine A6 ?_;intro w hw
   exact⟨μ-1,by omega,k+1,by omega,by rw[hp1 h2];dsimp;omega,by rw[hp1 h2];dsimp;omega,by rw[hp1 h2];dsimp;omega,by rw[hp1 h2];dsimp;omega,⟨rfl,rfl,rfl,rfl,rfl,trivial⟩,hw⟩
 ·have hkn:k=n:=by
   have q:¬(k<n):=fun hh=>by
    have q:(decide ((k:Int)<n)&&decide ((k:Int)<s.size))=true:=by
     simp only[Bool.and_eq_true,decide_eq_true_eq];omega
    exact absurd (q.symm.trans h) (by decide)
   omega
  rw[hkn]at hw;repeat first|refine A5 ?_|refine A6 ?_;intro w hw
  refine A9 ?_;intro w hw;have hw:Wd Γ (.blk b2 (.cells (enc (B0 s n)).toArray 29)::.blk b1 (.cells (enc (B0 s n)).toArray 29)::S) w:=hw
  repeat first|refine A5 ?_|refine A6 ?_;intro w hw
  exact⟨[.agg (enc (B0 s n)).toArray],⟨J2 (i:=1) hw rfl rfl rfl,trivial⟩,rfl,hw.drop.drop⟩
end Go.Proofs.YtlmiakjbogojgaaGreatDoor
end
section
open Go Mk
namespace Go.Proofs.YtlmiakjbogojgaaGreatDoor
set_option maxHeartbeats 8000000
attribute [local irreducible] Calls y9 G4 J1 B0 AQ T6
theorem Ry(t:ByteArray):T6 t≤t.size:=by
 unfold T6;split
 ·exact IQ t
 ·split
  ·split
   ·rename_i h;omega
   ·omega
  ·exact Bg t
theorem Pi{t:ByteArray}(h0:0<t.size)(h:T6 t=0):(J1 t).err=50:=by
 unfold T6 at h;unfold J1;by_cases h1:F2 (A3 t 0)=true
 ·rw[if_pos (.inl h1)]at h;have:O6 (t.data.toList.getD 0 0)=true:=by show (F2 (A3 t 0)||_)=true;rw[h1];rfl
  have:=BB h0 this
  omega
 ·by_cases h2:H2 (A3 t 0)=true
  ·rw[if_pos (.inr h2)]at h;have:O6 (t.data.toList.getD 0 0)=true:=by show (_||H2 (A3 t 0))=true;rw[h2,Bool.or_true]
   have:=BB h0 this
   omega
  ·rw[if_neg (by rintro (q|q) <;> contradiction)]at h
   rw[if_neg h1,if_neg h2];by_cases h3:A3 t 0=34
   ·rw[if_pos h3]at h ⊢
    by_cases h4:R7 t<t.size∧A3 t (R7 t)=34
    ·rw[if_pos h4]at h;omega
    ·rw[if_neg h4];rfl
   ·rw[if_neg h3]at h ⊢
    rw[if_pos h];rfl
theorem Lc{t:ByteArray}(h:F2 (A3 t 0)=true∨H2 (A3 t 0)=true):T6 t=runN t:=by unfold T6;rw[if_pos h]
theorem Lm{t:ByteArray}(h1:¬F2 (A3 t 0)=true)(h2:¬H2 (A3 t 0)=true)(h:A3 t 0=34):T6 t=if R7 t<t.size∧A3 t (R7 t)=34 then R7 t+1 else 0:=by
 unfold T6;rw[if_neg (fun q=>q.elim h1 h2),if_pos h]
theorem Tt{t:ByteArray}(h1:¬F2 (A3 t 0)=true)(h2:¬H2 (A3 t 0)=true)(h:¬A3 t 0=34):T6 t=G4 t:=by
 unfold T6;rw[if_neg (fun q=>q.elim h1 h2),if_neg h]
theorem RF{t:ByteArray}(h:F2 (A3 t 0)=true):J1 t=⟨1,D7 t 0 (T6 t),0,T6 t,0⟩:=by
 rw[Lc (.inl h)];unfold J1;rw[if_pos h]
theorem Re{t:ByteArray}(h1:¬F2 (A3 t 0)=true)(h:H2 (A3 t 0)=true):J1 t=if (y9 (D7 t 0 (T6 t))).2=0 then ⟨2,⟨#[]⟩,(y9 (D7 t 0 (T6 t))).1,T6 t,0⟩ else BJ (y9 (D7 t 0 (T6 t))).2:=by
 rw[Lc (.inr h)];unfold J1;rw[if_neg h1,if_pos h]
theorem SE{t:ByteArray}(h1:¬F2 (A3 t 0)=true)(h2:¬H2 (A3 t 0)=true)(h:A3 t 0=34)(he:T6 t≠0):J1 t=⟨3,D7 t 1 (T6 t-1),0,T6 t,0⟩:=by
 rw[Lm h1 h2 h]at he ⊢
 unfold J1;rw[if_neg h1,if_neg h2,if_pos h];by_cases h4:R7 t<t.size∧A3 t (R7 t)=34
 ·rw[if_pos h4,if_pos h4];rfl
 ·rw[if_neg h4]at he;exact absurd rfl he
theorem Qv{t:ByteArray}(h1:¬F2 (A3 t 0)=true)(h2:¬H2 (A3 t 0)=true)(h3:¬A3 t 0=34)(he:T6 t≠0):J1 t=⟨4,D7 t 0 (T6 t),0,T6 t,0⟩:=by
 rw[Tt h1 h2 h3]at he ⊢
 unfold J1;rw[if_neg h1,if_neg h2,if_neg h3,if_neg he]
theorem PD:¬F2 34=true∧¬H2 34=true:=by decide
theorem Nb(Γ:C4)(S:List B5)(w:World)(s:ByteArray)(hs:s.size≤4611686018427387904)(hw:Wd Γ S w) :
  Calls Tryz.prog 95 #[.string s] w fun e w'=>∃v,e=.returned (.tuple #[v,.agg (enc (C7 s).2.1).toArray,.int .i64 (C7 s).2.2])∧Wd Γ (.own v 102 5 ((C7 s).1.map enc)::S) w':=by
 refine F1 Tryz.func95 rfl rfl ?_
 repeat first|refine A5 ?_|refine A6 ?_;intro w hw
 refine B7 ?_;intro b3 w hw;have hw:Wd Γ (.blk b3 (.cells (enc (⟨0,0⟩:C8)).toArray 29)::S) w:=hw
 repeat first|refine A5 ?_|refine A6 ?_;intro w hw
 refine A0 rfl (fun h=>?_) (fun h=>?_)
 ·have h:65536<s.size:=by simp at h;omega
  have hS:C7 s=([],⟨0,0⟩,15):=by unfold C7;rw[if_pos h]
  rw[hS];repeat first|refine A5 ?_|refine A6 ?_;intro w hw
  refine A9 ?_;intro w hw;have hw:Wd Γ (.blk b3 (.cells (enc (⟨0,0⟩:C8)).toArray 29)::S) w:=hw
  repeat first|refine A5 ?_|refine A6 ?_;intro w hw
  exact⟨[.slice none 0 0,.agg (enc (⟨0,0⟩:C8)).toArray,.int .i64 15],⟨rfl,J2 (i:=0) hw rfl rfl rfl,rfl,trivial⟩,_,rfl,Wd.addNil hw.drop⟩
 have h:¬65536<s.size:=by simp at h;omega
 have hS:C7 s=O4 s (s.size+1) 0 []:=by unfold C7;rw[if_neg h]
 rw[hS];clear hS;repeat first|refine A5 ?_|refine A6 ?_;intro w hw
 refine B7 ?_;intro b6 w hw;refine A9 ?_;intro w hw;have p0:B0 s 0=⟨1,1⟩:=by unfold B0;rfl
 have hw:Wd Γ (.blk b6 (.cells (enc (B0 s 0)).toArray 29)::.blk b3 (.cells (enc (⟨0,0⟩:C8)).toArray 29)::S) w:=by rw[p0];exact hw
 repeat first|refine A5 ?_|refine A6 ?_;intro w hw
 refine C1 (fun μ ρ w=>∃(i:Nat) (g:Value) (toks:List Tok),i≤s.size∧s.size<μ+i∧(B0 s i).Line≤1+i∧(B0 s i).Col≤1+i∧0≤(B0 s i).Line∧0≤(B0 s i).Col∧toks.length≤i∧O4 s (s.size+1) 0 []=O4 s μ i toks∧Has ρ [(0,.string s),(3,.pointer (some ⟨b3,0,none⟩)),(5,g),(6,.pointer (some ⟨b6,0,none⟩)),(7,.int .i64 i)]∧Wd Γ (.own g 102 5 (toks.map enc)::.blk b6 (.cells (enc (B0 s i)).toArray 29)::.blk b3 (.cells (enc (⟨0,0⟩:C8)).toArray 29)::S) w) (s.size+1) ?_ ?_
 ·exact⟨0,.slice none 0 0,[],by omega,by omega,by rw[p0];decide,by rw[p0];decide,by rw[p0];decide,by rw[p0];decide,by simp,rfl,⟨rfl,rfl,rfl,rfl,rfl,trivial⟩,Wd.addNil hw⟩
 clear hw;rintro μ ρ w ⟨i,g,toks,ho,hμ,hl1,hc1,hl0,hc0,htl,hN,hρ,hw⟩
 rw[hρ.eq];obtain⟨f,rfl⟩:∃f,μ=f+1:=⟨μ-1,by omega⟩
 rw[hN];clear hN hρ;repeat first|refine A5 ?_|refine A6 ?_;intro w hw
 refine A0 rfl (fun h1=>?_) (fun h1=>?_)
 ·have hi:i<s.size:=by simpa using h1
  have hsz:(D7 s i s.size).size=s.size-i:=O7 (Nat.le_refl _)
  have hb0:A3 (D7 s i s.size) 0=A3 s i:=by have:=FO (s:=s) (a:=i) (b:=s.size) (j:=0) (by omega);simpa using this
  have hee:=Ry (D7 s i s.size)
  repeat first|refine A5 ?_|refine A6 ?_;intro w hw
  refine J6 (fun ρ w=>∃(k:Nat) (g:Value) (toks':List Tok),i<k∧k≤s.size∧toks'.length≤i+1∧O4 s (f+1) i toks=O4 s f k toks'∧Has ρ [(0,.string s),(3,.pointer (some ⟨b3,0,none⟩)),(5,g),(6,.pointer (some ⟨b6,0,none⟩)),(7,.int .i64 i),(9,.int .i64 k)]∧Wd Γ (.own g 102 5 (toks'.map enc)::.blk b6 (.cells (enc (B0 s i)).toArray 29)::.blk b3 (.cells (enc (⟨0,0⟩:C8)).toArray 29)::S) w) ?_ ?_
  ·refine A0 rfl (fun h2=>?_) (fun h2=>?_)
   ·have h2:A3 s i=35:=of_decide_eq_true h2
    have hsk:O4 s (f+1) i toks=O4 s f (AQ s i) toks:=by
     show (if s.size≤i then _ else _)=_
     rw[if_neg (by omega),if_neg (by rw[h2];decide),if_pos h2]
    repeat first|refine A5 ?_|refine A6 ?_;intro w hw
    refine C1 (fun μ ρ w=>∃k:Nat,μ+k=s.size∧i<k∧Has ρ [(0,.string s),(3,.pointer (some ⟨b3,0,none⟩)),(5,g),(6,.pointer (some ⟨b6,0,none⟩)),(7,.int .i64 i),(9,.int .i64 k)]∧(∀j,i≤j→j<k→A3 s j≠10)∧Wd Γ (.own g 102 5 (toks.map enc)::.blk b6 (.cells (enc (B0 s i)).toArray 29)::.blk b3 (.cells (enc (⟨0,0⟩:C8)).toArray 29)::S) w) (s.size-(i+1)) ⟨i+1,by omega,by omega,⟨rfl,rfl,rfl,rfl,rfl,by push_cast;rfl,trivial⟩,fun j q1 q2=>by (have:j=i:=by omega);subst this;rw[h2];decide,hw⟩ ?_
    clear hw;rintro μ2 ρ w ⟨k,hk,hk1,hρ,hall,hw⟩
    rw[hρ.eq];repeat first|refine A5 ?_|refine A6 ?_;intro w hw
    refine A0 rfl (fun h4=>?_) (fun h4=>?_)
    ·have h4:k<s.size∧A3 s k≠10:=by
      rw[Bool.and_eq_true,decide_eq_true_eq]at h4;exact⟨by omega,of_decide_eq_true h4.2⟩
     have hkl:=h4.1
     repeat first|refine A5 ?_|refine A6 ?_;intro w hw
     refine⟨μ2-1,by omega,k+1,by omega,by omega,⟨rfl,rfl,rfl,rfl,rfl,rfl,trivial⟩,fun j q1 q2=>?_,hw⟩
     by_cases e:j=k
     ·subst e;exact h4.2
     ·exact hall j q1 (by omega)
    ·have hend:k<s.size→A3 s k=10:=fun hlt=>by
      have q1:decide ((k:Int)<s.size)=true:=by simp;omega
      rw[q1,Bool.true_and]at h4;have:=of_decide_eq_false h4
      exact Classical.not_not.1 this
     have hks:AQ s i=k:=Ji (by omega) (by omega) hall hend
     repeat first|refine A5 ?_|refine A6 ?_;intro w hw
     exact⟨k,g,toks,by omega,by omega,by omega,by rw[hsk,hks],⟨rfl,rfl,rfl,rfl,rfl,rfl,trivial⟩,hw⟩
   have h2:A3 s i≠35:=of_decide_eq_false h2
   repeat first|refine A5 ?_|refine A6 ?_;intro w hw
   refine A0 rfl (fun h3=>?_) (fun h3=>?_)
   rotate_left
   ·have hsp:BR (A3 s i)=true:=by
     unfold BR;have h3:(decide (A3 s i≠32)&&decide (A3 s i≠9)&&decide (A3 s i≠10)&&decide (A3 s i≠13))=false:=h3
     by_cases q1:A3 s i=32 <;> by_cases q2:A3 s i=9 <;> by_cases q3:A3 s i=10 <;> by_cases q4:A3 s i=13 <;> simp_all
    repeat first|refine A5 ?_|refine A6 ?_;intro w hw
    refine⟨i+1,g,toks,by omega,by omega,by omega,?_,⟨rfl,rfl,rfl,rfl,rfl,by push_cast;rfl,trivial⟩,hw⟩
    show (if s.size≤i then _ else _)=_
    rw[if_neg (by omega),if_pos hsp]
   have hns:¬BR (A3 s i)=true:=by
    have h3:(decide (A3 s i≠32)&&decide (A3 s i≠9)&&decide (A3 s i≠10)&&decide (A3 s i≠13))=true:=h3
    unfold BR;simp only[Bool.and_eq_true,decide_eq_true_eq]at h3
    simp[h3]
   have hstep:O4 s (f+1) i toks=if (J1 (D7 s i s.size)).err=0 then O4 s f (i+(J1 (D7 s i s.size)).n) (toks++[⟨(J1 (D7 s i s.size)).kind,(J1 (D7 s i s.size)).text,(J1 (D7 s i s.size)).value,(B0 s i).Line,(B0 s i).Col⟩]) else ([],B0 s i,(J1 (D7 s i s.size)).err):=by
    show (if s.size≤i then _ else _)=_
    rw[if_neg (by omega),if_neg hns,if_neg h2]
   rw[hstep];clear hstep h3;repeat first|refine A5 ?_|refine A6 ?_;intro w hw
   refine B9 ?_;refine(SD s i hi hs hw).mono ?_
   clear hw;rintro e w ⟨rfl,hw⟩
   refine⟨_,rfl,?_⟩;obtain⟨t,ht⟩:∃t,t=D7 s i s.size:=⟨_,rfl⟩
   rw[←ht]at hsz hb0 hee ⊢
   have hsub:∀c d,c≤d→i+d≤s.size→D7 t c d=D7 s (i+c) (i+d):=fun c d _ h2=>by rw[ht];exact MB h2
   repeat first|refine A5 ?_|refine A6 ?_;intro w hw
   refine A0 rfl (fun h4=>?_) (fun h4=>?_)
   ·have h4:T6 t=0:=by have:=of_decide_eq_true h4;omega
    have hE:=Pi (t:=t) (by omega) h4
    rw[hE,if_neg (by decide)]
    repeat first|refine A5 ?_|refine A6 ?_;intro w hw
    refine p8 [.own _ _ _ _,.blk b6 _] (.blk b3 _::S) [] [[],[],[0],[]] hw ?_
    refine W9 ?_;refine V9 (φ:=fun (_:Unit) _=>True) (R:=fun _=>.blk b3 (.cells (enc (⟨0,0⟩:C8)).toArray 29)::S) (v:=undef) (T':=Unit) (fun _ _=>True) (fun _=>.blk b3 (.cells (enc (B0 s i)).toArray 29)::S) (fun t' g w Y _ hw=>X4 (i:=0) (inferInstance:Ly Tryz.prog 29 2).h hw rfl (v:=.agg (enc (B0 s i)).toArray) rfl (vs:=enc (B0 s i)) rfl rfl (fun u hu=>(List.all_eq_true.1 (Ag (B0 s i))) u hu) rfl (Nat.le_of_ble_eq_true rfl) fun w' hw'=>⟨(),trivial,fun _=>rfl,hw'⟩) ?_
    refine W9 ?_;refine Al fun t' w g _ hw=>?_
    have hw:Wd Γ (.blk b3 (.cells (enc (B0 s i)).toArray 29)::S) w:=Wd.left (S:=.blk b3 _::S) hw
    repeat first|refine A5 ?_|refine A6 ?_;intro w hw
    exact⟨[.slice none 0 0,.agg (enc (B0 s i)).toArray,.int .i64 50],⟨rfl,J2 (i:=0) hw rfl rfl rfl,rfl,trivial⟩,_,rfl,Wd.addNil hw.drop⟩
   have h4:T6 t≠0:=by have:=of_decide_eq_false h4;omega
   obtain⟨kk,hkk⟩:∃kk,kk=T6 t:=⟨_,rfl⟩
   rw[←hkk]at h4 hee ⊢
   repeat first|refine A5 ?_|refine A6 ?_;intro w hw
   refine Dx 1 [[],[],[],[],[],[],[0],[0]] [[],[],[],[],[],[],[0],[0]] [[10]] ?_
   repeat(first|refine mY ?_|refine mP ?_|refine O0 ?_|refine W0 ?_|refine X6 ?_)
   refine mY (v:=.agg #[.int .i64 4,.string (D7 s i (i+kk)),.int .u64 0,.int .i64 (B0 s i).Line,.int .i64 (B0 s i).Col]) ?_ (hy:=fun Y w g hw=>IF rfl)
   refine Ce ?_
   refine o5 ?_
   repeat(first|refine mY ?_|refine mP ?_|refine O0 ?_|refine W0 ?_|refine X6 ?_)
   intro b10 w hw;have hw:Wd Γ (.blk b10 (.cells #[.int .i64 4,.string (D7 s i (i+kk)),.int .u64 0,.int .i64 (B0 s i).Line,.int .i64 (B0 s i).Col] 102)::.own g 102 5 (toks.map enc)::.blk b6 (.cells (enc (B0 s i)).toArray 29)::.blk b3 (.cells (enc (⟨0,0⟩:C8)).toArray 29)::S) w:=hw
   have hb34:=PD
   repeat first|refine A5 ?_|refine A6 ?_;intro w hw
   refine FZ (fun ρ w=>∃tk:Tok,(J1 t).err=0∧tk=⟨(J1 t).kind,(J1 t).text,(J1 t).value,(B0 s i).Line,(B0 s i).Col⟩∧(J1 t).n=kk∧Has ρ [(0,.string s),(3,.pointer (some ⟨b3,0,none⟩)),(5,g),(6,.pointer (some ⟨b6,0,none⟩)),(7,.int .i64 i),(9,.int .i64 ((i+kk:Nat):Int)),(10,.pointer (some ⟨b10,0,none⟩))]∧Wd Γ (.blk b10 (.cells (enc tk).toArray 102)::.own g 102 5 (toks.map enc)::.blk b6 (.cells (enc (B0 s i)).toArray 29)::.blk b3 (.cells (enc (⟨0,0⟩:C8)).toArray 29)::S) w) ?_ ?_
   ·refine A0 rfl (fun h5=>?_) (fun h5=>?_)
    ·have hT:=RF (t:=t) (by rw[hb0];exact h5)
     rw[←hkk,hsub 0 kk (by omega) (by omega)]at hT
     repeat first|refine A5 ?_|refine A6 ?_;intro w hw
     refine A9 ?_;intro w hw;have hw:Wd Γ (.blk b10 (.cells #[.int .i64 1,.string (D7 s i (i+kk)),.int .u64 0,.int .i64 (B0 s i).Line,.int .i64 (B0 s i).Col] 102)::.own g 102 5 (toks.map enc)::.blk b6 (.cells (enc (B0 s i)).toArray 29)::.blk b3 (.cells (enc (⟨0,0⟩:C8)).toArray 29)::S) w:=hw
     repeat first|refine A5 ?_|refine A6 ?_;intro w hw
     rw[hT];exact⟨⟨1,D7 s i (i+kk),0,(B0 s i).Line,(B0 s i).Col⟩,rfl,rfl,rfl,⟨rfl,rfl,rfl,rfl,rfl,rfl,rfl,trivial⟩,hw⟩
    have h5:¬F2 (A3 t 0)=true:=by
     rw[hb0];have h5:F2 (A3 s i)=false:=h5
     rw[h5];decide
    repeat first|refine A5 ?_|refine A6 ?_;intro w hw
    refine A0 rfl (fun h6=>?_) (fun h6=>?_)
    ·have h6:A3 t 0=34:=by rw[hb0];exact of_decide_eq_true h6
     have hT:=SE h5 (by rw[h6];exact hb34.2) h6 (by rw[←hkk];exact h4)
     have hE:=Lm h5 (by rw[h6];exact hb34.2) h6
     have hk2:2≤kk:=by
      have h1s:1≤R7 t:=by unfold R7;omega
      rw[hkk]at h4 ⊢
      rw[hE]at h4 ⊢
      split
      ·omega
      ·rename_i q;rw[if_neg q]at h4;omega
     rw[←hkk,hsub 1 (kk-1) (by omega) (by omega)]at hT
     repeat first|refine A5 ?_|refine A6 ?_;intro w hw
     refine A9 ?_;intro w hw;have hw:Wd Γ (.blk b10 (.cells #[.int .i64 3,.string (D7 s i (i+kk)),.int .u64 0,.int .i64 (B0 s i).Line,.int .i64 (B0 s i).Col] 102)::.own g 102 5 (toks.map enc)::.blk b6 (.cells (enc (B0 s i)).toArray 29)::.blk b3 (.cells (enc (⟨0,0⟩:C8)).toArray 29)::S) w:=hw
     repeat first|refine A5 ?_|refine A6 ?_;intro w hw
     refine A9 ?_;intro w hw;rw[show ((i:Int)+1).toNat=i+1 from by omega,show (((i+kk:Nat):Int)-1).toNat=i+(kk-1) from by omega]at hw
     have hw:Wd Γ (.blk b10 (.cells #[.int .i64 3,.string (D7 s (i+1) (i+(kk-1))),.int .u64 0,.int .i64 (B0 s i).Line,.int .i64 (B0 s i).Col] 102)::.own g 102 5 (toks.map enc)::.blk b6 (.cells (enc (B0 s i)).toArray 29)::.blk b3 (.cells (enc (⟨0,0⟩:C8)).toArray 29)::S) w:=hw
     repeat first|refine A5 ?_|refine A6 ?_;intro w hw
     rw[hT];exact⟨⟨3,D7 s (i+1) (i+(kk-1)),0,(B0 s i).Line,(B0 s i).Col⟩,rfl,rfl,rfl,⟨rfl,rfl,rfl,rfl,rfl,rfl,rfl,trivial⟩,hw⟩
    have h6:¬A3 t 0=34:=by rw[hb0];exact of_decide_eq_false h6
    repeat first|refine A5 ?_|refine A6 ?_;intro w hw
    refine A0 rfl (fun h7=>?_) (fun h7=>?_)
    ·have hT:=Re h5 (by rw[hb0];exact h7)
     rw[←hkk,hsub 0 kk (by omega) (by omega)]at hT
     repeat first|refine A5 ?_|refine A6 ?_;intro w hw
     refine B9 ?_;refine(If (D7 s i (i+kk)) (by rw[O7 (by omega)];omega) (by rw[O7 (by omega)];omega) hw).mono ?_
     clear hw;rintro e w ⟨rfl,hw⟩
     refine⟨_,rfl,?_⟩;rw[show i+0=i from rfl]at hT;obtain⟨N,hN⟩:∃N,N=y9 (D7 s i (i+kk)):=⟨_,rfl⟩
     rw[←hN]at hT ⊢
     repeat first|refine A5 ?_|refine A6 ?_;intro w hw
     refine A0 rfl (fun h8=>?_) (fun h8=>?_)
     ·have h8:¬N.2=0:=of_decide_eq_true h8
      rw[if_neg h8]at hT;rw[hT];rw[show (BJ N.2).err=N.2 from rfl,if_neg h8];repeat first|refine A5 ?_|refine A6 ?_;intro w hw
      have hw:=hw.drop
      refine p8 [.own _ _ _ _,.blk b6 _] (.blk b3 _::S) [] [[],[],[],[0],[]] hw ?_
      refine W9 ?_;refine V9 (φ:=fun (_:Unit) _=>True) (R:=fun _=>.blk b3 (.cells (enc (⟨0,0⟩:C8)).toArray 29)::S) (v:=undef) (T':=Unit) (fun _ _=>True) (fun _=>.blk b3 (.cells (enc (B0 s i)).toArray 29)::S) (fun t' g w Y _ hw=>X4 (i:=0) (inferInstance:Ly Tryz.prog 29 2).h hw rfl (v:=.agg (enc (B0 s i)).toArray) rfl (vs:=enc (B0 s i)) rfl rfl (fun u hu=>(List.all_eq_true.1 (Ag (B0 s i))) u hu) rfl (Nat.le_of_ble_eq_true rfl) fun w' hw'=>⟨(),trivial,fun _=>rfl,hw'⟩) ?_
      refine W9 ?_;refine Al fun t' w g _ hw=>?_
      have hw:Wd Γ (.blk b3 (.cells (enc (B0 s i)).toArray 29)::S) w:=Wd.left (S:=.blk b3 _::S) hw
      repeat first|refine A5 ?_|refine A6 ?_;intro w hw
      exact⟨[.slice none 0 0,.agg (enc (B0 s i)).toArray,.int .i64 N.2],⟨rfl,J2 (i:=0) hw rfl rfl rfl,rfl,trivial⟩,_,rfl,Wd.addNil hw.drop⟩
     ·have h8:N.2=0:=Classical.not_not.1 (of_decide_eq_false h8)
      rw[if_pos h8]at hT;repeat first|refine A5 ?_|refine A6 ?_;intro w hw
      refine A9 ?_;intro w hw;refine R5 ?_
      have hw:Wd Γ (.blk b10 (.cells #[.int .i64 2,.string (D7 s i (i+kk)),.int .u64 0,.int .i64 (B0 s i).Line,.int .i64 (B0 s i).Col] 102)::.own g 102 5 (toks.map enc)::.blk b6 (.cells (enc (B0 s i)).toArray 29)::.blk b3 (.cells (enc (⟨0,0⟩:C8)).toArray 29)::S) w:=hw
      repeat first|refine A5 ?_|refine A6 ?_;intro w hw
      refine A9 ?_;intro w hw;refine R5 ?_
      have hw:Wd Γ (.blk b10 (.cells #[.int .i64 2,.string ⟨#[]⟩,.int .u64 0,.int .i64 (B0 s i).Line,.int .i64 (B0 s i).Col] 102)::.own g 102 5 (toks.map enc)::.blk b6 (.cells (enc (B0 s i)).toArray 29)::.blk b3 (.cells (enc (⟨0,0⟩:C8)).toArray 29)::S) w:=hw
      repeat first|refine A5 ?_|refine A6 ?_;intro w hw
      refine A9 ?_;intro w hw;refine R5 ?_
      have hw:Wd Γ (.blk b10 (.cells #[.int .i64 2,.string ⟨#[]⟩,.int .u64 N.1,.int .i64 (B0 s i).Line,.int .i64 (B0 s i).Col] 102)::.own g 102 5 (toks.map enc)::.blk b6 (.cells (enc (B0 s i)).toArray 29)::.blk b3 (.cells (enc (⟨0,0⟩:C8)).toArray 29)::S) w:=hw
      rw[hT];exact⟨⟨2,⟨#[]⟩,N.1,(B0 s i).Line,(B0 s i).Col⟩,rfl,rfl,rfl,⟨rfl,rfl,rfl,rfl,rfl,rfl,rfl,trivial⟩,hw⟩
    have h7:¬H2 (A3 t 0)=true:=by
     rw[hb0];have h7:H2 (A3 s i)=false:=h7
     rw[h7];decide
    have hT:=Qv h5 h7 h6 (by rw[←hkk];exact h4)
    rw[←hkk,hsub 0 kk (by omega) (by omega)]at hT
    repeat first|refine A5 ?_|refine A6 ?_;intro w hw
    rw[hT];exact⟨⟨4,D7 s i (i+kk),0,(B0 s i).Line,(B0 s i).Col⟩,rfl,rfl,rfl,⟨rfl,rfl,rfl,rfl,rfl,rfl,rfl,trivial⟩,hw⟩
   clear hw;rintro ρ w ⟨tk,he,htk,htn,hρ,hw⟩
   rw[hρ.eq,he,if_pos rfl,htn];rw[←htk];clear hρ;obtain⟨ag,ng,cg,rfl,hng,hngc,hcg⟩:=hw.own_shape (i:=1) rfl
   simp only[List.length_map]at hng
   repeat first|refine A5 ?_|refine A6 ?_;intro w hw
   refine E4 [enc tk] ?_
   intro aN w hw;refine Bv (i:=2) (rows2:=[enc tk]) ?_ (Wd.own_rd (i:=0) hw rfl)
   intro v' w hw;repeat first|refine A5 ?_|refine A6 ?_;intro w hw
   have hw:=hw.drop.drop
   have hw:Wd Γ (.own v' 102 5 ((toks++[tk]).map enc)::.blk b6 (.cells (enc (B0 s i)).toArray 29)::.blk b3 (.cells (enc (⟨0,0⟩:C8)).toArray 29)::S) w:=by
    rw[List.map_append];exact hw
   exact⟨i+kk,v',toks++[tk],by omega,by omega,by simp;omega,rfl,⟨rfl,rfl,rfl,rfl,rfl,rfl,trivial⟩,hw⟩
  clear hw;rintro ρ w ⟨k,g,toks',hik,hks,htl',hN,hρ,hw⟩
  rw[hρ.eq,hN];clear hN hρ;repeat first|refine A5 ?_|refine A6 ?_;intro w hw
  refine C1 (fun μ ρ w=>∃j:Nat,i≤j∧μ+j=k∧(B0 s j).Line≤1+j∧(B0 s j).Col≤1+j∧0≤(B0 s j).Line∧0≤(B0 s j).Col∧Has ρ [(0,.string s),(3,.pointer (some ⟨b3,0,none⟩)),(5,g),(6,.pointer (some ⟨b6,0,none⟩)),(7,.int .i64 j),(9,.int .i64 k)]∧Wd Γ (.own g 102 5 (toks'.map enc)::.blk b6 (.cells (enc (B0 s j)).toArray 29)::.blk b3 (.cells (enc (⟨0,0⟩:C8)).toArray 29)::S) w) (k-i) ⟨i,by omega,by omega,hl1,hc1,hl0,hc0,⟨rfl,rfl,rfl,rfl,rfl,rfl,trivial⟩,hw⟩ ?_
  clear hw hl1 hc1 hl0 hc0;rintro μ2 ρ w ⟨j,hij,hjk,hl1,hc1,hl0,hc0,hρ,hw⟩
  rw[hρ.eq];have hp1:A3 s j≠10→B0 s (j+1)=⟨(B0 s j).Line,(B0 s j).Col+1⟩:=fun q=>by
   have:=W1 (s:=s) (off:=j) 1 (fun i hi=>by rw[show j+i=j from by omega];exact q)
   simpa using this
  have hp2:A3 s j=10→B0 s (j+1)=⟨(B0 s j).Line+1,1⟩:=BV
  repeat first|refine A5 ?_|refine A6 ?_;intro w hw
  refine A0 rfl (fun h2=>?_) (fun h2=>?_)
  ·have hlt:j<k:=by have:=of_decide_eq_true h2;omega
   repeat first|refine A5 ?_|refine A6 ?_;intro w hw
   refine A9 ?_;intro w hw;have hw:Wd Γ (.own g 102 5 (toks'.map enc)::.blk b6 (.cells #[.int .i64 (B0 s j).Line,.int .i64 ((B0 s j).Col+1)] 29)::.blk b3 (.cells (enc (⟨0,0⟩:C8)).toArray 29)::S) w:=hw
   repeat first|refine A5 ?_|refine A6 ?_;intro w hw
   refine A0 rfl (fun h3=>?_) (fun h3=>?_)
   ·have h3:A3 s j=10:=of_decide_eq_true h3
    repeat first|refine A5 ?_|refine A6 ?_;intro w hw
    refine A9 ?_;intro w hw;have hw:Wd Γ (.own g 102 5 (toks'.map enc)::.blk b6 (.cells (enc (B0 s (j+1))).toArray 29)::.blk b3 (.cells (enc (⟨0,0⟩:C8)).toArray 29)::S) w:=by rw[hp2 h3];exact hw
    repeat first|refine A5 ?_|refine A6 ?_;intro w hw
    exact⟨μ2-1,by omega,j+1,by omega,by omega,by rw[hp2 h3];dsimp;omega,by rw[hp2 h3];dsimp;omega,by rw[hp2 h3];dsimp;omega,by rw[hp2 h3];dsimp;omega,⟨rfl,rfl,rfl,rfl,rfl,rfl,trivial⟩,hw⟩
   ·have h3:¬A3 s j=10:=of_decide_eq_false h3
    have hw:Wd Γ (.own g 102 5 (toks'.map enc)::.blk b6 (.cells (enc (B0 s (j+1))).toArray 29)::.blk b3 (.cells (enc (⟨0,0⟩:C8)).toArray 29)::S) w:=by rw[hp1 h3];exact hw
    repeat first|refine A5 ?_|refine A6 ?_;intro w hw
    exact⟨μ2-1,by omega,j+1,by omega,by omega,by rw[hp1 h3];dsimp;omega,by rw[hp1 h3];dsimp;omega,by rw[hp1 h3];dsimp;omega,by rw[hp1 h3];dsimp;omega,⟨rfl,rfl,rfl,rfl,rfl,rfl,trivial⟩,hw⟩
  ·have hjk2:j=k:=by have:=of_decide_eq_false h2;omega
   rw[hjk2]at hw hl1 hc1 hl0 hc0
   repeat first|refine A5 ?_|refine A6 ?_;intro w hw
   exact⟨f,by omega,k,g,toks',hks,by omega,hl1,hc1,hl0,hc0,by omega,rfl,⟨rfl,rfl,rfl,rfl,by show Value.int .i64 (j:Int)=_;rw[hjk2],trivial⟩,hw⟩
 ·have h1:¬i<s.size:=by simpa using h1
  have hend:O4 s (f+1) i toks=(toks,⟨0,0⟩,0):=by
   show (if s.size≤i then _ else _)=_
   rw[if_pos (by omega)]
  rw[hend];repeat first|refine A5 ?_|refine A6 ?_;intro w hw
  refine A9 ?_;intro w hw;have hw:Wd Γ (.own g 102 5 (toks.map enc)::.blk b6 (.cells (enc (B0 s i)).toArray 29)::.blk b3 (.cells (enc (⟨0,0⟩:C8)).toArray 29)::S) w:=hw
  repeat first|refine A5 ?_|refine A6 ?_;intro w hw
  exact⟨[g,.agg (enc (⟨0,0⟩:C8)).toArray,.int .i64 0],⟨rfl,J2 (i:=2) hw rfl rfl rfl,rfl,trivial⟩,_,rfl,(hw.dropAt 2).dropAt 1⟩
end Go.Proofs.YtlmiakjbogojgaaGreatDoor
end
section
open Go Mk
namespace Go.Proofs.YtlmiakjbogojgaaGreatDoor
set_option maxHeartbeats 8000000
attribute [local irreducible] Calls B0
structure RS where
 I:Nat
 p:C8
 er:Int
def I5(bp:Nat)(s:ByteArray)(a:Option Addr)(n c:Nat)(σ:RS):B5:=.blk bp (.cells #[.string s,.slice a n c,.int .i64 σ.I,.int .i64 σ.p.Line,.int .i64 σ.p.Col,.int .i64 σ.er] 104)
section
variable {Γ:C4}{S:List B5}{w:World}{bp:Nat}{s:ByteArray}{a:Option Addr}{n c:Nat}{σ:RS}{toks:List Tok}
instance ps_OK:PS Tryz.prog Γ (I5 bp s a n c σ::S) 35 [.pointer (some ⟨bp,0,none⟩)] (.bool (decide (σ.er=0))):=⟨fun Y w hw=>by
 refine A4 Tryz.func35 rfl rfl ?_
 repeat first|refine A5 ?_|refine A6 ?_;intro w hw
 exact⟨_,rfl,rfl,hw⟩⟩
instance Ur:PS Tryz.prog Γ (I5 bp s a n c σ::S) 43 [.pointer (some ⟨bp,0,none⟩)] (.bool (decide ((n:Int)≤σ.I))):=⟨fun Y w hw=>by
 refine A4 Tryz.func43 rfl rfl ?_
 repeat first|refine A5 ?_|refine A6 ?_;intro w hw
 refine H0 (by kernel_rfl) (by kernel_rfl) hw ?_
 refine Bt ?_;intro w hw;repeat first|refine A5 ?_|refine A6 ?_;intro w hw
 exact⟨_,rfl,rfl,hw⟩⟩
theorem Ol(toks:List Tok)(hn:n=toks.length){t:Tok}(htk:σ.I<n→toks[σ.I]? = some t)(kind:Int):((decide (σ.er=0) && !decide ((n:Int)≤σ.I))&&decide (t.Kind=kind))=(decide (σ.er=0)&&F8 toks σ.I kind):=by
 unfold F8;by_cases h:σ.I<n
 ·rw[htk h];have h1:¬(n:Int)≤σ.I:=by omega
  simp[h1]
 ·rw[List.getElem?_eq_none (by omega)]
  have h1:(n:Int)≤σ.I:=by omega
  simp[h1]
theorem OZ(toks:List Tok)(hn:n=toks.length){t:Tok}(htk:σ.I<n→toks[σ.I]? = some t)(kind:Int)(text:ByteArray):(((decide (σ.er=0) && !decide ((n:Int)≤σ.I))&&decide (t.Kind=kind))&&decide (t.Text=text))=(decide (σ.er=0)&&L5 toks σ.I kind text):=by
 unfold L5;by_cases h:σ.I<n
 ·rw[htk h];have h1:¬(n:Int)≤σ.I:=by omega
  simp[h1,Bool.and_assoc]
 ·rw[List.getElem?_eq_none (by omega)]
  have h1:(n:Int)≤σ.I:=by omega
  simp[h1]
theorem GO{b:Bool}{I n:Nat}(h:(b && !decide ((n:Int)≤I))=true):I<n:=by
 simp only[Bool.and_eq_true,Bool.not_eq_true',decide_eq_false_iff_not]at h;omega
instance Uv[ht:z8 Γ a n c toks](kind:Int):PS Tryz.prog Γ (I5 bp s a n c σ::S) 37 [.pointer (some ⟨bp,0,none⟩),.int .i64 kind] (.bool (decide (σ.er=0)&&F8 toks σ.I kind)):=⟨fun Y w hw=>by
 obtain⟨hn,hnc,hc⟩:=ht.len;have hr:=ht.h
 have hw:Wd Γ (I5 bp s a n c σ::(S++Y)) w:=hw
 refine A4 Tryz.func37 rfl rfl ?_
 repeat first|refine A5 ?_|refine A6 ?_;intro w hw
 obtain⟨t,htk⟩:∃t:Tok,σ.I<n→toks[σ.I]? = some t:=by
  by_cases h:σ.I<n
  ·obtain⟨t,ht⟩:=B8 (l:=toks) (k:=σ.I) (by omega);exact⟨t,fun _=>ht⟩
  ·exact⟨default,fun hh=>absurd hh h⟩
 refine H0 (by kernel_rfl) (by kernel_rfl) hw ?_
 iterate 18 (first|(first|refine P2 ?_|(apply D1;first|(apply F4;first|refine qP ?_|refine CO ?_)|refine qY ?_)|(apply B4;first|(apply F4;first|refine Dj ?_|refine Z0 ?_)|refine qG ?_))|(apply D1;apply F4;refine Fp ?_)|(apply B4;apply F4;refine y7 ?_))
 apply B4
 refine qG ?_ (hy:=fun hc w hw=>by
  have h0:=htk (GO hc)
  exact BF)
 repeat(first|(first|refine P2 ?_|(apply D1;first|(apply F4;first|refine qP ?_|refine CO ?_)|refine qY ?_)|(apply B4;first|(apply F4;first|refine Dj ?_|refine Z0 ?_)|refine qG ?_))|(apply D1;apply F4;refine Fp ?_)|(apply B4;apply F4;refine y7 ?_))
 intro w hw;repeat first|refine A5 ?_|refine A6 ?_;intro w hw
 exact⟨_,rfl,F7 rfl (Ol toks hn htk kind),hw⟩⟩
instance Uf[ht:z8 Γ a n c toks](kind:Int)(text:ByteArray):PS Tryz.prog Γ (I5 bp s a n c σ::S) 36 [.pointer (some ⟨bp,0,none⟩),.int .i64 kind,.string text] (.bool (decide (σ.er=0)&&L5 toks σ.I kind text)):=⟨fun Y w hw=>by
 obtain⟨hn,hnc,hc⟩:=ht.len;have hr:=ht.h
 have hw:Wd Γ (I5 bp s a n c σ::(S++Y)) w:=hw
 refine A4 Tryz.func36 rfl rfl ?_
 repeat first|refine A5 ?_|refine A6 ?_;intro w hw
 obtain⟨t,htk⟩:∃t:Tok,σ.I<n→toks[σ.I]? = some t:=by
  by_cases h:σ.I<n
  ·obtain⟨t,ht⟩:=B8 (l:=toks) (k:=σ.I) (by omega);exact⟨t,fun _=>ht⟩
  ·exact⟨default,fun hh=>absurd hh h⟩
 refine H0 (by kernel_rfl) (by kernel_rfl) hw ?_
 iterate 18 (first|(first|refine P2 ?_|(apply D1;first|(apply F4;first|refine qP ?_|refine CO ?_)|refine qY ?_)|(apply B4;first|(apply F4;first|refine Dj ?_|refine Z0 ?_)|refine qG ?_))|(apply D1;apply F4;refine Fp ?_)|(apply B4;apply F4;refine y7 ?_))
 apply B4
 refine qG ?_ (hy:=fun hc w hw=>by
  have h0:=htk (GO hc)
  exact BF)
 iterate 14 (first|(first|refine P2 ?_|(apply D1;first|(apply F4;first|refine qP ?_|refine CO ?_)|refine qY ?_)|(apply B4;first|(apply F4;first|refine Dj ?_|refine Z0 ?_)|refine qG ?_))|(apply D1;apply F4;refine Fp ?_)|(apply B4;apply F4;refine y7 ?_))
 apply B4
 refine qG ?_ (hy:=fun hc w hw=>by
  have h0:=htk (GO (H4 hc))
  exact BF)
 repeat(first|(first|refine P2 ?_|(apply D1;first|(apply F4;first|refine qP ?_|refine CO ?_)|refine qY ?_)|(apply B4;first|(apply F4;first|refine Dj ?_|refine Z0 ?_)|refine qG ?_))|(apply D1;apply F4;refine Fp ?_)|(apply B4;apply F4;refine y7 ?_))
 intro w hw;repeat first|refine A5 ?_|refine A6 ?_;intro w hw
 exact⟨_,rfl,F7 rfl (OZ toks hn htk kind text),hw⟩⟩
instance pg_At[hs:SZ s]:PG Tryz.prog Γ 96 [.string s,.int .i64 s.size] (.agg (enc (C0 s)).toArray):=⟨fun S w hw=>TP s s.size (Nat.le_refl _) hs.h hw⟩
def J7(toks:List Tok)(e:C8)(σ:RS)(i:Nat)(er:Int):RS:=if σ.er=0 then ⟨σ.I,G2 toks i e,er⟩ else σ
theorem Q6[ht:z8 Γ a n c toks][hs:SZ s](i:Int)(j:Nat)(er:Int)(hi:σ.er=0→i=j)(hw:Wd Γ (I5 bp s a n c σ::S) w) :
  Calls Tryz.prog 39 #[.pointer (some ⟨bp,0,none⟩),.int .i64 i,.int .i64 er] w fun r w'=>r=.returned (.tuple #[])∧Wd Γ (I5 bp s a n c (J7 toks (C0 s) σ j er)::S) w':=by
 obtain⟨hn,hnc,hc⟩:=ht.len;have hr:=ht.h
 refine A4 Tryz.func39 rfl rfl ?_
 repeat(first|refine A5 ?_|(refine A6 ?_;intro w hw)|(apply P5;apply U9;refine MS ?_;intro w hw)|(apply I7;apply U9;refine EF ?_;intro w hw))
 refine A0 rfl (fun h=>?_) (fun h=>?_)
 ·have h:σ.er≠0:=by simpa using h
  have hE:J7 toks (C0 s) σ j er=σ:=by unfold J7;rw[if_neg h]
  rw[hE];repeat first|refine A5 ?_|refine A6 ?_;intro w hw
  exact⟨_,rfl,rfl,hw⟩
 have h:σ.er=0:=by simpa using h
 have hi:=hi h
 subst hi;have hE:J7 toks (C0 s) σ j er=⟨σ.I,G2 toks j (C0 s),er⟩:=by unfold J7;rw[if_pos h]
 rw[hE];repeat first|refine A5 ?_|refine A6 ?_;intro w hw
 refine A9 ?_;intro w hw;have hw:Wd Γ (I5 bp s a n c ⟨σ.I,σ.p,er⟩::S) w:=hw
 repeat first|refine A5 ?_|refine A6 ?_;intro w hw
 refine IE [] (I5 bp s a n c ⟨σ.I,σ.p,er⟩::S) [[],[],[],[],[],[],[],[],[],[],[],[],[],[0]] [[],[],[],[],[0],[],[],[],[0],[],[],[],[],[0]] hw ?_
 refine W9 ?_;refine f7 ?_
 refine X6 fun w g hw=>?_
 have hw:Wd Γ ((I5 bp s a n c ⟨σ.I,C0 s,er⟩::S)++[]) w:=hw
 rw[List.append_nil]at hw;repeat first|refine A5 ?_|refine A6 ?_;intro w hw
 refine A0 rfl (fun h2=>?_) (fun h2=>?_)
 ·have h2:j<n:=by have:=of_decide_eq_true h2;omega
  obtain⟨t,htk⟩:=B8 (l:=toks) (k:=j) (by omega)
  have hp:G2 toks j (C0 s)=⟨t.Line,t.Col⟩:=by unfold G2;rw[htk]
  rw[hp];repeat first|refine A5 ?_|refine A6 ?_;intro w hw
  refine A9 ?_;intro w hw;have hw:Wd Γ (I5 bp s a n c ⟨σ.I,⟨t.Line,t.Col⟩,er⟩::S) w:=hw
  repeat first|refine A5 ?_|refine A6 ?_;intro w hw
  exact⟨_,rfl,rfl,hw⟩
 ·have h2:¬j<n:=by have:=of_decide_eq_false h2;omega
  have hp:G2 toks j (C0 s)=C0 s:=by unfold G2;rw[List.getElem?_eq_none (by omega)]
  rw[hp];repeat first|refine A5 ?_|refine A6 ?_;intro w hw
  exact⟨_,rfl,rfl,hw⟩
end
end Go.Proofs.YtlmiakjbogojgaaGreatDoor
end
section
open Go Mk
namespace Go.Proofs.YtlmiakjbogojgaaGreatDoor
set_option maxHeartbeats 8000000
attribute [local irreducible] Calls B0 C0
def G7(toks:List Tok)(σ:RS)(kind:Int)(text:ByteArray):RS:=if (decide (σ.er=0)&&L5 toks σ.I kind text)=true then ⟨σ.I+1,σ.p,σ.er⟩ else σ
def Q0(toks:List Tok)(e:C8)(σ:RS)(kind:Int)(text:ByteArray):RS:=if (decide (σ.er=0)&&L5 toks σ.I kind text)=true then ⟨σ.I+1,σ.p,σ.er⟩ else J7 toks e σ σ.I 50
def K7(toks:List Tok)(e:C8)(σ:RS)(kind:Int):Tok×RS:=if (decide (σ.er=0)&&F8 toks σ.I kind)=true then ((toks[σ.I]?).getD default,⟨σ.I+1,σ.p,σ.er⟩) else (default,J7 toks e σ σ.I 50)
def N9(toks:List Tok)(e:C8)(σ:RS)(kind:Int):ByteArray×RS:=((K7 toks e σ kind).1.Text,if 24<(K7 toks e σ kind).1.Text.size then J7 toks e (K7 toks e σ kind).2 ((K7 toks e σ kind).2.I-1) 63 else (K7 toks e σ kind).2)
theorem V4{toks:List Tok}{e:C8}{σ:RS}{i:Nat}{er:Int}:(J7 toks e σ i er).I=σ.I:=by unfold J7;split <;> rfl
theorem S0{toks:List Tok}{k:Nat}{kind:Int}(h:F8 toks k kind=true):k<toks.length:=by
 unfold F8 at h;by_cases hk:k<toks.length
 ·exact hk
 ·rw[List.getElem?_eq_none (by omega)]at h;cases h
section
variable {Γ:C4}{S:List B5}{w:World}{bp:Nat}{s:ByteArray}{a:Option Addr}{n c:Nat}{σ:RS}{toks:List Tok}
theorem BZ{e:C8}{kind:Int}{text:ByteArray}(h:σ.I≤toks.length):(Q0 toks e σ kind text).I≤toks.length:=by
 unfold Q0;split
 ·rename_i q
  have:=CR (T9 q)
  exact this
 ·rw[V4];exact h
theorem DO{e:C8}{kind:Int}(h:σ.I≤toks.length):(K7 toks e σ kind).2.I≤toks.length:=by
 unfold K7;split
 ·rename_i q
  have:=S0 (T9 q)
  exact this
 ·show (J7 toks e σ σ.I 50).I≤_
  rw[V4];exact h
theorem X9[ht:z8 Γ a n c toks](kind:Int)(text:ByteArray)(hw:Wd Γ (I5 bp s a n c σ::S) w) :
  Calls Tryz.prog 41 #[.pointer (some ⟨bp,0,none⟩),.int .i64 kind,.string text] w fun r w'=>r=.returned (.bool (decide (σ.er=0)&&L5 toks σ.I kind text))∧Wd Γ (I5 bp s a n c (G7 toks σ kind text)::S) w':=by
 obtain⟨hn,hnc,hc⟩:=ht.len;have hbig:=ht.big
 refine A4 Tryz.func41 rfl rfl ?_
 repeat(first|refine A5 ?_|(refine A6 ?_;intro w hw)|(apply P5;apply U9;refine MS ?_;intro w hw)|(apply I7;apply U9;refine EF ?_;intro w hw))
 refine A0 rfl (fun h=>?_) (fun h=>?_)
 ·have hE:G7 toks σ kind text=⟨σ.I+1,σ.p,σ.er⟩:=by unfold G7;rw[if_pos h]
  have hlt:=CR (T9 h)
  rw[hE];repeat first|refine A5 ?_|refine A6 ?_;intro w hw
  refine A9 ?_;intro w hw;have hw:Wd Γ (I5 bp s a n c ⟨σ.I+1,σ.p,σ.er⟩::S) w:=hw
  repeat first|refine A5 ?_|refine A6 ?_;intro w hw
  exact⟨_,rfl,by rw[h];rfl,hw⟩
 ·have hE:G7 toks σ kind text=σ:=by unfold G7;rw[if_neg (by rw[h];decide)]
  rw[hE];repeat first|refine A5 ?_|refine A6 ?_;intro w hw
  exact⟨_,rfl,by rw[h];rfl,hw⟩
theorem AS[ht:z8 Γ a n c toks][hs:SZ s](kind:Int)(text:ByteArray)(hw:Wd Γ (I5 bp s a n c σ::S) w) :
  Calls Tryz.prog 34 #[.pointer (some ⟨bp,0,none⟩),.int .i64 kind,.string text] w fun r w'=>r=.returned (.tuple #[])∧Wd Γ (I5 bp s a n c (Q0 toks (C0 s) σ kind text)::S) w':=by
 obtain⟨hn,hnc,hc⟩:=ht.len;have hbig:=ht.big
 refine A4 Tryz.func34 rfl rfl ?_
 repeat first|refine A5 ?_|refine A6 ?_;intro w hw
 refine B9 ?_;refine(X9 kind text hw).mono ?_
 clear hw;rintro r w ⟨rfl,hw⟩
 refine⟨_,rfl,?_⟩;repeat first|refine A5 ?_|refine A6 ?_;intro w hw
 refine A0 rfl (fun h=>?_) (fun h=>?_)
 ·have h:(decide (σ.er=0)&&L5 toks σ.I kind text)=false:=by rw[←Bool.not_eq_true'];exact h
  have hE:G7 toks σ kind text=σ:=by unfold G7;rw[if_neg (by rw[h];decide)]
  have hE2:Q0 toks (C0 s) σ kind text=J7 toks (C0 s) σ σ.I 50:=by unfold Q0;rw[if_neg (by rw[h];decide)]
  rw[hE]at hw;rw[hE2];repeat first|refine A5 ?_|refine A6 ?_;intro w hw
  refine B9 ?_;refine(Q6 (σ.I:Int) σ.I 50 (fun _=>rfl) hw).mono ?_
  clear hw;rintro r w ⟨rfl,hw⟩
  refine⟨_,rfl,?_⟩;repeat first|refine A5 ?_|refine A6 ?_;intro w hw
  exact⟨_,rfl,rfl,hw⟩
 ·have h:(decide (σ.er=0)&&L5 toks σ.I kind text)=true:=by rw[←Bool.not_eq_false'];exact h
  have hE:G7 toks σ kind text=⟨σ.I+1,σ.p,σ.er⟩:=by unfold G7;rw[if_pos h]
  have hE2:Q0 toks (C0 s) σ kind text=⟨σ.I+1,σ.p,σ.er⟩:=by unfold Q0;rw[if_pos h]
  rw[hE]at hw;rw[hE2];repeat first|refine A5 ?_|refine A6 ?_;intro w hw
  exact⟨_,rfl,rfl,hw⟩
theorem Hw[ht:z8 Γ a n c toks][hs:SZ s](kind:Int)(hI:σ.I≤n)(hw:Wd Γ (I5 bp s a n c σ::S) w) :
  Calls Tryz.prog 97 #[.pointer (some ⟨bp,0,none⟩),.int .i64 kind] w fun r w'=>r=.returned (.agg (enc (K7 toks (C0 s) σ kind).1).toArray)∧Wd Γ (I5 bp s a n c (K7 toks (C0 s) σ kind).2::S) w':=by
 obtain⟨hn,hnc,hc⟩:=ht.len;have hbig:=ht.big
 have hr:=ht.h
 refine F1 Tryz.func97 rfl rfl ?_
 repeat first|refine A5 ?_|refine A6 ?_;intro w hw
 refine B7 ?_;intro b4 w hw;have hw:=hw.ps [1]
 have hw:Wd Γ (I5 bp s a n c σ::.blk b4 (.cells (enc (default:Tok)).toArray 102)::S) w:=hw
 repeat(first|refine A5 ?_|(refine A6 ?_;intro w hw)|(apply P5;apply U9;refine MS ?_;intro w hw)|(apply I7;apply U9;refine EF ?_;intro w hw))
 refine A0 rfl (fun h=>?_) (fun h=>?_)
 ·have h:(decide (σ.er=0)&&F8 toks σ.I kind)=false:=by rw[←Bool.not_eq_true'];exact h
  have hE:K7 toks (C0 s) σ kind=(default,J7 toks (C0 s) σ σ.I 50):=by unfold K7;rw[if_neg (by rw[h];decide)]
  rw[hE];repeat first|refine A5 ?_|refine A6 ?_;intro w hw
  refine B9 ?_;refine(Q6 (σ.I:Int) σ.I 50 (fun _=>rfl) hw).mono ?_
  clear hw;rintro r w ⟨rfl,hw⟩
  refine⟨_,rfl,?_⟩;repeat first|refine A5 ?_|refine A6 ?_;intro w hw
  refine A9 (i:=1) ?_
  intro w hw;have hw:Wd Γ (I5 bp s a n c (J7 toks (C0 s) σ σ.I 50)::.blk b4 (.cells (enc (default:Tok)).toArray 102)::S) w:=hw
  repeat first|refine A5 ?_|refine A6 ?_;intro w hw
  exact⟨[.agg (enc (default:Tok)).toArray],⟨J2 (i:=1) hw rfl rfl rfl,trivial⟩,rfl,hw.dropAt 1⟩
 ·have h:(decide (σ.er=0)&&F8 toks σ.I kind)=true:=by rw[←Bool.not_eq_false'];exact h
  have hlt:=S0 (T9 h)
  obtain⟨t,htk⟩:=B8 (l:=toks) (k:=σ.I) (by omega)
  have hE:K7 toks (C0 s) σ kind=(t,⟨σ.I+1,σ.p,σ.er⟩):=by unfold K7;rw[if_pos h,htk];rfl
  rw[hE];repeat first|refine A5 ?_|refine A6 ?_;intro w hw
  refine A9 ?_;intro w hw;have hw:Wd Γ (I5 bp s a n c ⟨σ.I+1,σ.p,σ.er⟩::.blk b4 (.cells (enc (default:Tok)).toArray 102)::S) w:=hw
  repeat first|refine A5 ?_|refine A6 ?_;intro w hw
  refine IE [.blk bp (.cells #[.string s,.slice a n c,.int .i64 ((σ.I+1:Nat):Int),.int .i64 σ.p.Line,.int .i64 σ.p.Col,.int .i64 σ.er] 104)] (.blk b4 (.cells (enc (default:Tok)).toArray 102)::S) [[],[],[],[],[],[],[],[],[],[],[],[0]] [[],[],[],[],[],[],[],[],[],[],[],[0]] hw ?_
  have htk2:toks[(((σ.I+1:Nat):Int)-1).toNat]? = some t:=by rw[show (((σ.I+1:Nat):Int)-1).toNat=σ.I from by omega];exact htk
  refine W9 ?_;refine f7 ?_
  refine X6 fun w g hw=>?_
  have hw:=Wd.dropEnd (C:=[]) hw
  have hw:Wd Γ (I5 bp s a n c ⟨σ.I+1,σ.p,σ.er⟩::.blk b4 (.cells (enc t).toArray 102)::S) w:=hw
  repeat first|refine A5 ?_|refine A6 ?_;intro w hw
  exact⟨[.agg (enc t).toArray],⟨J2 (i:=1) hw rfl rfl rfl,trivial⟩,rfl,hw.dropAt 1⟩
theorem DX[ht:z8 Γ a n c toks][hs:SZ s](kind:Int)(hI:σ.I≤n)(hw:Wd Γ (I5 bp s a n c σ::S) w) :
  Calls Tryz.prog 40 #[.pointer (some ⟨bp,0,none⟩),.int .i64 kind] w fun r w'=>r=.returned (.string (N9 toks (C0 s) σ kind).1)∧Wd Γ (I5 bp s a n c (N9 toks (C0 s) σ kind).2::S) w':=by
 obtain⟨hn,hnc,hc⟩:=ht.len;have hbig:=ht.big
 refine A4 Tryz.func40 rfl rfl ?_
 repeat first|refine A5 ?_|refine A6 ?_;intro w hw
 refine B9 ?_;refine(Hw kind hI hw).mono ?_
 clear hw;rintro r w ⟨rfl,hw⟩
 refine⟨_,rfl,?_⟩;have hI2:=DO (toks:=toks) (e:=C0 s) (kind:=kind) (σ:=σ) (by omega)
 have hI3:(K7 toks (C0 s) σ kind).2.er=0→1≤(K7 toks (C0 s) σ kind).2.I:=fun h0=>by
  unfold K7 at h0 ⊢
  split
  ·show 1≤σ.I+1;omega
  ·rename_i q
   rw[if_neg q]at h0;exfalso
   unfold J7 at h0;split at h0
   ·exact absurd h0 (show ¬(50:Int)=0 by decide)
   ·contradiction
 unfold N9;generalize K7 toks (C0 s) σ kind=q at *
 obtain⟨t,τ⟩:=q;refine B7 ?_;intro b5 w hw;refine A9 (i:=0) ?_
 intro w hw;have hw:=hw.ps [1]
 have hw:Wd Γ (I5 bp s a n c τ::.blk b5 (.cells (enc t).toArray 102)::S) w:=hw
 dsimp only at hI2 hI3 ⊢
 repeat first|refine A5 ?_|refine A6 ?_;intro w hw
 refine J6 (fun ρ w=>Has ρ [(5,.pointer (some ⟨b5,0,none⟩))]∧Wd Γ (I5 bp s a n c (if 24<t.Text.size then J7 toks (C0 s) τ (τ.I-1) 63 else τ)::.blk b5 (.cells (enc t).toArray 102)::S) w) ?_ ?_
 ·refine A0 rfl (fun h=>?_) (fun h=>?_)
  ·have h:24<t.Text.size:=by have:=of_decide_eq_true h;omega
   rw[if_pos h];repeat first|refine A5 ?_|refine A6 ?_;intro w hw
   refine B9 ?_;refine(Q6 ((τ.I:Int)-1) (τ.I-1) 63 (fun h0=>by have:=hI3 h0;omega) hw).mono ?_
   clear hw;rintro r w ⟨rfl,hw⟩
   refine⟨_,rfl,?_⟩;repeat first|refine A5 ?_|refine A6 ?_;intro w hw
   exact⟨⟨rfl,trivial⟩,hw⟩
  ·have h:¬24<t.Text.size:=by have:=of_decide_eq_false h;omega
   rw[if_neg h];repeat first|refine A5 ?_|refine A6 ?_;intro w hw
   exact⟨⟨rfl,trivial⟩,hw⟩
 clear hw;rintro ρ w ⟨hρ,hw⟩
 rw[hρ.eq];repeat first|refine A5 ?_|refine A6 ?_;intro w hw
 exact⟨_,rfl,rfl,hw.dropAt 1⟩
end
end Go.Proofs.YtlmiakjbogojgaaGreatDoor
end
section
open Go Mk
namespace Go.Proofs.YtlmiakjbogojgaaGreatDoor
set_option maxHeartbeats 16000000
attribute [local irreducible] Calls B0 C0 C7
theorem QZ{Γ:C4}{S:List B5}{w:World}(s:ByteArray)(hs:s.size≤4611686018427387904)(hw:Wd Γ S w) :
  Calls Tryz.prog 33 #[.string s] w fun e w'=>∃(Γ':C4) (bp:Nat) (a:Option Addr) (n c:Nat),Γ.le Γ'∧e=.returned (.pointer (some ⟨bp,0,none⟩))∧z8 Γ' a n c (C7 s).1∧Wd Γ' (I5 bp s a n c ⟨0,(C7 s).2.1,(C7 s).2.2⟩::S) w':=by
 refine A4 Tryz.func33 rfl rfl ?_
 repeat first|refine A5 ?_|refine A6 ?_;intro w hw
 refine B9 ?_;refine(Nb Γ S w s hs hw).mono ?_
 clear hw;rintro r w ⟨v,rfl,hw⟩
 refine⟨_,rfl,?_⟩;have hl:=HH (s:=s)
 generalize C7 s=q at *
 obtain⟨toks,p,er⟩:=q;dsimp only at hl hw ⊢
 obtain⟨a,n,c,rfl,hn,hnc,hc⟩:=hw.own_shape (i:=0) rfl
 simp only[List.length_map]at hn
 obtain⟨Γ',hle,hr,hw⟩:=Wd.freeze hw
 repeat first|refine A5 ?_|refine A6 ?_;intro w hw
 refine B7 ?_;intro b4 w hw;repeat first|refine A5 ?_|refine A6 ?_;intro w hw
 refine A9 ?_;intro w hw;have hw:Wd Γ' (.blk b4 (.cells #[.int .i64 p.Line,.int .i64 p.Col] 29)::S) w:=hw
 repeat first|refine A5 ?_|refine A6 ?_;intro w hw
 refine J5 ?_;intro bp w hw;have hw:Wd Γ' (I5 bp s a n c ⟨0,p,er⟩::.blk b4 (.cells #[.int .i64 p.Line,.int .i64 p.Col] 29)::S) w:=hw
 repeat first|refine A5 ?_|refine A6 ?_;intro w hw
 exact⟨_,rfl,Γ',bp,a,n,c,hle,rfl,⟨hr,by omega⟩,hw.dropAt 1⟩
theorem Hh{toks:List Tok}{e:C8}{τ:RS}{kind:Int}(h:τ.er≠0):K7 toks e τ kind=(default,τ):=by
 unfold K7 J7;rw[if_neg (by simp[h]),if_neg h]
theorem FW{toks:List Tok}{e:C8}{τ:RS}{kind:Int}(h:τ.er≠0):(N9 toks e τ kind).2=τ:=by
 unfold N9;rw[Hh h];dsimp only
 rw[if_neg (by decide)]
theorem Cj{toks:List Tok}{e:C8}{τ:RS}{kind:Int}(h:τ.I≤toks.length):(N9 toks e τ kind).2.I≤toks.length:=by
 have:=DO (toks:=toks) (e:=e) (kind:=kind) (σ:=τ) h
 unfold N9;dsimp only
 split
 ·rw[V4];exact this
 ·exact this
end Go.Proofs.YtlmiakjbogojgaaGreatDoor
end
section
open Go Mk
namespace Go.Proofs.YtlmiakjbogojgaaGreatDoor
set_option maxHeartbeats 16000000
attribute [local irreducible] Calls B0 C0
theorem Gq{P:Program}{ρ:Fr}{w:World}{d:Option Tmp}{T ty:TypeId}{pos:String}{es:Array Edge}{g:Option (Nat×Bool)}{x:Operand}{f:Nat}{v u:Value}(hx:ev ρ x=v)(h:(Instr.field T v f).run P w=.ok u w)  : Mk.Yields P ⟨d,.field T x f,ty,pos,es,g⟩ ρ w u:=by
 unfold Mk.Yields;simp[execOp,hx,h]
def d3(toks:List Tok)(e:C8)(σ:RS):Int×RS:=
 let mi:=decide (σ.er=0)&&L5 toks σ.I 4 J8
 let q:=K7 toks e (G7 toks σ 4 J8) 2
 if mi=true∧q.1.Value≤9223372036854775808 then (Pe q.1.Value,q.2)
 else if mi=false∧q.1.Value<9223372036854775808 then (Rf q.1.Value,q.2)
 else (0,J7 toks e q.2 (q.2.I-1) 6)
theorem Bb{toks:List Tok}{e:C8}{σ:RS}{kind:Int}(h0:(K7 toks e σ kind).2.er=0):1≤(K7 toks e σ kind).2.I:=by
 unfold K7 at h0 ⊢
 split
 ·show 1≤σ.I+1;omega
 ·rename_i q
  rw[if_neg q]at h0;exfalso
  unfold J7 at h0;split at h0
  ·exact absurd h0 (show ¬(50:Int)=0 by decide)
  ·contradiction
theorem Da{toks:List Tok}{σ:RS}{kind:Int}{text:ByteArray}(h:σ.I≤toks.length):(G7 toks σ kind text).I≤toks.length:=by
 unfold G7;split
 ·rename_i q
  exact CR (T9 q)
 ·exact h
def HJ(toks:List Tok)(e:C8)(σ:RS)(kind:Int):Val×RS:=
 let q:=N9 toks e σ kind
 (⟨2,0,q.1⟩,if q.1=⟨#[]⟩ then J7 toks e q.2 (q.2.I-1) 63 else q.2)
def AZ(toks:List Tok)(e:C8)(σ:RS):Val×RS:=
 if ((decide (σ.er=0)&&F8 toks σ.I 2)||(decide (σ.er=0)&&L5 toks σ.I 4 J8))=true then (⟨1,(d3 toks e σ).1,⟨#[]⟩⟩,(d3 toks e σ).2)
 else if ((decide (σ.er=0)&&F8 toks σ.I 1)||(decide (σ.er=0)&&F8 toks σ.I 3))=true then HJ toks e σ (pk toks σ.I).Kind
 else (default,J7 toks e σ σ.I 50)
theorem NJ{toks:List Tok}{e:C8}{σ:RS}{kind:Int}(h0:(N9 toks e σ kind).2.er=0):1≤(N9 toks e σ kind).2.I:=by
 unfold N9 at h0 ⊢
 dsimp only at h0 ⊢
 split
 ·rename_i q
  rw[if_pos q]at h0;rw[V4];refine Bb ?_
  unfold J7 at h0;split at h0
  ·exact absurd h0 (show ¬(63:Int)=0 by decide)
  ·exact h0
 ·rename_i q
  rw[if_neg q]at h0;exact Bb h0
section
variable {Γ:C4}{S:List B5}{w:World}{bp:Nat}{s:ByteArray}{a:Option Addr}{n c:Nat}{σ:RS}{toks:List Tok}
theorem BN[ht:z8 Γ a n c toks][hs:SZ s](hI:σ.I≤n)(hw:Wd Γ (I5 bp s a n c σ::S) w) :
  Calls Tryz.prog 100 #[.pointer (some ⟨bp,0,none⟩)] w fun r w'=>r=.returned (.int .i64 (d3 toks (C0 s) σ).1)∧Wd Γ (I5 bp s a n c (d3 toks (C0 s) σ).2::S) w':=by
 obtain⟨hn,hnc,hc⟩:=ht.len;have hbig:=ht.big
 refine A4 Tryz.func100 rfl rfl ?_
 repeat first|refine A5 ?_|refine A6 ?_;intro w hw
 refine B9 ?_;refine(X9 4 J8 hw).mono ?_
 clear hw;rintro r w ⟨rfl,hw⟩
 refine⟨_,rfl,?_⟩;have hI1:=Da (toks:=toks) (σ:=σ) (kind:=4) (text:=J8) (by omega)
 unfold d3;generalize (decide (σ.er=0)&&L5 toks σ.I 4 J8)=mi at *
 generalize G7 toks σ 4 J8=σ1 at *
 dsimp only
 repeat first|refine A5 ?_|refine A6 ?_;intro w hw
 refine B9 ?_;refine(Hw 2 (by omega) hw).mono ?_
 clear hw;rintro r w ⟨rfl,hw⟩
 refine⟨_,rfl,?_⟩;have hI2:=DO (toks:=toks) (e:=C0 s) (kind:=2) (σ:=σ1) hI1
 have hI3:=Bb (toks:=toks) (e:=C0 s) (σ:=σ1) (kind:=2)
 generalize K7 toks (C0 s) σ1 2=q at *
 obtain⟨t,τ⟩:=q;dsimp only at hw hI2 hI3 ⊢
 refine lY (v:=.int .u64 t.Value) ?_ (hy:=Gq rfl (by kernel_rfl))
 repeat first|refine A5 ?_|refine A6 ?_;intro w hw
 refine A0 rfl (fun h=>?_) (fun h=>?_)
 ·have h':(mi&&decide (t.Value≤9223372036854775808))=true:=h
  rw[Bool.and_eq_true,decide_eq_true_eq]at h';rw[if_pos h'];repeat first|refine A5 ?_|refine A6 ?_;intro w hw
  refine lY (v:=.int .i64 (Pe t.Value)) ?_ (hy:=LK rfl)
  repeat first|refine A5 ?_|refine A6 ?_;intro w hw
  exact⟨_,rfl,rfl,hw⟩
 have h':(mi&&decide (t.Value≤9223372036854775808))=false:=h
 rw[if_neg (fun q=>by rw[q.1,decide_eq_true q.2]at h';cases h')]
 repeat first|refine A5 ?_|refine A6 ?_;intro w hw
 refine A0 rfl (fun h2=>?_) (fun h2=>?_)
 ·have h2':(!mi&&decide (t.Value<9223372036854775808))=true:=h2
  rw[Bool.and_eq_true,decide_eq_true_eq,Bool.not_eq_true']at h2';rw[if_pos h2'];repeat first|refine A5 ?_|refine A6 ?_;intro w hw
  exact⟨_,rfl,rfl,hw⟩
 have h2':(!mi&&decide (t.Value<9223372036854775808))=false:=h2
 rw[if_neg (fun q=>by rw[q.1,decide_eq_true q.2]at h2';cases h2')]
 repeat first|refine A5 ?_|refine A6 ?_;intro w hw
 refine B9 ?_;refine(Q6 ((τ.I:Int)-1) (τ.I-1) 6 (fun h0=>by have:=hI3 h0;omega) hw).mono ?_
 clear hw;rintro r w ⟨rfl,hw⟩
 refine⟨_,rfl,?_⟩;repeat first|refine A5 ?_|refine A6 ?_;intro w hw
 exact⟨_,rfl,rfl,hw⟩
theorem IG[ht:z8 Γ a n c toks][hs:SZ s](hI:σ.I≤n)(hw:Wd Γ (I5 bp s a n c σ::S) w) :
  Calls Tryz.prog 167 #[.pointer (some ⟨bp,0,none⟩)] w fun r w'=>r=.returned (.agg (enc (AZ toks (C0 s) σ).1).toArray)∧Wd Γ (I5 bp s a n c (AZ toks (C0 s) σ).2::S) w':=by
 obtain⟨hn,hnc,hc⟩:=ht.len;have hbig:=ht.big
 have hr:=ht.h
 refine F1 Tryz.func167 rfl rfl ?_
 repeat first|refine A5 ?_|refine A6 ?_;intro w hw
 refine B7 ?_;intro b2 w hw;have hw:Wd Γ (I5 bp s a n c σ::.blk b2 (.cells (enc (default:Val)).toArray 65)::S) w:=hw.ps [1]
 unfold AZ;repeat(first|refine A5 ?_|(refine A6 ?_;intro w hw)|(apply P5;apply U9;refine MS ?_;intro w hw)|(apply I7;apply U9;refine EF ?_;intro w hw))
 refine A0 rfl (fun h=>?_) (fun h=>?_)
 ·have h:((decide (σ.er=0)&&F8 toks σ.I 2)||(decide (σ.er=0)&&L5 toks σ.I 4 J8))=true:=h
  rw[if_pos h];repeat first|refine A5 ?_|refine A6 ?_;intro w hw
  refine B9 ?_;refine(BN hI hw).mono ?_
  clear hw;rintro r w ⟨rfl,hw⟩
  refine⟨_,rfl,?_⟩;repeat first|refine A5 ?_|refine A6 ?_;intro w hw
  refine A9 (i:=1) ?_
  intro w hw;have hw:Wd Γ (I5 bp s a n c (d3 toks (C0 s) σ).2::.blk b2 (.cells (enc (⟨1,(d3 toks (C0 s) σ).1,⟨#[]⟩⟩:Val)).toArray 65)::S) w:=hw
  repeat first|refine A5 ?_|refine A6 ?_;intro w hw
  exact⟨[.agg (enc (⟨1,(d3 toks (C0 s) σ).1,⟨#[]⟩⟩:Val)).toArray],⟨J2 (i:=1) hw rfl rfl rfl,trivial⟩,rfl,hw.dropAt 1⟩
 have h:¬((decide (σ.er=0)&&F8 toks σ.I 2)||(decide (σ.er=0)&&L5 toks σ.I 4 J8))=true:=by
  have h:((decide (σ.er=0)&&F8 toks σ.I 2)||(decide (σ.er=0)&&L5 toks σ.I 4 J8))=false:=h
  rw[h];decide
 rw[if_neg h];repeat(first|refine A5 ?_|(refine A6 ?_;intro w hw)|(apply P5;apply U9;refine MS ?_;intro w hw)|(apply I7;apply U9;refine EF ?_;intro w hw))
 refine A0 rfl (fun h2=>?_) (fun h2=>?_)
 ·have h2:((decide (σ.er=0)&&F8 toks σ.I 1)||(decide (σ.er=0)&&F8 toks σ.I 3))=true:=h2
  rw[if_pos h2];have hlt:σ.I<toks.length:=by
   rw[Bool.or_eq_true]at h2;rcases h2 with q|q
   ·exact S0 (T9 q)
   ·exact S0 (T9 q)
  obtain⟨t,htk⟩:=B8 (l:=toks) (k:=σ.I) hlt
  have hpk:pk toks σ.I=t:=Bn htk
  rw[hpk];have hn2:σ.I<n:=by omega
  repeat first|refine A5 ?_|refine A6 ?_;intro w hw
  refine IE [] (I5 bp s a n c σ::.blk b2 (.cells (enc (default:Val)).toArray 65)::S) [[],[],[],[],[],[],[],[],[],[],[],[],[0],[]] [[],[],[],[],[0],[],[],[],[0],[],[],[],[0],[]] hw ?_
  refine W9 ?_;have hN2:=Cj (toks:=toks) (e:=C0 s) (τ:=σ) (kind:=t.Kind) (by omega)
  have hN3:=NJ (toks:=toks) (e:=C0 s) (σ:=σ) (kind:=t.Kind)
  have hNm:∀(R:List B5) (w:World),Wd Γ ((I5 bp s a n c σ::.blk b2 (.cells (enc (default:Val)).toArray 65)::S)++R) w→Calls Tryz.prog 40 [.pointer (some ⟨bp,0,none⟩),.int .i64 t.Kind].toArray w fun e w'=>e=.returned (.string (N9 toks (C0 s) σ t.Kind).1)∧Wd Γ ((I5 bp s a n c (N9 toks (C0 s) σ t.Kind).2::.blk b2 (.cells (enc (default:Val)).toArray 65)::S)++R) w':=fun R w hw=>DX t.Kind hI hw
  unfold HJ;generalize N9 toks (C0 s) σ t.Kind=q at *
  obtain⟨nm,τ⟩:=q;dsimp only at hN2 hN3 hNm ⊢
  refine Tq (c:=0) (vs:=[.pointer (some ⟨bp,0,none⟩),.int .i64 t.Kind]) (v:=.string nm) (I5 bp s a n c τ::.blk b2 (.cells (enc (default:Val)).toArray 65)::S) hNm ?_
  refine W9 ?_;refine X6 fun w g hw=>?_
  have hw:Wd Γ ([]++((I5 bp s a n c τ::.blk b2 (.cells (enc (default:Val)).toArray 65)::S)++[])) w:=hw
  rw[List.append_nil,List.nil_append]at hw;repeat first|refine A5 ?_|refine A6 ?_;intro w hw
  refine J6 (fun ρ w=>Has ρ [(2,.pointer (some ⟨b2,0,none⟩)),(3,.string nm)]∧Wd Γ (I5 bp s a n c (if nm=⟨#[]⟩ then J7 toks (C0 s) τ (τ.I-1) 63 else τ)::.blk b2 (.cells (enc (default:Val)).toArray 65)::S) w) ?_ ?_
  ·refine A0 rfl (fun h3=>?_) (fun h3=>?_)
   ·have h3:nm=⟨#[]⟩:=of_decide_eq_true h3
    rw[if_pos h3];repeat first|refine A5 ?_|refine A6 ?_;intro w hw
    refine B9 ?_;refine(Q6 ((τ.I:Int)-1) (τ.I-1) 63 (fun h0=>by have:=hN3 h0;omega) hw).mono ?_
    clear hw;rintro r w ⟨rfl,hw⟩
    refine⟨_,rfl,?_⟩;repeat first|refine A5 ?_|refine A6 ?_;intro w hw
    exact⟨⟨rfl,rfl,trivial⟩,hw⟩
   ·have h3:¬nm=⟨#[]⟩:=of_decide_eq_false h3
    rw[if_neg h3];repeat first|refine A5 ?_|refine A6 ?_;intro w hw
    exact⟨⟨rfl,rfl,trivial⟩,hw⟩
  clear hw;rintro ρ w ⟨hρ,hw⟩
  rw[hρ.eq];repeat first|refine A5 ?_|refine A6 ?_;intro w hw
  refine A9 (i:=1) ?_
  intro w hw;have hw:Wd Γ (I5 bp s a n c (if nm=⟨#[]⟩ then J7 toks (C0 s) τ (τ.I-1) 63 else τ)::.blk b2 (.cells (enc (⟨2,0,nm⟩:Val)).toArray 65)::S) w:=hw
  repeat first|refine A5 ?_|refine A6 ?_;intro w hw
  exact⟨[.agg (enc (⟨2,0,nm⟩:Val)).toArray],⟨J2 (i:=1) hw rfl rfl rfl,trivial⟩,rfl,hw.dropAt 1⟩
 have h2:¬((decide (σ.er=0)&&F8 toks σ.I 1)||(decide (σ.er=0)&&F8 toks σ.I 3))=true:=by
  have h2:((decide (σ.er=0)&&F8 toks σ.I 1)||(decide (σ.er=0)&&F8 toks σ.I 3))=false:=h2
  rw[h2];decide
 rw[if_neg h2];repeat first|refine A5 ?_|refine A6 ?_;intro w hw
 refine B9 ?_;refine(Q6 (σ.I:Int) σ.I 50 (fun _=>rfl) hw).mono ?_
 clear hw;rintro r w ⟨rfl,hw⟩
 refine⟨_,rfl,?_⟩;repeat first|refine A5 ?_|refine A6 ?_;intro w hw
 refine A9 (i:=1) ?_
 intro w hw;have hw:Wd Γ (I5 bp s a n c (J7 toks (C0 s) σ σ.I 50)::.blk b2 (.cells (enc (default:Val)).toArray 65)::S) w:=hw
 repeat first|refine A5 ?_|refine A6 ?_;intro w hw
 exact⟨[.agg (enc (default:Val)).toArray],⟨J2 (i:=1) hw rfl rfl rfl,trivial⟩,rfl,hw.dropAt 1⟩
end
end Go.Proofs.YtlmiakjbogojgaaGreatDoor
end
section
open Go Mk
namespace Go.Proofs.YtlmiakjbogojgaaGreatDoor
set_option maxHeartbeats 16000000
attribute [local irreducible] Calls B0 C0
theorem G9{toks:List Tok}{k:Nat}{kind:Int}(h0:kind≠0):F8 toks k kind=decide ((pk toks k).Kind=kind):=by
 unfold F8 pk;cases toks[k]? with
 | none=>exact(decide_eq_false fun h=>h0 h.symm).symm
 | some t=>rfl
theorem V5{toks:List Tok}{e:C8}{σ:RS}{i:Nat}{er:Int}(h:σ.er=0):J7 toks e σ i er=⟨σ.I,G2 toks i e,er⟩:=if_pos h
theorem Hn{toks:List Tok}{e:C8}{σ:RS}{i:Nat}{er:Int}(h:σ.er≠0):J7 toks e σ i er=σ:=if_neg h
section
variable {toks:List Tok}{e:C8}{σ:RS}
theorem CW{kind:Int}(h:σ.er=0)(hk:F8 toks σ.I kind=true):K7 toks e σ kind=(pk toks σ.I,⟨σ.I+1,σ.p,0⟩):=by
 unfold K7;rw[hk,decide_eq_true h,h];rfl
theorem GB{kind:Int}(h:σ.er=0)(hk:F8 toks σ.I kind=false):K7 toks e σ kind=(default,⟨σ.I,G2 toks σ.I e,50⟩):=by
 unfold K7;rw[hk,decide_eq_true h,V5 h];rfl
theorem Y9(h:σ.er=0){kind:Int}{text:ByteArray}(hk:L5 toks σ.I kind text=true):G7 toks σ kind text=⟨σ.I+1,σ.p,0⟩:=by
 unfold G7;rw[hk,decide_eq_true h,h];rfl
theorem Lw{kind:Int}{text:ByteArray}(hk:L5 toks σ.I kind text=false):G7 toks σ kind text=σ:=by
 unfold G7;rw[hk,Bool.and_false];rfl
def Ends{α:Type}(P:PR α)(σ:RS)(q:α×RS):Prop:=match P with
 | .ok (v,k1)=>q=(v,⟨k1,σ.p,0⟩)
 | .error (p,er)=>q.2.p=p∧q.2.er=er∧er≠0
theorem Io{k:Nat}:Hv toks e true k=if (pk toks k).Kind≠2 then .error (G2 toks k e,50) else if 9223372036854775808<(pk toks k).Value then .error (G2 toks k e,6) else .ok (Pe (pk toks k).Value,k+1):=by
 unfold Hv;by_cases h1:(pk toks k).Kind≠2
 ·rw[if_pos h1,if_pos h1]
 rw[if_neg h1,if_neg h1];by_cases h2:9223372036854775808<(pk toks k).Value
 ·rw[if_pos (Or.inl ⟨rfl,h2⟩),if_pos h2]
 ·rw[if_neg (show ¬((true=true∧9223372036854775808<(pk toks k).Value)∨(true=false∧9223372036854775808≤(pk toks k).Value)) from fun q=>q.elim (fun q=>h2 q.2) (fun q=>by cases q.1)),if_neg h2];rfl
theorem Fw{k:Nat}:Hv toks e false k=if (pk toks k).Kind≠2 then .error (G2 toks k e,50) else if 9223372036854775808≤(pk toks k).Value then .error (G2 toks k e,6) else .ok (Rf (pk toks k).Value,k+1):=by
 unfold Hv;by_cases h1:(pk toks k).Kind≠2
 ·rw[if_pos h1,if_pos h1]
 rw[if_neg h1,if_neg h1];by_cases h2:9223372036854775808≤(pk toks k).Value
 ·rw[if_pos (Or.inr ⟨rfl,h2⟩),if_pos h2]
 ·rw[if_neg (show ¬((false=true∧9223372036854775808<(pk toks k).Value)∨(false=false∧9223372036854775808≤(pk toks k).Value)) from fun q=>q.elim (fun q=>by cases q.1) (fun q=>h2 q.2)),if_neg h2];rfl
theorem FD(h:σ.er=0)(hd:L5 toks σ.I 4 J8=true){q:Tok×RS}(hq:K7 toks e ⟨σ.I+1,σ.p,0⟩ 2=q):d3 toks e σ=if q.1.Value≤9223372036854775808 then (Pe q.1.Value,q.2) else (0,J7 toks e q.2 (q.2.I-1) 6):=by
 unfold d3;rw[Y9 h hd,hq,hd,decide_eq_true h];dsimp only
 by_cases hv:q.1.Value≤9223372036854775808
 ·rw[if_pos ⟨rfl,hv⟩,if_pos hv]
 ·rw[if_neg (show ¬((true&&true)=true∧q.1.Value≤9223372036854775808) from fun x=>hv x.2),if_neg (show ¬((true&&true)=false∧q.1.Value<9223372036854775808) from fun x=>by cases x.1),if_neg hv]
theorem Jg(hd:L5 toks σ.I 4 J8=false){q:Tok×RS}(hq:K7 toks e σ 2=q):d3 toks e σ=if q.1.Value<9223372036854775808 then (Rf q.1.Value,q.2) else (0,J7 toks e q.2 (q.2.I-1) 6):=by
 unfold d3;rw[Lw hd,hq,hd,Bool.and_false];dsimp only
 rw[if_neg (show ¬(false=true∧q.1.Value≤9223372036854775808) from fun x=>by cases x.1)]
 by_cases hv:q.1.Value<9223372036854775808
 ·rw[if_pos ⟨rfl,hv⟩,if_pos hv]
 ·rw[if_neg (show ¬(false=false∧q.1.Value<9223372036854775808) from fun x=>hv x.2),if_neg hv]
theorem QL(h:σ.er=0)(hd:L5 toks σ.I 4 J8=true):Ends (Hv toks e true (σ.I+1)) σ (d3 toks e σ):=by
 rw[Io];cases hk2:F8 toks (σ.I+1) 2 with
 | true=>
  have hK:(pk toks (σ.I+1)).Kind=2:=of_decide_eq_true ((G9 (by decide)).symm.trans hk2)
  rw[FD h hd (CW (σ:=⟨σ.I+1,σ.p,0⟩) rfl hk2),if_neg (show ¬(pk toks (σ.I+1)).Kind≠2 from fun q=>q hK)];dsimp only
  by_cases hv:9223372036854775808<(pk toks (σ.I+1)).Value
  ·rw[if_pos hv,if_neg (show ¬(pk toks (σ.I+1)).Value≤9223372036854775808 by omega)]
   exact⟨rfl,rfl,by decide⟩
  ·rw[if_neg hv,if_pos (show (pk toks (σ.I+1)).Value≤9223372036854775808 by omega)]
   rfl
 | false=>
  have hK:(pk toks (σ.I+1)).Kind≠2:=of_decide_eq_false ((G9 (by decide)).symm.trans hk2)
  rw[FD h hd (GB (σ:=⟨σ.I+1,σ.p,0⟩) rfl hk2),if_pos hK];exact⟨rfl,rfl,by decide⟩
theorem Qh(h:σ.er=0)(hd:L5 toks σ.I 4 J8=false)(hk:F8 toks σ.I 2=true):Ends (Hv toks e false σ.I) σ (d3 toks e σ):=by
 have hK:(pk toks σ.I).Kind=2:=of_decide_eq_true ((G9 (by decide)).symm.trans hk)
 rw[Fw,Jg hd (CW h hk),if_neg (show ¬(pk toks σ.I).Kind≠2 from fun q=>q hK)];dsimp only
 by_cases hv:9223372036854775808≤(pk toks σ.I).Value
 ·rw[if_pos hv,if_neg (show ¬(pk toks σ.I).Value<9223372036854775808 by omega)]
  exact⟨rfl,rfl,by decide⟩
 ·rw[if_neg hv,if_pos (show (pk toks σ.I).Value<9223372036854775808 by omega)]
  rfl
theorem Ru(h:σ.er≠0):AZ toks e σ=(default,σ):=by
 unfold AZ;rw[decide_eq_false h];simp only[Bool.false_and,Bool.or_false]
 rw[if_neg (by decide),if_neg (by decide),Hn h]
theorem OI{k:Nat}{kind:Int}{text:ByteArray}(h0:kind≠0)(h:L5 toks k kind text=true):(pk toks k).Kind=kind∧(pk toks k).Text=text:=by
 rw[BC h0,Bool.and_eq_true]at h;exact⟨of_decide_eq_true h.1,of_decide_eq_true h.2⟩
theorem JB{k:Nat}{b:Bool}(h:L5 toks k 4 J8=true):Eo toks e b k=if b=true then .error (G2 toks k e,15) else argI (Hv toks e true (k+1)):=by
 obtain⟨k4,kt⟩:=OI (by decide) h
 unfold Eo;rw[if_neg (show ¬((pk toks k).Kind=2∧9223372036854775808≤(pk toks k).Value) from fun q=>by rw[k4]at q;exact absurd q.1 (by decide))]
 rw[if_neg (show ¬((pk toks k).Kind=1∨(pk toks k).Kind=3) from fun q=>by rw[k4]at q;rcases q with q|q <;> exact absurd q (by decide))]
 rw[if_neg (show ¬((pk toks k).Kind≠2∧((pk toks k).Kind≠4∨(pk toks k).Text≠J8)) from fun q=>q.2.elim (fun q=>q k4) (fun q=>q kt))];rw[k4];rfl
theorem Is{k:Nat}{b:Bool}(hK:(pk toks k).Kind=2):Eo toks e b k=if 9223372036854775808≤(pk toks k).Value then .error (G2 toks k e,6) else if b=true then .error (G2 toks k e,15) else argI (Hv toks e false k):=by
 unfold Eo;by_cases hv:9223372036854775808≤(pk toks k).Value
 ·rw[if_pos ⟨hK,hv⟩,if_pos hv]
 rw[if_neg (show ¬((pk toks k).Kind=2∧9223372036854775808≤(pk toks k).Value) from fun q=>hv q.2),if_neg hv];rw[if_neg (show ¬((pk toks k).Kind=1∨(pk toks k).Kind=3) from fun q=>by rw[hK]at q;rcases q with q|q <;> exact absurd q (by decide))]
 rw[if_neg (show ¬((pk toks k).Kind≠2∧((pk toks k).Kind≠4∨(pk toks k).Text≠J8)) from fun q=>q.1 hK)];rw[hK];rfl
theorem GP{k:Nat}{b:Bool}(hK:(pk toks k).Kind=1∨(pk toks k).Kind=3):Eo toks e b k=if (pk toks k).Text=⟨#[]⟩∨24<(pk toks k).Text.size then .error (G2 toks k e,63) else if b=true then .error (G2 toks k e,15) else .ok (⟨2,0,(pk toks k).Text⟩,k+1):=by
 unfold Eo;rw[if_neg (show ¬((pk toks k).Kind=2∧9223372036854775808≤(pk toks k).Value) from fun q=>by rw[q.1]at hK;rcases hK with q|q <;> exact absurd q (by decide)),if_pos hK]
theorem JR{k:Nat}{b:Bool}(h1:¬(pk toks k).Kind=2)(h2:¬((pk toks k).Kind=1∨(pk toks k).Kind=3))(h3:L5 toks k 4 J8=false):Eo toks e b k=.error (G2 toks k e,50):=by
 have hdash:(pk toks k).Kind≠4∨(pk toks k).Text≠J8:=by
  rw[BC (by decide),Bool.and_eq_false_iff]at h3
  rcases h3 with q|q
  ·exact .inl (of_decide_eq_false q)
  ·exact .inr (of_decide_eq_false q)
 unfold Eo;rw[if_neg (show ¬((pk toks k).Kind=2∧9223372036854775808≤(pk toks k).Value) from fun q=>h1 q.1),if_neg h2,if_pos ⟨h1,hdash⟩]
theorem Ends.argI{P:PR Int}{q:Int×RS}(h:Ends P σ q):Ends (argI P) σ ((⟨1,q.1,⟨#[]⟩⟩,q.2):Val×RS):=by
 cases P with
 | ok x=>obtain⟨v,k1⟩:=x;have h:q=(v,⟨k1,σ.p,0⟩):=h;rw[h];rfl
 | error x=>exact h
theorem Qk(h:σ.er=0)(hK:(pk toks σ.I).Kind=1∨(pk toks σ.I).Kind=3):Ends (Eo toks e false σ.I) σ (HJ toks e σ (pk toks σ.I).Kind):=by
 have hks:F8 toks σ.I (pk toks σ.I).Kind=true:=by
  rw[G9 (by rcases hK with q|q <;> rw[q] <;> decide)];exact decide_eq_true rfl
 have hN:N9 toks e σ (pk toks σ.I).Kind=((pk toks σ.I).Text,if 24<(pk toks σ.I).Text.size then ⟨σ.I+1,G2 toks σ.I e,63⟩ else ⟨σ.I+1,σ.p,0⟩):=by
  unfold N9;rw[CW h hks];rfl
 rw[GP hK];unfold HJ;rw[hN];dsimp only
 by_cases hs:24<(pk toks σ.I).Text.size
 ·have hz:¬(pk toks σ.I).Text=⟨#[]⟩:=fun q=>by rw[q]at hs;exact absurd hs (by decide)
  rw[if_pos (Or.inr hs),if_pos hs,if_neg hz];exact⟨rfl,rfl,by decide⟩
 ·rw[if_neg hs];by_cases hz:(pk toks σ.I).Text=⟨#[]⟩
  ·rw[if_pos (Or.inl hz),if_pos hz,V5 rfl];exact⟨rfl,rfl,by decide⟩
  ·rw[if_neg (show ¬((pk toks σ.I).Text=⟨#[]⟩∨24<(pk toks σ.I).Text.size) from fun q=>q.elim hz hs),if_neg hz]
   rfl
theorem MF(h:σ.er=0):Ends (Eo toks e false σ.I) σ (AZ toks e σ):=by
 cases hd:L5 toks σ.I 4 J8 with
 | true=>
  have hA:AZ toks e σ=(⟨1,(d3 toks e σ).1,⟨#[]⟩⟩,(d3 toks e σ).2):=by
   unfold AZ;rw[if_pos (by rw[hd,decide_eq_true h];simp)]
  rw[hA,JB hd];exact(QL h hd).argI
 | false=>
  cases hk2:F8 toks σ.I 2 with
  | true=>
   have hK:(pk toks σ.I).Kind=2:=of_decide_eq_true ((G9 (by decide)).symm.trans hk2)
   have hA:AZ toks e σ=(⟨1,(d3 toks e σ).1,⟨#[]⟩⟩,(d3 toks e σ).2):=by
    unfold AZ;rw[if_pos (by rw[hk2,decide_eq_true h];simp)]
   have hI:=Qh (e:=e) h hd hk2
   rw[hA,Is hK];by_cases hv:9223372036854775808≤(pk toks σ.I).Value
   ·rw[if_pos hv];rw[Fw,if_neg (show ¬(pk toks σ.I).Kind≠2 from fun q=>q hK),if_pos hv]at hI;exact hI
   ·rw[if_neg hv];exact hI.argI
  | false=>
   have hK2:¬(pk toks σ.I).Kind=2:=of_decide_eq_false ((G9 (by decide)).symm.trans hk2)
   have h0:¬((decide (σ.er=0)&&F8 toks σ.I 2)||(decide (σ.er=0)&&L5 toks σ.I 4 J8))=true:=by rw[hk2,hd];simp
   by_cases hK:(pk toks σ.I).Kind=1∨(pk toks σ.I).Kind=3
   ·have hA:AZ toks e σ=HJ toks e σ (pk toks σ.I).Kind:=by
     unfold AZ;rw[if_neg h0,if_pos (by
      rw[G9 (by decide),G9 (by decide),decide_eq_true h]
      rcases hK with q|q <;> rw[q] <;> decide)]
    rw[hA];exact Qk h hK
   ·have hA:AZ toks e σ=(default,J7 toks e σ σ.I 50):=by
     unfold AZ;rw[if_neg h0,if_neg (by
      rw[G9 (by decide),G9 (by decide),decide_eq_true h]
      simpa using hK)]
    rw[hA,JR hK2 hK hd,V5 h];exact⟨rfl,rfl,by decide⟩
theorem Ie:(50:Int)≠0:=by decide
theorem Uz:(63:Int)≠0:=by decide
theorem LJ(h:σ.I≤toks.length):(d3 toks e σ).2.I≤toks.length:=by
 have h1:=Da (σ:=σ) (kind:=4) (text:=J8) h
 have h2:=DO (e:=e) (kind:=2) h1
 unfold d3;dsimp only
 split
 ·exact h2
 ·split
  ·exact h2
  ·rw[V4];exact h2
theorem Tk(h:σ.I≤toks.length):(AZ toks e σ).2.I≤toks.length:=by
 unfold AZ;split
 ·exact LJ h
 ·split
  ·unfold HJ;have:=Cj (e:=e) (kind:=(pk toks σ.I).Kind) h
   dsimp only
   split
   ·rw[V4];exact this
   ·exact this
  ·show (J7 toks e σ σ.I 50).I≤_
   rw[V4];exact h
def Goes{α:Type}(P:PR α)(σ:RS)(Q:Nat→PR α):Prop:=(σ.er=0∧P=Q σ.I)∨(σ.er≠0∧P=.error (σ.p,σ.er))
theorem Goes.need{α:Type}{P:PR α}{kind:Int}{text:ByteArray}{Q:Nat→PR α}(h:Goes P σ fun k=>if L5 toks k kind text=true then Q (k+1) else .error (G2 toks k e,50)):Goes P (Q0 toks e σ kind text) Q:=by
 unfold Q0;rcases h with⟨h1,h2⟩|⟨h1,h2⟩
 ·have h2:P=if L5 toks σ.I kind text=true then Q (σ.I+1) else .error (G2 toks σ.I e,50):=h2
  rw[decide_eq_true h1,Bool.true_and];by_cases hi:L5 toks σ.I kind text=true
  ·rw[if_pos hi]at h2 ⊢
   exact .inl ⟨h1,h2⟩
  ·rw[if_neg hi]at h2 ⊢
   rw[V5 h1];exact .inr ⟨Ie,h2⟩
 ·rw[decide_eq_false h1,Bool.false_and,if_neg (by decide),Hn h1]
  exact .inr ⟨h1,h2⟩
theorem ME(h:σ.er=0)(hk:F8 toks σ.I 1=false):N9 toks e σ 1=(⟨#[]⟩,⟨σ.I,G2 toks σ.I e,50⟩):=by
 unfold N9;rw[GB h hk];rfl
theorem Hm(h:σ.er=0)(hk:F8 toks σ.I 1=true):N9 toks e σ 1=((pk toks σ.I).Text,if 24<(pk toks σ.I).Text.size then ⟨σ.I+1,G2 toks σ.I e,63⟩ else ⟨σ.I+1,σ.p,0⟩):=by
 unfold N9;rw[CW h hk];rfl
end
end Go.Proofs.YtlmiakjbogojgaaGreatDoor
end
section
open Go Mk
namespace Go.Proofs.YtlmiakjbogojgaaGreatDoor
set_option maxHeartbeats 4000000
attribute [local irreducible] Calls B0 C0
section
variable {toks:List Tok}{e:C8}{σ:RS}{k:Nat}
theorem N3:D2 toks k=pk toks k:=by
 unfold D2 pk;rw[List.getD_eq_getElem?_getD]
theorem M2{kind:Int}(h0:kind≠0){text:ByteArray}:M4 toks k kind text=L5 toks k kind text:=by
 unfold M4 L5;rw[N3];unfold pk;cases h:toks[k]? with
 | some t=>rfl
 | none=>
  show (decide ((0:Int)=kind)&&_)=false
  rw[decide_eq_false (fun q=>h0 q.symm)];rfl
theorem Ends.map{α β:Type}{P:PR α}{q:α×RS}(f:α→β)(h:Ends P σ q):Ends (Ek f P) σ (f q.1,q.2):=by
 cases P with
 | error x=>exact h
 | ok x=>
  obtain⟨v,k1⟩:=x;have h:q=(v,⟨k1,σ.p,0⟩):=h
  subst h;rfl
def Mh(v:Val):G8:=⟨C5,v⟩
theorem LQ(hW:X8 toks)(h:¬(pk toks k).Kind=1∨((pk toks k).Kind=1∧u3 (pk toks k).Text=false∧Gf (pk toks k).Text=false)):AV toks e k=Ek Mh (Eo toks e false k):=by
 unfold AV;rw[N3];by_cases h1:(pk toks k).Kind=1
 ·obtain⟨-,hk,hv⟩:=h.resolve_left fun q=>q h1
  have h0:0<(pk toks k).Text.size:=by
   have:=hW k (by rw[N3];exact h1)
   rwa [N3]at this
  have hne:(pk toks k).Text≠⟨#[]⟩:=fun q=>by rw[q]at h0;exact absurd h0 (by decide)
  rw[if_pos h1,GP (.inl h1)];unfold M5;rw[N3,if_pos ⟨h1,hk⟩];by_cases h24:(pk toks k).Text.size≤24
  ·rw[if_pos h24,if_neg (fun q=>by rcases q with q|q;exact hne q;omega),if_neg (by decide)]
   show Except.ok (Cs (pk toks k).Text,k+1)=_
   unfold Cs;rw[hv,if_neg (by decide)];rfl
  ·rw[if_neg h24,if_pos (.inr (by omega))];rfl
 ·rw[if_neg h1];by_cases h3:(pk toks k).Kind=3
  ·rw[if_pos h3,GP (.inr h3)];split
   ·rfl
   ·rw[if_neg (by decide)];rfl
  ·rw[if_neg h3];have hd:M4 toks k 4 BH=L5 toks k 4 J8:=M2 (by decide)
   unfold Ai;rw[hd];by_cases hm:L5 toks k 4 J8=true
   ·rw[if_pos hm,JB hm,if_neg (by decide),Io]
    unfold d4;rw[N3];by_cases h2:(pk toks (k+1)).Kind=2
    ·rw[if_pos h2,if_neg (show ¬(pk toks (k+1)).Kind≠2 from fun q=>q h2)];by_cases h5:(pk toks (k+1)).Value≤9223372036854775808
     ·rw[if_pos h5,if_neg (by omega)];rfl
     ·rw[if_neg h5,if_pos (by omega)];rfl
    ·rw[if_neg h2,if_pos h2];rfl
   ·rw[if_neg hm];unfold d4;rw[N3];by_cases h2:(pk toks k).Kind=2
    ·rw[if_pos h2,Is h2];by_cases h5:(pk toks k).Value≤9223372036854775807
     ·rw[if_pos h5,if_neg (by omega),if_neg (by decide),Fw,if_neg (fun q=>q h2),if_neg (by omega)];rfl
     ·rw[if_neg h5,if_pos (by omega)];rfl
    ·rw[if_neg h2,JR h2 (fun q=>by rcases q with q|q;exact h1 q;exact h3 q) (by simpa using hm)];rfl
def AT(toks:List Tok)(e:C8)(σ:RS):G8×RS:=
 if (decide (σ.er=0)&&F8 toks σ.I 1)=true∧u3 (pk toks σ.I).Text=true then (Q3,J7 toks e σ σ.I 50)
 else if (decide (σ.er=0)&&F8 toks σ.I 1)=true∧Gf (pk toks σ.I).Text=true then (⟨(N9 toks e σ 1).1,H8⟩,(N9 toks e σ 1).2)
 else (Mh (AZ toks e σ).1,(AZ toks e σ).2)
theorem Ex(h:σ.er≠0):(AT toks e σ).2=σ:=by
 unfold AT;have h1:(decide (σ.er=0)&&F8 toks σ.I 1)=false:=by rw[decide_eq_false h];rfl
 rw[h1,if_neg (fun q=>by cases q.1),if_neg (fun q=>by cases q.1),Ru h]
theorem Hs(h:σ.I≤toks.length):(AT toks e σ).2.I≤toks.length:=by
 unfold AT;split
 ·rw[V4];exact h
 split
 ·exact Cj h
 ·exact Tk h
theorem De(hW:X8 toks)(h:σ.er=0):Ends (AV toks e σ.I) σ (AT toks e σ):=by
 have hE:decide (σ.er=0)=true:=decide_eq_true h
 unfold AT;rw[hE,Bool.true_and];by_cases hk:F8 toks σ.I 1=true
 ·have hK:(pk toks σ.I).Kind=1:=by
   rw[G9 (by decide)]at hk
   exact of_decide_eq_true hk
  by_cases hw:u3 (pk toks σ.I).Text=true
  ·rw[if_pos ⟨hk,hw⟩,V5 h];have:AV toks e σ.I=.error (G2 toks σ.I e,50):=by
    unfold AV M5;rw[N3,if_pos hK,if_neg (fun q=>by rw[hw]at q;cases q.2)];rfl
   rw[this];exact⟨rfl,rfl,by decide⟩
  ·have hw:u3 (pk toks σ.I).Text=false:=by simpa using hw
   rw[if_neg (fun q=>by rw[hw]at q;cases q.2)]
   by_cases hv:Gf (pk toks σ.I).Text=true
   ·rw[if_pos ⟨hk,hv⟩,Hm h hk];have:AV toks e σ.I=if (pk toks σ.I).Text.size≤24 then .ok (⟨(pk toks σ.I).Text,H8⟩,σ.I+1) else .error (G2 toks σ.I e,63):=by
     unfold AV M5;rw[N3,if_pos hK,if_pos ⟨hK,hw⟩];by_cases h24:(pk toks σ.I).Text.size≤24
     ·rw[if_pos h24,if_pos h24];show Except.ok (Cs _,_)=_
      unfold Cs;rw[if_pos hv]
     ·rw[if_neg h24,if_neg h24];rfl
    rw[this];by_cases h24:(pk toks σ.I).Text.size≤24
    ·rw[if_pos h24,if_neg (by omega)];rfl
    ·rw[if_neg h24,if_pos (by omega)]
     exact⟨rfl,rfl,by decide⟩
   ·rw[if_neg (fun q=>hv q.2),LQ hW (.inr ⟨hK,hw,by simpa using hv⟩)]
    exact(MF h).map Mh
 ·rw[if_neg (fun q=>hk q.1),if_neg (fun q=>hk q.1),LQ hW (.inl (fun q=>hk (by rw[G9 (by decide)];exact decide_eq_true q)))]
  exact(MF h).map Mh
theorem HD(h:σ.er=0)(hk:F8 toks σ.I 1=true→u3 (pk toks σ.I).Text=false):Ends (M5 toks e σ.I) σ (N9 toks e σ 1):=by
 by_cases h1:F8 toks σ.I 1=true
 ·have hK:(pk toks σ.I).Kind=1:=by
   rw[G9 (by decide)]at h1
   exact of_decide_eq_true h1
  rw[Hm h h1];unfold M5;rw[N3,if_pos ⟨hK,hk h1⟩];by_cases h24:(pk toks σ.I).Text.size≤24
  ·rw[if_pos h24,if_neg (by omega)];rfl
  ·rw[if_neg h24,if_pos (by omega)]
   exact⟨rfl,rfl,by decide⟩
 ·have h2:F8 toks σ.I 1=false:=by simpa using h1
  rw[ME h h2];unfold M5;rw[N3,if_neg (fun q=>by
   rw[G9 (by decide),decide_eq_false_iff_not]at h2
   exact h2 q.1)]
  exact⟨rfl,rfl,by decide⟩
theorem Goes.next{α β:Type}{P:PR β}{R:Nat→PR α}{f:α→Nat→PR β}{q:α×RS}(h:Goes P σ fun k=>C6 (R k) f)(hs:σ.er=0→Ends (R σ.I) σ q)(he:σ.er≠0→q.2=σ):Goes P q.2 (f q.1):=by
 rcases h with⟨h0,hP⟩|⟨h0,hP⟩
 ·have hE:=hs h0
  have hP:P=C6 (R σ.I) f:=hP
  rw[hP];cases hR:R σ.I with
  | ok x=>
   obtain⟨v,k1⟩:=x;rw[hR]at hE;have hE:q=(v,⟨k1,σ.p,0⟩):=hE
   subst hE;exact .inl ⟨rfl,rfl⟩
  | error x=>
   obtain⟨p,er⟩:=x;rw[hR]at hE;obtain⟨h1,h2,h3⟩:=hE;refine .inr ⟨by rw[h2];exact h3,?_⟩
   rw[h1,h2];rfl
 ·rw[he h0];exact .inr ⟨h0,hP⟩
theorem Goes.exp{β:Type}{P:PR β}{kind:Int}{text:ByteArray}{Q:Nat→PR β}(h0:kind≠0)(h:Goes P σ fun k=>C6 (m8 toks e kind text k) fun _ k1=>Q k1):Goes P (Q0 toks e σ kind text) Q:=by
 refine Goes.need ?_
 rcases h with⟨h1,hP⟩|h
 ·refine .inl ⟨h1,?_⟩
  have hP:P=C6 (m8 toks e kind text σ.I) (fun _ k1=>Q k1):=hP
  rw[hP];show C6 (m8 toks e kind text σ.I) _=if L5 toks σ.I kind text=true then Q (σ.I+1) else .error (G2 toks σ.I e,50)
  unfold m8;rw[M2 h0];split <;> rfl
 ·exact .inr h
theorem w6{α β γ:Type}{x:PR α}{f:α→Nat→PR β}{g:β→Nat→PR γ}:C6 (C6 x f) g=C6 x fun a k=>C6 (f a k) g:=by
 cases x with
 | error q=>rfl
 | ok q=>rfl
theorem Goes.args{β:Type}{P:PR β}{f:Nat}{acc:List G8}{R:List G8→Nat→PR β}(h:Goes P σ fun k=>C6 (m4 toks e (f+1) acc k) R) :
  ((decide (σ.er=0)&&L5 toks σ.I 4 I9)=true∧Goes P (G7 toks σ 4 I9) fun k=>C6 (AV toks e k) fun o k1=>C6 (m4 toks e f (acc++[o]) k1) R) ∨
  ((decide (σ.er=0)&&L5 toks σ.I 4 I9)=false∧Goes P σ (R acc)):=by
 rcases h with⟨h0,hP⟩|⟨h0,hP⟩
 ·have hP:P=C6 (m4 toks e (f+1) acc σ.I) R:=hP
  unfold m4 at hP;have hc:M4 toks σ.I 4 K4=L5 toks σ.I 4 I9:=M2 (by decide)
  rw[hc]at hP;by_cases hb:L5 toks σ.I 4 I9=true
  ·refine .inl ⟨by rw[hb,decide_eq_true h0];rfl,?_⟩
   rw[Y9 h0 hb];refine .inl ⟨rfl,?_⟩
   rw[hP,if_pos hb,w6]
  ·refine .inr ⟨by rw[decide_eq_true h0];simpa using hb,.inl ⟨h0,?_⟩⟩
   rw[hP,if_neg hb];rfl
 ·exact .inr ⟨by rw[decide_eq_false h0];rfl,.inr ⟨h0,hP⟩⟩
end
end Go.Proofs.YtlmiakjbogojgaaGreatDoor
end
section
open Go Mk
namespace Go.Proofs.YtlmiakjbogojgaaGreatDoor
set_option maxHeartbeats 16000000
attribute [local irreducible] Calls B0 C0
section
variable {Γ:C4}{S:List B5}{w:World}{bp:Nat}{s:ByteArray}{a:Option Addr}{n c:Nat}{σ:RS}{toks:List Tok}
theorem m5[ht:z8 Γ a n c toks][hs:SZ s](hW:X8 toks)(hI:σ.I≤n)(hw:Wd Γ (I5 bp s a n c σ::S) w) :
  Calls Tryz.prog 99 #[.pointer (some ⟨bp,0,none⟩)] w fun r w'=>r=.returned (.agg (enc (AT toks (C0 s) σ).1).toArray)∧Wd Γ (I5 bp s a n c (AT toks (C0 s) σ).2::S) w':=by
 obtain⟨hn,hnc,hc⟩:=ht.len;have hbig:=ht.big
 have hr:=ht.h
 refine F1 Tryz.func99 rfl rfl ?_
 repeat first|refine A5 ?_|refine A6 ?_;intro w hw
 refine B7 ?_;intro b2 w hw;have hw:Wd Γ (I5 bp s a n c σ::.blk b2 (.cells (enc (Q3:G8)).toArray 75)::S) w:=hw.ps [1]
 have hp0:=hW σ.I
 rw[N3]at hp0;unfold AT;repeat(first|refine A5 ?_|(refine A6 ?_;intro w hw)|(apply P5;apply U9;refine MS ?_;intro w hw)|(apply I7;apply U9;refine EF ?_;intro w hw))
 refine J6 (fun ρ w=>((decide (σ.er=0)&&F8 toks σ.I 1)=true→u3 (pk toks σ.I).Text=false∧Gf (pk toks σ.I).Text=false)∧Has ρ [(0,.pointer (some ⟨bp,0,none⟩)),(2,.pointer (some ⟨b2,0,none⟩))]∧Wd Γ (I5 bp s a n c σ::.blk b2 (.cells (enc (Q3:G8)).toArray 75)::S) w) ?_ ?_
 ·refine A0 rfl (fun h=>?_) (fun h=>?_)
  ·have h:(decide (σ.er=0)&&F8 toks σ.I 1)=true:=h
   have hlt:σ.I<toks.length:=S0 (T9 h)
   have hK:(pk toks σ.I).Kind=1:=by
    have:=T9 h
    rw[G9 (by decide)]at this
    exact of_decide_eq_true this
   have hp0:=hp0 hK
   obtain⟨t,htk⟩:=B8 (l:=toks) (k:=σ.I) hlt
   have hpk:pk toks σ.I=t:=Bn htk
   rw[hpk]at hp0 hK ⊢
   rw[h];have hn2:σ.I<n:=by omega
   repeat first|refine A5 ?_|refine A6 ?_;intro w hw
   refine H0 (by kernel_rfl) (by kernel_rfl) hw ?_
   refine Bt ?_;intro w hw;repeat first|refine A5 ?_|refine A6 ?_;intro w hw
   have hne:(0:Nat)<t.Text.size:=hp0
   refine A0 rfl (fun h1=>?_) (fun h1=>?_)
   ·have h1:u3 t.Text=true:=h1
    rw[h1,if_pos ⟨rfl,rfl⟩];repeat first|refine A5 ?_|refine A6 ?_;intro w hw
    refine B9 ?_;refine(Q6 (σ.I:Int) σ.I 50 (fun _=>rfl) hw).mono ?_
    clear hw;rintro r w ⟨rfl,hw⟩
    refine⟨_,rfl,?_⟩;repeat first|refine A5 ?_|refine A6 ?_;intro w hw
    refine A9 (i:=1) ?_
    intro w hw;have hw:Wd Γ (I5 bp s a n c (J7 toks (C0 s) σ σ.I 50)::.blk b2 (.cells (enc (Q3:G8)).toArray 75)::S) w:=hw
    repeat first|refine A5 ?_|refine A6 ?_;intro w hw
    exact⟨[.agg (enc (Q3:G8)).toArray],⟨J2 (i:=1) hw rfl rfl rfl,trivial⟩,rfl,hw.dropAt 1⟩
   have h1:u3 t.Text=false:=h1
   rw[h1,if_neg (show ¬(true=true∧false=true) from fun q=>by cases q.2)]
   repeat first|refine A5 ?_|refine A6 ?_;intro w hw
   refine A0 rfl (fun h2=>?_) (fun h2=>?_)
   ·have h2:Gf t.Text=true:=h2
    rw[h2,if_pos ⟨rfl,rfl⟩];repeat first|refine A5 ?_|refine A6 ?_;intro w hw
    refine B9 ?_;refine(DX 1 hI hw).mono ?_
    clear hw;rintro r w ⟨rfl,hw⟩
    refine⟨_,rfl,?_⟩;generalize N9 toks (C0 s) σ 1=q at *
    repeat first|refine A5 ?_|refine A6 ?_;intro w hw
    refine A9 (i:=1) ?_
    intro w hw;have hw:Wd Γ (I5 bp s a n c q.2::.blk b2 (.cells (enc (⟨q.1,H8⟩:G8)).toArray 75)::S) w:=hw
    repeat first|refine A5 ?_|refine A6 ?_;intro w hw
    exact⟨[.agg (enc (⟨q.1,H8⟩:G8)).toArray],⟨J2 (i:=1) hw rfl rfl rfl,trivial⟩,rfl,hw.dropAt 1⟩
   have h2:Gf t.Text=false:=h2
   repeat first|refine A5 ?_|refine A6 ?_;intro w hw
   exact⟨fun _=>⟨rfl,h2⟩,⟨rfl,rfl,trivial⟩,hw⟩
  ·have h:(decide (σ.er=0)&&F8 toks σ.I 1)=false:=h
   repeat first|refine A5 ?_|refine A6 ?_;intro w hw
   exact⟨(fun q=>by rw[h]at q;cases q),⟨rfl,rfl,trivial⟩,hw⟩
 clear hw;rintro ρ w ⟨hH,hρ,hw⟩
 rw[hρ.eq];clear hρ;rw[if_neg (fun q=>by rw[(hH q.1).1]at q;cases q.2),if_neg (fun q=>by rw[(hH q.1).2]at q;cases q.2)]
 repeat first|refine A5 ?_|refine A6 ?_;intro w hw
 refine B9 ?_;refine(IG hI hw).mono ?_
 clear hw;rintro r w ⟨rfl,hw⟩
 refine⟨_,rfl,?_⟩;generalize AZ toks (C0 s) σ=q at *
 repeat first|refine A5 ?_|refine A6 ?_;intro w hw
 refine A9 (i:=1) ?_
 intro w hw;have hw:Wd Γ (I5 bp s a n c q.2::.blk b2 (.cells (enc (Mh q.1)).toArray 75)::S) w:=hw
 repeat first|refine A5 ?_|refine A6 ?_;intro w hw
 exact⟨[.agg (enc (Mh q.1)).toArray],⟨J2 (i:=1) hw rfl rfl rfl,trivial⟩,rfl,hw.dropAt 1⟩
end
end Go.Proofs.YtlmiakjbogojgaaGreatDoor
end
section
open Go Mk
namespace Go.Proofs.YtlmiakjbogojgaaGreatDoor
set_option maxHeartbeats 16000000
attribute [local irreducible] Calls B0 C0
def rdS{α:Type}(R:Nat→PR α)(σ:RS):PR α:=if σ.er=0 then R σ.I else .error (σ.p,σ.er)
theorem Goes.start{α:Type}{R:Nat→PR α}{σ:RS}:Goes (rdS R σ) σ R:=by
 unfold rdS;by_cases h:σ.er=0
 ·exact .inl ⟨h,if_pos h⟩
 ·exact .inr ⟨h,if_neg h⟩
theorem Goes.cont{α β:Type}{P:PR β}{R:Nat→PR α}{K:α→Nat→PR β}{σ σ':RS}{x:α}(h:Goes P σ fun k=>C6 (R k) K)(h2:Goes (rdS R σ) σ' fun k=>.ok (x,k)):Goes P σ' (K x):=by
 unfold rdS at h2;rcases h with⟨h0,hP⟩|⟨h0,hP⟩
 ·rw[if_pos h0]at h2;have hP:P=C6 (R σ.I) K:=hP
  rw[hP];rcases h2 with⟨g0,hR⟩|⟨g0,hR⟩
  ·rw[hR];exact .inl ⟨g0,rfl⟩
  ·rw[hR];exact .inr ⟨g0,rfl⟩
 ·rw[if_neg h0]at h2;rcases h2 with⟨g0,hR⟩|⟨g0,hR⟩
  ·cases hR
  ·injection hR with hR
   exact .inr ⟨g0,by rw[hP,hR]⟩
theorem Goes.map{α:Type}{P:PR α}{Q Q':Nat→PR α}{σ:RS}(h:Goes P σ Q)(hq:∀k,Q k=Q' k):Goes P σ Q':=by
 rcases h with⟨h0,hP⟩|h
 ·exact .inl ⟨h0,by rw[hP,hq]⟩
 ·exact .inr h
section
variable {Γ:C4}{S:List B5}{w:World}{bp:Nat}{s:ByteArray}{a:Option Addr}{n c:Nat}{σ:RS}{toks:List Tok}
theorem SN(hW:X8 toks){e:C8}(h:σ.er=0)(h2:(AT toks e σ).2.er=0):σ.I<(AT toks e σ).2.I:=by
 have hE:=De (e:=e) hW h
 cases hO:AV toks e σ.I with
 | error q=>
  obtain⟨p,er⟩:=q;rw[hO]at hE;obtain⟨-,h3,h4⟩:=hE;exact absurd (h3.symm.trans h2) h4
 | ok q=>
  obtain⟨o,k⟩:=q;rw[hO]at hE;have hE:AT toks e σ=(o,⟨k,σ.p,0⟩):=hE
  rw[hE];exact BD hO
theorem Fa[ht:z8 Γ a n c toks][hs:SZ s](hW:X8 toks)(hI:σ.I≤n)(kind:Int)(hkw:σ.er=0→F8 toks σ.I 1=true→u3 (pk toks σ.I).Text=false)(hw:Wd Γ (I5 bp s a n c σ::S) w) :
  Calls Tryz.prog 98 #[.pointer (some ⟨bp,0,none⟩),.int .i64 kind] w fun r w'=>∃(g:F6) (v:EN) (σ':RS),r=.returned (.agg (cG ⟨g,v.1,v.2.1,v.2.2⟩).toArray)∧σ'.I≤n∧Goes (rdS (BI toks (C0 s) kind) σ) σ' (fun k=>.ok (g,k))∧Wd Γ (.own (Ef v) 75 4 (g.Args.map enc)::I5 bp s a n c σ'::S) w':=by
 obtain⟨hn,hnc,hc⟩:=ht.len;have hbig:=ht.big
 have hr:=ht.h
 obtain⟨P,hP⟩:∃P,P=rdS (BI toks (C0 s) kind) σ:=⟨_,rfl⟩
 have hG:Goes P σ (BI toks (C0 s) kind):=by rw[hP];exact Goes.start
 rw[←hP];clear hP;unfold BI at hG;have hG:=hG.next (q:=N9 toks (C0 s) σ 1) (fun h0=>HD h0 (hkw h0)) FW
 have hI1:=Cj (toks:=toks) (e:=C0 s) (kind:=1) (τ:=σ) (by omega)
 refine F1 Tryz.func98 rfl rfl ?_
 repeat first|refine A5 ?_|refine A6 ?_;intro w hw
 refine B7 ?_;intro b4 w hw;have hw:Wd Γ (I5 bp s a n c σ::.blk b4 (.cells (cG ⟨⟨0,C5,[],0,D3,D3,0,0,0⟩,none,0,0⟩).toArray 77)::S) w:=hw.ps [1]
 repeat first|refine A5 ?_|refine A6 ?_;intro w hw
 refine B9 ?_;refine(DX 1 hI hw).mono ?_
 clear hw;rintro r w ⟨rfl,hw⟩
 refine⟨_,rfl,?_⟩;generalize N9 toks (C0 s) σ 1=q at *
 obtain⟨nm,σ1⟩:=q;dsimp only at hw hG hI1 ⊢
 repeat first|refine A5 ?_|refine A6 ?_;intro w hw
 refine B7 ?_;intro b5 w hw;refine A9 ?_;intro w hw;have hw:Wd Γ (I5 bp s a n c σ1::.blk b5 (.cells (cG ⟨⟨kind,nm,[],0,D3,D3,0,0,0⟩,none,0,0⟩).toArray 77)::.blk b4 (.cells (cG ⟨⟨0,C5,[],0,D3,D3,0,0,0⟩,none,0,0⟩).toArray 77)::S) w:=hw.ps [1]
 repeat first|refine A5 ?_|refine A6 ?_;intro w hw
 refine B9 ?_;refine(AS 4 AR hw).mono ?_
 clear hw;rintro r w ⟨rfl,hw⟩
 refine⟨_,rfl,?_⟩;have hG:Goes P (Q0 toks (C0 s) σ1 4 AR) _:=Goes.exp (by decide) hG
 have hI2:(Q0 toks (C0 s) σ1 4 AR).I≤n:=by rw[hn];exact BZ hI1
 generalize Q0 toks (C0 s) σ1 4 AR=σ2 at *
 have hw:Wd Γ (.own (.slice none 0 0) 75 4 (([]:List G8).map enc)::I5 bp s a n c σ2::.blk b5 (.cells (cG ⟨⟨kind,nm,[],0,D3,D3,0,0,0⟩,none,0,0⟩).toArray 77)::.blk b4 (.cells (cG ⟨⟨0,C5,[],0,D3,D3,0,0,0⟩,none,0,0⟩).toArray 77)::S) w:=Wd.addNil (a:=none) (E:=75) (sz:=4) hw
 refine R5 ?_
 refine Q7 ?_
 refine J6 (fun ρ w=>∃(σ:RS) (acc:List G8) (A:Option Addr) (N C:Nat),σ.I≤n∧Has ρ [(0,.pointer (some ⟨bp,0,none⟩)),(4,.pointer (some ⟨b4,0,none⟩)),(5,.pointer (some ⟨b5,0,none⟩))]∧Goes P σ (fun k=>C6 (m8 toks (C0 s) 4 DJ k) fun _ k5=>.ok (⟨kind,nm,acc,0,D3,D3,0,0,0⟩,k5))∧Wd Γ (.own (.slice A N C) 75 4 (acc.map enc)::I5 bp s a n c σ::.blk b5 (.cells (cG ⟨⟨kind,nm,acc,0,D3,D3,0,0,0⟩,A,N,C⟩).toArray 77)::.blk b4 (.cells (cG ⟨⟨0,C5,[],0,D3,D3,0,0,0⟩,none,0,0⟩).toArray 77)::S) w) ?_ ?_
 ·repeat first|refine A5 ?_|refine A6 ?_;intro w hw
  refine C1 (fun μ ρ w=>∃(σ:RS) (acc:List G8) (A:Option Addr) (N C f:Nat),μ+σ.I=n∧n<f+σ.I∧acc.length≤σ.I∧Has ρ [(0,.pointer (some ⟨bp,0,none⟩)),(4,.pointer (some ⟨b4,0,none⟩)),(5,.pointer (some ⟨b5,0,none⟩))]∧Goes P σ (fun k=>C6 (AV toks (C0 s) k) fun o k3=>C6 (m4 toks (C0 s) f (acc++[o]) k3) fun os k4=>C6 (m8 toks (C0 s) 4 DJ k4) fun _ k5=>.ok (⟨kind,nm,os,0,D3,D3,0,0,0⟩,k5))∧Wd Γ (.own (.slice A N C) 75 4 (acc.map enc)::I5 bp s a n c σ::.blk b5 (.cells (cG ⟨⟨kind,nm,acc,0,D3,D3,0,0,0⟩,A,N,C⟩).toArray 77)::.blk b4 (.cells (cG ⟨⟨0,C5,[],0,D3,D3,0,0,0⟩,none,0,0⟩).toArray 77)::S) w) (n-σ2.I) ⟨σ2,[],none,0,0,toks.length+1,by omega,by omega,by simp,⟨rfl,rfl,rfl,trivial⟩,hG,hw⟩ ?_
  clear hw hG hI2 hI1;rintro μ ρ w ⟨σ,acc,A,N,C,f,hμ,hf,hal,hρ,hG,hw⟩
  rw[hρ.eq];clear hρ;have hNl:N=acc.length:=by
   obtain⟨_,_,_,hE,h2,-,-⟩:=hw.own_shape (i:=0) rfl
   cases hE
   simpa using h2
  have hwK:Wd Γ (I5 bp s a n c σ::.own (.slice A N C) 75 4 (acc.map enc)::.blk b5 (.cells (cG ⟨⟨kind,nm,acc,0,D3,D3,0,0,0⟩,A,N,C⟩).toArray 77)::.blk b4 (.cells (cG ⟨⟨0,C5,[],0,D3,D3,0,0,0⟩,none,0,0⟩).toArray 77)::S) w:=hw.ps [1]
  clear hw;have hw:=hwK
  clear hwK;repeat(first|refine A5 ?_|(refine A6 ?_;intro w hw)|(apply P5;apply U9;refine MS ?_;intro w hw)|(apply I7;apply U9;refine EF ?_;intro w hw))
  refine A0 rfl (fun h=>?_) (fun h=>?_)
  rotate_left
  ·have h0:σ.er≠0:=of_decide_eq_false h
   repeat first|refine A5 ?_|refine A6 ?_;intro w hw
   exact⟨σ,acc,A,N,C,by omega,⟨rfl,rfl,rfl,trivial⟩,.inr (hG.resolve_left fun q=>h0 q.1),hw.ps [1]⟩
  have h0:σ.er=0:=of_decide_eq_true h
  repeat first|refine A5 ?_|refine A6 ?_;intro w hw
  have hG:=hG.next (q:=AT toks (C0 s) σ) (fun h0=>De hW h0) Ex
  have hOp:∀(X:List B5) (w:World),Wd Γ (I5 bp s a n c σ::X) w→_:=fun X w hw=>m5 (S:=X) hW (by omega) hw
  have hI4:=Hs (toks:=toks) (e:=C0 s) (σ:=σ) (by omega)
  have hI5:=SN (toks:=toks) (e:=C0 s) hW h0
  generalize AT toks (C0 s) σ=q at *
  obtain⟨o,σ3⟩:=q;dsimp only at hG hOp hI4 hI5
  refine Y7 [.blk b4 (.cells (cG ⟨⟨0,C5,[],0,D3,D3,0,0,0⟩,none,0,0⟩).toArray 77)] [.blk b5 (.cells (cG ⟨⟨kind,nm,acc,0,D3,D3,0,0,0⟩,A,N,C⟩).toArray 77)] (.own (.slice A N C) 75 4 (acc.map enc)::I5 bp s a n c σ::S) [] [17,18,19] [] [[],[],[],[1],[1],[1],[],[0,1]] [[],[0],[],[1],[1],[1],[],[0,1]] (by rw[List.append_nil];exact hw.perm L2) ?_
  repeat(first|refine mY ?_|refine mP ?_|refine O0 ?_|refine W0 ?_|refine X6 ?_)
  refine X7 (c:=1) (T:=Unit) (T':=Unit) (vs:=[.pointer (some ⟨bp,0,none⟩)]) (fun _=>.agg (enc o).toArray) (fun _=>I5 bp s a n c σ3::.own (.slice A N C) 75 4 (acc.map enc)::S) (R:=fun _=>.own (.slice A N C) 75 4 (acc.map enc)::I5 bp s a n c σ::S) (fun _ Y w hw=>(hOp _ w (hw.ps [1]:Wd Γ (I5 bp s a n c σ::(.own (.slice A N C) 75 4 (acc.map enc)::(S++Y))) w)).mono fun r w h=>⟨(),h.1,h.2⟩) ?_
  refine R2 (T:=Unit) (fun _=>[enc o]) ?_ ?_
  rotate_left
  ·intro t g h;have h2:g 17=.agg (enc o).toArray:=h
   show S1 _ _ [(0,g 17)]=_
   rw[h2];rfl
  refine w5 (T:=Unit×Addr) (j:=2) (j2:=0) (fun t=>some t.2) (fun _=>[enc o]) ?_ ?_
  rotate_left
  ·intro t g h;exact h.2
  refine W9 ?_;refine Y3 (T:=(Unit×Addr)×Value) (j:=2) (val:=fun t=>t.2) ?_ ?_
  rotate_left
  ·intro t g h;exact h.2
  refine v7 fun t w g h hw=>?_
  obtain⟨⟨⟨⟩,aB⟩,vv⟩:=t;have hw:Wd Γ (.blk b5 (.cells #[.int .i64 kind,.string nm,vv,.int .i64 0,.string C5,.int .i64 0,.int .i64 0,.string C5,.string C5,.int .i64 0,.int .i64 0,.string C5,.int .i64 0,.int .i64 0,.int .i64 0] 77)::.own (.slice (some aB) 1 1) 75 4 [enc o]::I5 bp s a n c σ3::.own vv 75 4 (acc.map enc++[enc o])::(S++[.blk b4 (.cells (cG ⟨⟨0,C5,[],0,D3,D3,0,0,0⟩,none,0,0⟩).toArray 77)])) w:=hw
  obtain⟨A2,N2,C2,hvv,hN2,hNC2,hC2⟩:=hw.own_shape (i:=3) rfl
  rw[hvv]at hw;rw[show acc.map enc++[enc o]=(acc++[o]).map enc from by rw[List.map_append];rfl]at hw hN2
  have hw:Wd Γ (.own (.slice A2 N2 C2) 75 4 ((acc++[o]).map enc)::I5 bp s a n c σ3::.blk b5 (.cells (cG ⟨⟨kind,nm,acc++[o],0,D3,D3,0,0,0⟩,A2,N2,C2⟩).toArray 77)::.blk b4 (.cells (cG ⟨⟨0,C5,[],0,D3,D3,0,0,0⟩,none,0,0⟩).toArray 77)::S) w:=(hw.dropAt 1).perm L2
  clear hOp;repeat first|refine A5 ?_|refine A6 ?_;intro w hw
  refine B9 ?_;refine(X9 4 I9 (hw.ps [1])).mono ?_
  clear hw;rintro r w ⟨rfl,hw⟩
  refine⟨_,rfl,?_⟩;by_cases h30:σ3.er=0
  ·have hI5:=hI5 h30
   obtain⟨f,rfl⟩:∃f',f=f'+1:=⟨f-1,by omega⟩
   rcases hG.args with⟨hb,hG⟩|⟨hb,hG⟩
   ·have hlt:=CR (T9 hb)
    have hT:G7 toks σ3 4 I9=⟨σ3.I+1,σ3.p,0⟩:=Y9 h30 (T9 hb)
    rw[hb];rw[hT]at hw hG
    repeat first|refine A5 ?_|refine A6 ?_;intro w hw
    refine L3 rfl ?_
    repeat first|refine A5 ?_|refine A6 ?_;intro w hw
    refine⟨n-(σ3.I+1),by omega,⟨σ3.I+1,σ3.p,0⟩,acc++[o],A2,N2,C2,f,by show n-(σ3.I+1)+(σ3.I+1)=n;omega,by show n<f+(σ3.I+1);omega,by rw[List.length_append];show acc.length+1≤σ3.I+1;omega,⟨rfl,rfl,rfl,trivial⟩,?_,hw.ps [1]⟩
    exact hG
   ·rw[hb];have hT:G7 toks σ3 4 I9=σ3:=by unfold G7;rw[if_neg (by rw[hb];decide)]
    rw[hT]at hw;repeat first|refine A5 ?_|refine A6 ?_;intro w hw
    refine G1 rfl ?_
    repeat first|refine A5 ?_|refine A6 ?_;intro w hw
    exact⟨σ3,acc++[o],A2,N2,C2,by omega,⟨rfl,rfl,rfl,trivial⟩,hG,hw.ps [1]⟩
  ·have hb:(decide (σ3.er=0)&&L5 toks σ3.I 4 I9)=false:=by rw[decide_eq_false h30];rfl
   rw[hb];have hT:G7 toks σ3 4 I9=σ3:=by unfold G7;rw[if_neg (by rw[hb];decide)]
   rw[hT]at hw;repeat first|refine A5 ?_|refine A6 ?_;intro w hw
   refine G1 rfl ?_
   repeat first|refine A5 ?_|refine A6 ?_;intro w hw
   exact⟨σ3,acc++[o],A2,N2,C2,by omega,⟨rfl,rfl,rfl,trivial⟩,.inr (hG.resolve_left fun q=>h30 q.1),hw.ps [1]⟩
 clear hw hG hI1 hI2;rintro ρ w ⟨σ,acc,A,N,C,hI2,hρ,hG,hw⟩
 rw[hρ.eq];clear hρ;repeat first|refine A5 ?_|refine A6 ?_;intro w hw
 refine B9 ?_;refine(AS 4 Lr (hw.ps [1])).mono ?_
 clear hw;rintro r w ⟨rfl,hw⟩
 refine⟨_,rfl,?_⟩;have hG:Goes P (Q0 toks (C0 s) σ 4 Lr) _:=Goes.exp (by decide) hG
 have hI2:(Q0 toks (C0 s) σ 4 Lr).I≤n:=by rw[hn];exact BZ (by omega)
 generalize Q0 toks (C0 s) σ 4 Lr=σ2 at *
 have hw:Wd Γ (.own (.slice A N C) 75 4 (acc.map enc)::I5 bp s a n c σ2::.blk b5 (.cells (cG ⟨⟨kind,nm,acc,0,D3,D3,0,0,0⟩,A,N,C⟩).toArray 77)::.blk b4 (.cells (cG ⟨⟨0,C5,[],0,D3,D3,0,0,0⟩,none,0,0⟩).toArray 77)::S) w:=hw.ps [1]
 repeat first|refine A5 ?_|refine A6 ?_;intro w hw
 refine A9 (i:=3) ?_
 intro w hw;have hw:Wd Γ (.own (.slice A N C) 75 4 (acc.map enc)::I5 bp s a n c σ2::.blk b5 (.cells (cG ⟨⟨kind,nm,acc,0,D3,D3,0,0,0⟩,A,N,C⟩).toArray 77)::.blk b4 (.cells (cG ⟨⟨kind,nm,acc,0,D3,D3,0,0,0⟩,A,N,C⟩).toArray 77)::S) w:=hw
 repeat first|refine A5 ?_|refine A6 ?_;intro w hw
 exact⟨[.agg (cG ⟨⟨kind,nm,acc,0,D3,D3,0,0,0⟩,A,N,C⟩).toArray],⟨J2 (i:=3) hw rfl rfl rfl,trivial⟩,_,(A,N,C),σ2,rfl,hI2,hG,(hw.dropAt 2).dropAt 2⟩
end
end Go.Proofs.YtlmiakjbogojgaaGreatDoor
end
section
open Go Mk
namespace Go.Proofs.YtlmiakjbogojgaaGreatDoor
set_option maxHeartbeats 4000000
attribute [local irreducible] Calls B0 C0
section
variable {toks:List Tok}{e:C8}{σ:RS}{k:Nat}
theorem Ij{kind:Int}{text:ByteArray}(h:σ.er≠0):G7 toks σ kind text=σ:=by
 unfold G7;rw[decide_eq_false h,Bool.false_and,if_neg (by decide)]
theorem LZ(h:σ.er≠0):(d3 toks e σ).2=σ:=by
 unfold d3;rw[Ij h,Hh h,decide_eq_false h,Bool.false_and];dsimp only
 rw[if_neg (fun q=>by cases q.1),if_pos ⟨rfl,by decide⟩]
def JW(toks:List Tok)(e:C8)(σ:RS):Int×RS:=if 9223372036854775808≤(K7 toks e σ 2).1.Value then (0,J7 toks e (K7 toks e σ 2).2 ((K7 toks e σ 2).2.I-1) 6) else ((K7 toks e σ 2).1.Value,(K7 toks e σ 2).2)
theorem RP(h:σ.er≠0):(JW toks e σ).2=σ:=by
 unfold JW;rw[Hh h];exact congrArg Prod.snd (if_neg (show ¬(9223372036854775808:Int)≤0 by decide))
theorem Qx(h:σ.er=0):Ends (d4 toks e 9223372036854775807 σ.I) σ (JW toks e σ):=by
 unfold JW d4;rw[N3];cases hk:F8 toks σ.I 2 with
 | true=>
  have hK:(pk toks σ.I).Kind=2:=by
   rw[G9 (by decide)]at hk
   exact of_decide_eq_true hk
  rw[CW h hk,if_pos hK];dsimp only
  by_cases hv:9223372036854775808≤(pk toks σ.I).Value
  ·rw[if_pos hv,if_neg (by omega),V5 rfl]
   exact⟨rfl,rfl,by decide⟩
  ·rw[if_neg hv,if_pos (by omega)];rfl
 | false=>
  have hK:¬(pk toks σ.I).Kind=2:=by
   rw[G9 (by decide)]at hk
   exact of_decide_eq_false hk
  rw[GB h hk,if_neg hK];rw[if_neg (show ¬(9223372036854775808:Int)≤((default:Tok),(⟨σ.I,G2 toks σ.I e,50⟩:RS)).1.Value from (by decide:¬(9223372036854775808:Int)≤0))]
  exact⟨rfl,rfl,by decide⟩
theorem Tf(h:σ.I≤toks.length):(JW toks e σ).2.I≤toks.length:=by
 have:=DO (e:=e) (kind:=2) h
 unfold JW;split
 ·rw[V4];exact this
 ·exact this
theorem Ll(h:σ.er=0):Ends (Ai toks e σ.I) σ (d3 toks e σ):=by
 unfold Ai;rw[show M4 toks σ.I 4 BH=L5 toks σ.I 4 J8 from M2 (by decide)]
 cases hd:L5 toks σ.I 4 J8 with
 | true=>
  rw[if_pos rfl,FD h hd rfl];unfold d4;rw[N3];cases hk:F8 toks (σ.I+1) 2 with
  | true=>
   have hK:(pk toks (σ.I+1)).Kind=2:=by
    rw[G9 (by decide)]at hk
    exact of_decide_eq_true hk
   rw[CW (σ:=⟨σ.I+1,σ.p,0⟩) rfl hk,if_pos hK];dsimp only
   by_cases hv:(pk toks (σ.I+1)).Value≤9223372036854775808
   ·rw[if_pos hv,if_pos hv];rfl
   ·rw[if_neg hv,if_neg hv,V5 rfl];exact⟨rfl,rfl,by decide⟩
  | false=>
   have hK:¬(pk toks (σ.I+1)).Kind=2:=by
    rw[G9 (by decide)]at hk
    exact of_decide_eq_false hk
   rw[GB (σ:=⟨σ.I+1,σ.p,0⟩) rfl hk,if_neg hK];dsimp only
   rw[if_pos (by decide)]
   exact⟨rfl,rfl,by decide⟩
 | false=>
  rw[if_neg (by decide),Jg hd rfl]
  unfold d4;rw[N3];cases hk:F8 toks σ.I 2 with
  | true=>
   have hK:(pk toks σ.I).Kind=2:=by
    rw[G9 (by decide)]at hk
    exact of_decide_eq_true hk
   rw[CW h hk,if_pos hK];dsimp only
   by_cases hv:(pk toks σ.I).Value<9223372036854775808
   ·rw[if_pos hv,if_pos (by omega)];rfl
   ·rw[if_neg hv,if_neg (by omega),V5 rfl]
    exact⟨rfl,rfl,by decide⟩
  | false=>
   have hK:¬(pk toks σ.I).Kind=2:=by
    rw[G9 (by decide)]at hk
    exact of_decide_eq_false hk
   rw[GB h hk,if_neg hK];dsimp only
   rw[if_pos (by decide)]
   exact⟨rfl,rfl,by decide⟩
theorem Gz{α β γ:Type}{x:PR α}{f:α→β}{K:β→Nat→PR γ}:C6 (Ek f x) K=C6 x fun a k=>K (f a) k:=by
 cases x with
 | error q=>rfl
 | ok q=>rfl
theorem Goes.off{β:Type}{P:PR β}{K:Int→Nat→PR β}(h:Goes P σ fun k=>C6 (Dl toks e k) K) :
  ((decide (σ.er=0)&&L5 toks σ.I 4 j9)=true∧Goes P (G7 toks σ 4 j9) fun k=>C6 (d4 toks e 9223372036854775807 k) fun v=>K (IntKind.i64.wrap v)) ∨
  ((decide (σ.er=0)&&L5 toks σ.I 4 j9)=false∧(decide (σ.er=0)&&L5 toks σ.I 4 J8)=true∧Goes P (G7 toks σ 4 J8) fun k=>C6 (d4 toks e 9223372036854775807 k) fun v=>K (IntKind.i64.wrap (-(IntKind.i64.wrap v)))) ∨
  ((decide (σ.er=0)&&L5 toks σ.I 4 j9)=false∧(decide (σ.er=0)&&L5 toks σ.I 4 J8)=false∧Goes P σ (K 0)):=by
 rcases h with⟨h0,hP⟩|⟨h0,hP⟩
 ·have hP:P=C6 (Dl toks e σ.I) K:=hP
  unfold Dl at hP;rw[show M4 toks σ.I 4 j9=L5 toks σ.I 4 j9 from M2 (by decide),show M4 toks σ.I 4 BH=L5 toks σ.I 4 J8 from M2 (by decide)]at hP
  rw[decide_eq_true h0,Bool.true_and,Bool.true_and];cases hp:L5 toks σ.I 4 j9 with
  | true=>
   refine .inl ⟨rfl,?_⟩
   rw[Y9 h0 hp];refine .inl ⟨rfl,?_⟩
   rw[hP,hp,if_pos rfl,Gz]
  | false=>
   refine .inr ?_
   rw[hp,if_neg (by decide)]at hP
   cases hm:L5 toks σ.I 4 J8 with
   | true=>
    refine .inl ⟨rfl,rfl,?_⟩
    rw[Y9 h0 hm];refine .inl ⟨rfl,?_⟩
    rw[hP,hm,if_pos rfl,Gz]
   | false=>
    refine .inr ⟨rfl,rfl,.inl ⟨h0,?_⟩⟩
    rw[hP,hm,if_neg (by decide)];rfl
 ·rw[decide_eq_false h0];exact .inr (.inr ⟨rfl,rfl,.inr ⟨h0,hP⟩⟩)
theorem Goes.not{P:PR F6}(h:Goes P σ (M6 toks e)):((decide (σ.er=0)&&L5 toks σ.I 1 P4)=true∧Goes P (G7 toks σ 1 P4) (BI toks e 2))∨((decide (σ.er=0)&&L5 toks σ.I 1 P4)=false∧G7 toks σ 1 P4=σ):=by
 rcases h with⟨h0,hP⟩|⟨h0,hP⟩
 ·rw[decide_eq_true h0,Bool.true_and];unfold M6 at hP;rw[show M4 toks σ.I 1 P4=L5 toks σ.I 1 P4 from M2 (by decide)]at hP
  cases hn:L5 toks σ.I 1 P4 with
  | true=>
   refine .inl ⟨rfl,?_⟩
   rw[Y9 h0 hn];refine .inl ⟨rfl,?_⟩
   rw[hP,hn,if_pos rfl]
  | false=>exact .inr ⟨rfl,Lw hn⟩
 ·rw[decide_eq_false h0];exact .inr ⟨rfl,Ij h0⟩
theorem MG{kind:Int}(h1:(pk toks k).Kind=1)(h2:u3 (pk toks k).Text=true):BI toks e kind k=.error (G2 toks k e,50):=by
 unfold BI M5;rw[N3,if_neg (fun q=>by rw[h2]at q;cases q.2)];rfl
theorem Nr(hn:L5 toks k 1 P4=false)(h1:(pk toks k).Kind=1)(h2:L5 toks (k+1) 4 AR=true):M6 toks e k=BI toks e 1 k:=by
 unfold M6;rw[show M4 toks k 1 P4=L5 toks k 1 P4 from M2 (by decide),hn,if_neg (by decide),N3,show M4 toks (k+1) 4 Z6=L5 toks (k+1) 4 AR from M2 (by decide),if_pos ⟨h1,h2⟩]
theorem MZ(h1:(pk toks k).Kind=1){o:G8}{k1:Nat}(h:AV toks e k=.ok (o,k1)):k1=k+1:=by
 unfold AV at h;rw[N3,if_pos h1]at h;obtain⟨z,hz,-⟩:=L1 h
 exact j7 hz
theorem u9{α β:Type}{x:PR α}{f g:α→Nat→PR β}(h:∀a k,x=.ok (a,k)→f a k=g a k):C6 x f=C6 x g:=by
 cases x with
 | error q=>rfl
 | ok q=>exact h q.1 q.2 rfl
theorem Og(hn:L5 toks k 1 P4=false)(h1:(pk toks k).Kind=1)(h2:L5 toks (k+1) 1 EW=true):M6 toks e k=C6 (AV toks e k) fun l k1=>C6 (m8 toks e 1 EW k1) fun _ k2=>Hz toks e l k2:=by
 have hI:=h2
 unfold M6;have h3:M4 toks (k+1) 4 Z6=false:=by
  rw[M2 (by decide),BC (by decide)]
  rw[BC (by decide),Bool.and_eq_true,decide_eq_true_eq]at h2
  rw[h2.1];rfl
 rw[show M4 toks k 1 P4=L5 toks k 1 P4 from M2 (by decide),hn,if_neg (by decide),h3,if_neg (fun q=>by cases q.2),N3]
 refine u9 fun l k1 hO=>?_
 have:=MZ h1 hO
 subst this;have hq:M4 toks (k+1) 1 EW=true:=by rw[M2 (by decide)];exact hI
 rw[if_pos ⟨h1,hq⟩];unfold m8;rw[if_pos hq];rfl
theorem HR(hn:L5 toks k 1 P4=false)(h:(pk toks k).Kind=1→u3 (pk toks k).Text=false→L5 toks (k+1) 4 AR=false∧L5 toks (k+1) 1 EW=false):M6 toks e k=C6 (AV toks e k) fun l k1=>GI toks e l k1:=by
 by_cases hw:(pk toks k).Kind=1∧u3 (pk toks k).Text=true
 ·have hO:AV toks e k=.error (G2 toks k e,50):=by
   unfold AV M5;rw[N3,if_pos hw.1,if_neg (fun q=>by rw[hw.2]at q;cases q.2)];rfl
  unfold M6;rw[show M4 toks k 1 P4=L5 toks k 1 P4 from M2 (by decide),hn,if_neg (by decide),N3,hO]
  split
  ·exact MG hw.1 hw.2
  ·rfl
 have h:(pk toks k).Kind=1→L5 toks (k+1) 4 AR=false∧L5 toks (k+1) 1 EW=false:=fun h1=>h h1 (by
  cases hk:u3 (pk toks k).Text with
  | true=>exact absurd ⟨h1,hk⟩ hw
  | false=>rfl)
 unfold M6;rw[show M4 toks k 1 P4=L5 toks k 1 P4 from M2 (by decide),hn,if_neg (by decide),N3,show M4 toks (k+1) 4 Z6=L5 toks (k+1) 4 AR from M2 (by decide),if_neg (fun q=>by rw[(h q.1).1]at q;cases q.2)]
 refine u9 fun l k1 hO=>?_
 rw[if_neg];rintro⟨h1,h2⟩;have:=MZ h1 hO
 subst this;rw[M2 (by decide),(h h1).2]at h2
 cases h2
theorem Goes.op{P:PR F6}{l:G8}(h:Goes P σ fun k=>GI toks e l k):(σ.er=0∧opAt toks σ.I=0∧P=.error (G2 toks σ.I e,50))∨(σ.er=0∧opAt toks σ.I≠0∧P=C6 (AV toks e (σ.I+1)) fun r k1=>C6 (Dl toks e k1) fun o k2=>.ok (⟨3,C5,[],opAt toks σ.I,l,r,o,0,0⟩,k2))∨(σ.er≠0∧P=.error (σ.p,σ.er)):=by
 rcases h with⟨h0,hP⟩|h
 ·have hP:P=GI toks e l σ.I:=hP
  unfold GI at hP;by_cases ho:opAt toks σ.I=0
  ·rw[if_pos ho]at hP;exact .inl ⟨h0,ho,hP⟩
  ·rw[if_neg ho]at hP;exact .inr (.inl ⟨h0,ho,hP⟩)
 ·exact .inr (.inr h)
end
end Go.Proofs.YtlmiakjbogojgaaGreatDoor
end
section
open Go Mk
namespace Go.Proofs.YtlmiakjbogojgaaGreatDoor
set_option maxHeartbeats 32000000
attribute [local irreducible] Calls B0 C0
theorem SL(v:Int):IntKind.i64.wrap (IntKind.i64.wrap v)=IntKind.i64.wrap v:=wrap_i64 (r9 v).1 (r9 v).2
theorem Nz{α:Type}{x:PR α}:C6 x (fun a k=>.ok (a,k))=x:=by
 cases x with
 | error q=>rfl
 | ok q=>rfl
theorem Goes.cont1{α:Type}{P:PR α}{R:Nat→PR α}{σ σ':RS}{x:α}(h:Goes P σ R)(h2:Goes (rdS R σ) σ' fun k=>.ok (x,k)):Goes P σ' fun k=>.ok (x,k):=
 Goes.cont (β:=α) (K:=fun x k=>.ok (x,k)) (h.map fun k=>Nz.symm) h2
section
variable {Γ:C4}{S:List B5}{w:World}{bp:Nat}{s:ByteArray}{a:Option Addr}{n c:Nat}{σ:RS}{toks:List Tok}
theorem Ju(hw:Wd Γ S w):Calls Tryz.prog 50 #[] w fun r w'=>∃q:Addr,r=.returned (.slice (some q) 7 7)∧Wd Γ (.own (.slice (some q) 7 7) 9 1 (Q4.map fun s=>[.string s])::S) w':=by
 refine A4 Tryz.func50 rfl rfl ?_
 repeat first|refine A5 ?_|refine A6 ?_;intro w hw
 refine E4 (Q4.map fun s=>[.string s]) ?_
 intro q w hw;repeat first|refine A5 ?_|refine A6 ?_;intro w hw
 exact⟨_,rfl,q,rfl,hw⟩
theorem HS{toks:List Tok}{k i:Nat}(h:p7 toks k i≠0):∀d,p7 toks k (i+d)=p7 toks k i
 | 0=>rfl
 | d+1=>by
  have:=HS h d
  show (if p7 toks k (i+d)≠0 then p7 toks k (i+d) else _)=_
  rw[this,if_pos h]
theorem Nc{toks:List Tok}{k j:Nat}{t:ByteArray}(hs:Q4[j]? = some t)(h1:1≤j)(h0:p7 toks k j=0):p7 toks k (j+1)=if L5 toks k 4 t=true then j else 0:=by
 have hsd:Q4.getD j C5=t:=by rw[List.getD_eq_getElem?_getD,hs];rfl
 show (if p7 toks k j≠0 then p7 toks k j else if 0<j∧M4 toks k 4 (Q4.getD j C5)=true then j else 0)=_
 rw[if_neg (fun q=>q h0),hsd,M2 (by decide)]
 by_cases hb:L5 toks k 4 t=true
 ·rw[if_pos ⟨by omega,hb⟩,if_pos hb]
 ·rw[if_neg (fun q=>hb q.2),if_neg hb]
def SF(Γ:C4)(S:List B5)(bp:Nat)(s:ByteArray)(a:Option Addr)(n c:Nat)(P:PR F6)(r:Ending)(w:World):Prop:=∃(g:F6) (v:EN) (σ':RS),r=.returned (.agg (cG ⟨g,v.1,v.2.1,v.2.2⟩).toArray)∧σ'.I≤n∧Goes P σ' (fun k=>.ok (g,k))∧Wd Γ (.own (Ef v) 75 4 (g.Args.map enc)::I5 bp s a n c σ'::S) w
theorem Mz[ht:z8 Γ a n c toks][hs:SZ s](hW:X8 toks)(hI:σ.I≤n)(hw:Wd Γ (I5 bp s a n c σ::S) w) :
  Calls Tryz.prog 42 #[.pointer (some ⟨bp,0,none⟩)] w (SF Γ S bp s a n c (rdS (M6 toks (C0 s)) σ)):=by
 obtain⟨hn,hnc,hc⟩:=ht.len;have hbig:=ht.big
 have hr:=ht.h
 obtain⟨P,hP⟩:∃P,P=rdS (M6 toks (C0 s)) σ:=⟨_,rfl⟩
 have hG:Goes P σ (M6 toks (C0 s)):=by rw[hP];exact Goes.start
 rw[←hP];clear hP;have hN:=hG.not
 refine F1 Tryz.func42 rfl rfl ?_
 repeat first|refine A5 ?_|refine A6 ?_;intro w hw
 refine B7 ?_;intro b2 w hw;have hw:Wd Γ (I5 bp s a n c σ::.blk b2 (.cells (cG ⟨⟨0,C5,[],0,D3,D3,0,0,0⟩,none,0,0⟩).toArray 77)::S) w:=hw.ps [1]
 repeat first|refine A5 ?_|refine A6 ?_;intro w hw
 refine B9 ?_;refine(X9 1 P4 hw).mono ?_
 clear hw;rintro r w ⟨rfl,hw⟩
 refine⟨_,rfl,?_⟩;repeat first|refine A5 ?_|refine A6 ?_;intro w hw
 refine A0 rfl (fun h=>?_) (fun h=>?_)
 ·have h:(decide (σ.er=0)&&L5 toks σ.I 1 P4)=true:=h
  obtain⟨-,hG⟩:=hN.resolve_right fun q=>by rw[h]at q;cases q.1
  have hI1:(G7 toks σ 1 P4).I≤n:=by rw[hn];exact Da (by omega)
  generalize G7 toks σ 1 P4=σ1 at *
  clear h hN hI;refine Q7 ?_
  refine J6 (fun ρ w=>∃σ2:RS,σ2.I≤n∧Has ρ [(0,.pointer (some ⟨bp,0,none⟩)),(2,.pointer (some ⟨b2,0,none⟩))]∧Goes P σ2 (BI toks (C0 s) 2)∧(σ2.er=0→F8 toks σ2.I 1=true→u3 (pk toks σ2.I).Text=false)∧Wd Γ (I5 bp s a n c σ2::.blk b2 (.cells (cG ⟨⟨0,C5,[],0,D3,D3,0,0,0⟩,none,0,0⟩).toArray 77)::S) w) ?_ ?_
  ·have htk:(decide (σ1.er=0)&&F8 toks σ1.I 1)=true→toks[σ1.I]? = some (pk toks σ1.I):=fun q=>by
    obtain⟨t,ht⟩:=B8 (l:=toks) (k:=σ1.I) (S0 (T9 q))
    rw[ht,Bn ht]
   have hlt:(decide (σ1.er=0)&&F8 toks σ1.I 1)=true→σ1.I<n:=fun q=>by rw[hn];exact S0 (T9 q)
   have hK:(decide (σ1.er=0)&&F8 toks σ1.I 1)=true→(pk toks σ1.I).Kind=1:=fun q=>by
    have:=T9 q
    rw[G9 (by decide)]at this
    exact of_decide_eq_true this
   repeat first|refine A5 ?_|refine A6 ?_;intro w hw
   refine H0 (by kernel_rfl) (by kernel_rfl) hw ?_
   repeat(first|(first|refine P2 ?_|(apply D1;first|(apply F4;first|refine qP ?_|refine CO ?_)|refine qY ?_)|(apply B4;first|(apply F4;first|refine Dj ?_|refine Z0 ?_)|refine qG ?_))|(apply D1;apply F4;refine Fp ?_)|(apply B4;apply F4;refine y7 ?_))
   apply B4
   refine qG ?_ (hy:=fun hc w hw=>by
    have h1:=hlt hc
    exact BF)
   repeat(first|(first|refine P2 ?_|(apply D1;first|(apply F4;first|refine qP ?_|refine CO ?_)|refine qY ?_)|(apply B4;first|(apply F4;first|refine Dj ?_|refine Z0 ?_)|refine qG ?_))|(apply D1;apply F4;refine Fp ?_)|(apply B4;apply F4;refine y7 ?_))
   apply B4
   refine qG ?_ (hy:=fun hc w hw=>by
    have h1:=htk hc
    exact BF)
   repeat(first|(first|refine P2 ?_|(apply D1;first|(apply F4;first|refine qP ?_|refine CO ?_)|refine qY ?_)|(apply B4;first|(apply F4;first|refine Dj ?_|refine Z0 ?_)|refine qG ?_))|(apply D1;apply F4;refine Fp ?_)|(apply B4;apply F4;refine y7 ?_))
   intro w hw;refine A0 rfl (fun h=>?_) (fun h=>?_)
   ·have h:((decide (σ1.er=0)&&F8 toks σ1.I 1)&&u3 (pk toks σ1.I).Text)=true:=h
    rw[Bool.and_eq_true]at h;have h0:σ1.er=0:=of_decide_eq_true (H4 h.1)
    repeat first|refine A5 ?_|refine A6 ?_;intro w hw
    refine B9 ?_;refine(Q6 (σ1.I:Int) σ1.I 50 (fun _=>rfl) hw).mono ?_
    clear hw;rintro r w ⟨rfl,hw⟩
    refine⟨_,rfl,?_⟩;have hF:=V5 (toks:=toks) (e:=C0 s) (i:=σ1.I) (er:=50) h0
    rw[hF]at hw;repeat first|refine A5 ?_|refine A6 ?_;intro w hw
    refine⟨⟨σ1.I,G2 toks σ1.I (C0 s),50⟩,hI1,⟨rfl,rfl,trivial⟩,.inr ⟨Ie,?_⟩,(fun q=>absurd q Ie),hw⟩
    have hP:=hG.resolve_right fun q=>q.1 h0
    rw[hP.2,MG (hK h.1) h.2]
   ·have h:((decide (σ1.er=0)&&F8 toks σ1.I 1)&&u3 (pk toks σ1.I).Text)=false:=h
    repeat first|refine A5 ?_|refine A6 ?_;intro w hw
    refine⟨σ1,hI1,⟨rfl,rfl,trivial⟩,hG,(fun h0 h1=>?_),hw⟩
    rw[decide_eq_true h0,h1]at h;exact h
  clear hw hG;rintro ρ w ⟨σ2,hI2,hρ,hG,hkw,hw⟩
  rw[hρ.eq];clear hρ;repeat first|refine A5 ?_|refine A6 ?_;intro w hw
  refine B9 ?_;refine(Fa hW hI2 2 hkw hw).mono ?_
  clear hw;rintro r w ⟨g,v,σ3,rfl,hI3,hG3,hw⟩
  refine⟨_,rfl,?_⟩;have hG:Goes P σ3 fun k=>.ok (g,k):=hG.cont1 hG3
  repeat first|refine A5 ?_|refine A6 ?_;intro w hw
  refine A9 (i:=2) ?_
  intro w hw;have hw:Wd Γ (.own (Ef v) 75 4 (g.Args.map enc)::I5 bp s a n c σ3::.blk b2 (.cells (cG ⟨g,v.1,v.2.1,v.2.2⟩).toArray 77)::S) w:=hw
  repeat first|refine A5 ?_|refine A6 ?_;intro w hw
  exact⟨[.agg (cG ⟨g,v.1,v.2.1,v.2.2⟩).toArray],⟨J2 (i:=2) hw rfl rfl rfl,trivial⟩,g,v,σ3,rfl,hI3,hG,hw.dropAt 2⟩
 ·have h:(decide (σ.er=0)&&L5 toks σ.I 1 P4)=false:=h
  obtain⟨-,hT⟩:=hN.resolve_left fun q=>by rw[h]at q;cases q.1
  rw[hT]at hw;clear hN hT;have hnot:σ.er=0→L5 toks σ.I 1 P4=false:=fun h0=>by rw[decide_eq_true h0]at h;exact h
  clear h;have htk:(decide (σ.er=0)&&F8 toks σ.I 1)=true→toks[σ.I]? = some (pk toks σ.I):=fun q=>by
   obtain⟨t,ht⟩:=B8 (l:=toks) (k:=σ.I) (S0 (T9 q))
   rw[ht,Bn ht]
  have hlt:(decide (σ.er=0)&&F8 toks σ.I 1)=true→σ.I<n:=fun q=>by rw[hn];exact S0 (T9 q)
  have hK:(decide (σ.er=0)&&F8 toks σ.I 1)=true→(pk toks σ.I).Kind=1:=fun q=>by
   have:=T9 q
   rw[G9 (by decide)]at this
   exact of_decide_eq_true this
  refine Ca ?_
  refine Q7 ?_
  refine J6 (fun ρ w=>Has ρ [(0,.pointer (some ⟨bp,0,none⟩)),(2,.pointer (some ⟨b2,0,none⟩)),(3,.int .i64 ((σ.I:Int)+1))]∧Wd Γ (I5 bp s a n c σ::.blk b2 (.cells (cG ⟨⟨0,C5,[],0,D3,D3,0,0,0⟩,none,0,0⟩).toArray 77)::S) w) ?_ ?_
  ·repeat first|refine A5 ?_|refine A6 ?_;intro w hw
   exact⟨⟨rfl,rfl,rfl,trivial⟩,hw⟩
  clear hw;rintro ρ w ⟨hρ,hw⟩
  rw[hρ.eq];clear hρ;refine Q7 ?_
  refine J6 (fun ρ w=>Has ρ [(0,.pointer (some ⟨bp,0,none⟩)),(2,.pointer (some ⟨b2,0,none⟩))]∧Goes P σ (fun k=>C6 (AV toks (C0 s) k) fun l k1=>GI toks (C0 s) l k1)∧Wd Γ (I5 bp s a n c σ::.blk b2 (.cells (cG ⟨⟨0,C5,[],0,D3,D3,0,0,0⟩,none,0,0⟩).toArray 77)::S) w) ?_ ?_
  ·repeat first|refine A5 ?_|refine A6 ?_;intro w hw
   refine H0 (by kernel_rfl) (by kernel_rfl) hw ?_
   repeat(first|(first|refine P2 ?_|(apply D1;first|(apply F4;first|refine qP ?_|refine CO ?_)|refine qY ?_)|(apply B4;first|(apply F4;first|refine Dj ?_|refine Z0 ?_)|refine qG ?_))|(apply D1;apply F4;refine Fp ?_)|(apply B4;apply F4;refine y7 ?_))
   apply B4
   refine qG ?_ (hy:=fun hc w hw=>by
    have h1:=hlt hc
    exact BF)
   repeat(first|(first|refine P2 ?_|(apply D1;first|(apply F4;first|refine qP ?_|refine CO ?_)|refine qY ?_)|(apply B4;first|(apply F4;first|refine Dj ?_|refine Z0 ?_)|refine qG ?_))|(apply D1;apply F4;refine Fp ?_)|(apply B4;apply F4;refine y7 ?_))
   apply B4
   refine qG ?_ (hy:=fun hc w hw=>by
    have h1:=htk hc
    exact BF)
   repeat(first|(first|refine P2 ?_|(apply D1;first|(apply F4;first|refine qP ?_|refine CO ?_)|refine qY ?_)|(apply B4;first|(apply F4;first|refine Dj ?_|refine Z0 ?_)|refine qG ?_))|(apply D1;apply F4;refine Fp ?_)|(apply B4;apply F4;refine y7 ?_))
   intro w hw;refine A0 rfl (fun h=>?_) (fun h=>?_)
   rotate_left
   ·have h:(((decide (σ.er=0)&&F8 toks σ.I 1) && !u3 (pk toks σ.I).Text)&&decide ((σ.I:Int)+1<(n:Int)))=false:=h
    repeat first|refine A5 ?_|refine A6 ?_;intro w hw
    refine⟨⟨rfl,rfl,trivial⟩,hG.elim (fun q=>.inl ⟨q.1,?_⟩) .inr,hw⟩
    rw[q.2];refine HR (hnot q.1) fun h1 h2=>?_
    have hk:F8 toks σ.I 1=true:=by rw[G9 (by decide)];exact decide_eq_true h1
    rw[decide_eq_true q.1,hk,h2]at h;have h3:¬(σ.I:Int)+1<(n:Int):=of_decide_eq_false h
    have h4:toks[σ.I+1]? = none:=List.getElem?_eq_none (by omega)
    unfold L5;rw[h4];exact⟨rfl,rfl⟩
   have h:(((decide (σ.er=0)&&F8 toks σ.I 1) && !u3 (pk toks σ.I).Text)&&decide ((σ.I:Int)+1<(n:Int)))=true:=h
   rw[Bool.and_eq_true,Bool.and_eq_true,decide_eq_true_eq,Bool.not_eq_true']at h;obtain⟨⟨hkk,hnk⟩,hn2⟩:=h;have h0:σ.er=0:=of_decide_eq_true (H4 hkk)
   have hK:=hK hkk
   have hP:=(hG.resolve_right fun q=>q.1 h0).2
   have hn3:σ.I+1<n:=by omega
   obtain⟨t,htk2⟩:=B8 (l:=toks) (k:=σ.I+1) (by omega)
   have hpk:=Bn htk2
   repeat first|refine A5 ?_|refine A6 ?_;intro w hw
   refine B7 ?_;intro b4 w hw;refine A9 ?_;intro w hw;have hw:Wd Γ (I5 bp s a n c σ::.blk b2 (.cells (cG ⟨⟨0,C5,[],0,D3,D3,0,0,0⟩,none,0,0⟩).toArray 77)::.blk b4 (.cells (enc t).toArray 102)::S) w:=hw.ps [2,2]
   repeat first|refine A5 ?_|refine A6 ?_;intro w hw
   refine A0 rfl (fun h=>?_) (fun h=>?_)
   ·have h:(decide (t.Kind=4)&&decide (t.Text=AR))=true:=h
    have h:L5 toks (σ.I+1) 4 AR=true:=by rw[BC (by decide),hpk];exact h
    rw[Nr (hnot h0) hK h]at hP;repeat first|refine A5 ?_|refine A6 ?_;intro w hw
    refine B9 ?_;refine(Fa hW hI 1 (fun _ _=>hnk) hw).mono ?_
    clear hw;rintro r w ⟨g,v,σ3,rfl,hI3,hG3,hw⟩
    refine⟨_,rfl,?_⟩;have hG:Goes P σ3 fun k=>.ok (g,k):=Goes.cont1 (.inl ⟨h0,hP⟩) hG3
    repeat first|refine A5 ?_|refine A6 ?_;intro w hw
    refine A9 (i:=2) ?_
    intro w hw;have hw:Wd Γ (.own (Ef v) 75 4 (g.Args.map enc)::I5 bp s a n c σ3::.blk b2 (.cells (cG ⟨g,v.1,v.2.1,v.2.2⟩).toArray 77)::.blk b4 (.cells (enc t).toArray 102)::S) w:=hw
    repeat first|refine A5 ?_|refine A6 ?_;intro w hw
    exact⟨[.agg (cG ⟨g,v.1,v.2.1,v.2.2⟩).toArray],⟨J2 (i:=2) hw rfl rfl rfl,trivial⟩,g,v,σ3,rfl,hI3,hG,(hw.dropAt 2).dropAt 2⟩
   have h:(decide (t.Kind=4)&&decide (t.Text=AR))=false:=h
   have hnp:L5 toks (σ.I+1) 4 AR=false:=by rw[BC (by decide),hpk];exact h
   clear h;repeat first|refine A5 ?_|refine A6 ?_;intro w hw
   refine A0 rfl (fun h=>?_) (fun h=>?_)
   rotate_left
   ·have h:(decide (t.Kind=1)&&decide (t.Text=EW))=false:=h
    have h:L5 toks (σ.I+1) 1 EW=false:=by rw[BC (by decide),hpk];exact h
    repeat first|refine A5 ?_|refine A6 ?_;intro w hw
    exact⟨⟨rfl,rfl,trivial⟩,.inl ⟨h0,by rw[hP,HR (hnot h0) fun _ _=>⟨hnp,h⟩]⟩,hw.dropAt 2⟩
   have h:(decide (t.Kind=1)&&decide (t.Text=EW))=true:=h
   have h:L5 toks (σ.I+1) 1 EW=true:=by rw[BC (by decide),hpk];exact h
   rw[Og (hnot h0) hK h]at hP;have hG:Goes P σ (fun k=>C6 (AV toks (C0 s) k) fun l k1=>C6 (m8 toks (C0 s) 1 EW k1) fun _ k2=>Hz toks (C0 s) l k2):=.inl ⟨h0,hP⟩
   clear h hP hpk htk2 hnp hnk hkk h0 hK;have hG:=hG.next (q:=AT toks (C0 s) σ) (fun h0=>De hW h0) Ex
   have hI1:=Hs (toks:=toks) (e:=C0 s) (σ:=σ) (by omega)
   have hOp:∀(X:List B5) (w:World),Wd Γ (I5 bp s a n c σ::X) w→_:=fun X w hw=>m5 (S:=X) hW (by omega) hw
   generalize AT toks (C0 s) σ=q at *
   obtain⟨l,σ1⟩:=q;dsimp only at hG hOp hI1
   repeat first|refine A5 ?_|refine A6 ?_;intro w hw
   refine B9 ?_;refine(hOp _ _ hw).mono ?_
   clear hw hOp;rintro r w ⟨rfl,hw⟩
   refine⟨_,rfl,?_⟩;repeat first|refine A5 ?_|refine A6 ?_;intro w hw
   refine B7 ?_;intro b5 w hw;refine A9 ?_;intro w hw;have hw:Wd Γ (I5 bp s a n c σ1::.blk b5 (.cells (cG ⟨⟨4,C5,[],0,l,D3,0,0,0⟩,none,0,0⟩).toArray 77)::.blk b2 (.cells (cG ⟨⟨0,C5,[],0,D3,D3,0,0,0⟩,none,0,0⟩).toArray 77)::S) w:=(hw.ps [1]).dropAt 3
   repeat first|refine A5 ?_|refine A6 ?_;intro w hw
   refine B9 ?_;refine(AS 1 EW hw).mono ?_
   clear hw;rintro r w ⟨rfl,hw⟩
   refine⟨_,rfl,?_⟩;have hG:Goes P (Q0 toks (C0 s) σ1 1 EW) _:=Goes.exp (by decide) hG
   have hI2:(Q0 toks (C0 s) σ1 1 EW).I≤toks.length:=BZ (by omega)
   generalize Q0 toks (C0 s) σ1 1 EW=σ2 at *
   unfold Hz at hG;have hG:=hG.next (q:=d3 toks (C0 s) σ2) (fun h0=>Ll h0) LZ
   have hI3:=LJ (e:=C0 s) (σ:=σ2) hI2
   repeat first|refine A5 ?_|refine A6 ?_;intro w hw
   refine B9 ?_;refine(BN (by omega) hw).mono ?_
   clear hw;rintro r w ⟨rfl,hw⟩
   refine⟨_,rfl,?_⟩;generalize d3 toks (C0 s) σ2=q at *
   obtain⟨lo,σ3⟩:=q;dsimp only at hG hI3 hw ⊢
   repeat first|refine A5 ?_|refine A6 ?_;intro w hw
   refine A9 (i:=1) ?_
   intro w hw;have hw:Wd Γ (I5 bp s a n c σ3::.blk b5 (.cells (cG ⟨⟨4,C5,[],0,l,D3,0,lo,0⟩,none,0,0⟩).toArray 77)::.blk b2 (.cells (cG ⟨⟨0,C5,[],0,D3,D3,0,0,0⟩,none,0,0⟩).toArray 77)::S) w:=hw
   repeat first|refine A5 ?_|refine A6 ?_;intro w hw
   refine B9 ?_;refine(AS 4 EV hw).mono ?_
   clear hw;rintro r w ⟨rfl,hw⟩
   refine⟨_,rfl,?_⟩;have hG:Goes P (Q0 toks (C0 s) σ3 4 EV) _:=Goes.exp (by decide) hG
   have hI4:(Q0 toks (C0 s) σ3 4 EV).I≤toks.length:=BZ (by omega)
   generalize Q0 toks (C0 s) σ3 4 EV=σ4 at *
   have hG:=hG.next (q:=d3 toks (C0 s) σ4) (fun h0=>Ll h0) LZ
   have hI5:=LJ (e:=C0 s) (σ:=σ4) hI4
   repeat first|refine A5 ?_|refine A6 ?_;intro w hw
   refine B9 ?_;refine(BN (by omega) hw).mono ?_
   clear hw;rintro r w ⟨rfl,hw⟩
   refine⟨_,rfl,?_⟩;generalize d3 toks (C0 s) σ4=q at *
   obtain⟨hi,σ5⟩:=q;dsimp only at hG hI5 hw ⊢
   repeat first|refine A5 ?_|refine A6 ?_;intro w hw
   refine A9 (i:=1) ?_
   intro w hw;have hw:Wd Γ (I5 bp s a n c σ5::.blk b5 (.cells (cG ⟨⟨4,C5,[],0,l,D3,0,lo,hi⟩,none,0,0⟩).toArray 77)::.blk b2 (.cells (cG ⟨⟨0,C5,[],0,D3,D3,0,0,0⟩,none,0,0⟩).toArray 77)::S) w:=hw
   repeat first|refine A5 ?_|refine A6 ?_;intro w hw
   refine A9 (i:=2) ?_
   intro w hw;have hw:Wd Γ (I5 bp s a n c σ5::.blk b5 (.cells (cG ⟨⟨4,C5,[],0,l,D3,0,lo,hi⟩,none,0,0⟩).toArray 77)::.blk b2 (.cells (cG ⟨⟨4,C5,[],0,l,D3,0,lo,hi⟩,none,0,0⟩).toArray 77)::S) w:=hw
   repeat first|refine A5 ?_|refine A6 ?_;intro w hw
   exact⟨[.agg (cG ⟨⟨4,C5,[],0,l,D3,0,lo,hi⟩,none,0,0⟩).toArray],⟨J2 (i:=2) hw rfl rfl rfl,trivial⟩,_,(none,0,0),σ5,rfl,by omega,hG,Wd.addNil ((hw.dropAt 1).dropAt 1)⟩
  clear hw htk hlt hK hnot;rintro ρ w ⟨hρ,hG,hw⟩
  rw[hρ.eq];clear hρ;have hG:=hG.next (q:=AT toks (C0 s) σ) (fun h0=>De hW h0) Ex
  have hI1:=Hs (toks:=toks) (e:=C0 s) (σ:=σ) (by omega)
  have hOp:∀(X:List B5) (w:World),Wd Γ (I5 bp s a n c σ::X) w→_:=fun X w hw=>m5 (S:=X) hW hI hw
  generalize AT toks (C0 s) σ=q at *
  obtain⟨l,σ1⟩:=q;dsimp only at hG hOp hI1
  repeat first|refine A5 ?_|refine A6 ?_;intro w hw
  refine B9 ?_;refine(hOp _ _ hw).mono ?_
  clear hw hOp hI;rintro r w ⟨rfl,hw⟩
  refine⟨_,rfl,?_⟩;repeat first|refine A5 ?_|refine A6 ?_;intro w hw
  refine B7 ?_;intro b6 w hw;refine A9 ?_;intro w hw;have hw:Wd Γ (I5 bp s a n c σ1::.blk b6 (.cells (cG ⟨⟨3,C5,[],0,l,D3,0,0,0⟩,none,0,0⟩).toArray 77)::.blk b2 (.cells (cG ⟨⟨0,C5,[],0,D3,D3,0,0,0⟩,none,0,0⟩).toArray 77)::S) w:=hw.ps [1]
  repeat first|refine A5 ?_|refine A6 ?_;intro w hw
  refine B9 (vs:=[]) ?_
  refine(Ju hw).mono ?_
  clear hw;rintro r w ⟨q,rfl,hw⟩
  refine⟨_,rfl,?_⟩;have hw:Wd Γ (I5 bp s a n c σ1::.own (.slice (some q) 7 7) 9 1 (Q4.map fun s=>[.string s])::.blk b6 (.cells (cG ⟨⟨3,C5,[],((0:Nat):Int),l,D3,0,0,0⟩,none,0,0⟩).toArray 77)::.blk b2 (.cells (cG ⟨⟨0,C5,[],0,D3,D3,0,0,0⟩,none,0,0⟩).toArray 77)::S) w:=hw.ps [1]
  refine lY ?_;refine R5 ?_
  refine Q7 ?_
  refine J6 (fun ρ w=>∃(σ2:RS) (u:Nat),σ2.I≤n∧Has ρ [(0,.pointer (some ⟨bp,0,none⟩)),(2,.pointer (some ⟨b2,0,none⟩)),(6,.pointer (some ⟨b6,0,none⟩))]∧((u=0∧((σ2.er=0∧P=.error (G2 toks σ2.I (C0 s),50))∨(σ2.er≠0∧P=.error (σ2.p,σ2.er))))∨(u≠0∧Goes P σ2 (fun k=>C6 (AV toks (C0 s) k) fun r k1=>C6 (Dl toks (C0 s) k1) fun o k2=>.ok (⟨3,C5,[],u,l,r,o,0,0⟩,k2))))∧Wd Γ (I5 bp s a n c σ2::.blk b6 (.cells (cG ⟨⟨3,C5,[],(u:Nat),l,D3,0,0,0⟩,none,0,0⟩).toArray 77)::.blk b2 (.cells (cG ⟨⟨0,C5,[],0,D3,D3,0,0,0⟩,none,0,0⟩).toArray 77)::S) w) ?_ ?_
  ·repeat first|refine A5 ?_|refine A6 ?_;intro w hw
   refine C1 (fun μ ρ w=>∃(j u:Nat) (σ2:RS),μ+j=7∧1≤j∧σ2.I≤n∧((u=0∧σ2=σ1∧(σ1.er=0→p7 toks σ1.I j=0))∨(u≠0∧Goes P σ2 (fun k=>C6 (AV toks (C0 s) k) fun r k1=>C6 (Dl toks (C0 s) k1) fun o k2=>.ok (⟨3,C5,[],u,l,r,o,0,0⟩,k2))))∧Has ρ [(0,.pointer (some ⟨bp,0,none⟩)),(2,.pointer (some ⟨b2,0,none⟩)),(6,.pointer (some ⟨b6,0,none⟩)),(7,.slice (some q) 7 7),(8,.int .i64 j)]∧Wd Γ (I5 bp s a n c σ2::.own (.slice (some q) 7 7) 9 1 (Q4.map fun s=>[.string s])::.blk b6 (.cells (cG ⟨⟨3,C5,[],(u:Nat),l,D3,0,0,0⟩,none,0,0⟩).toArray 77)::.blk b2 (.cells (cG ⟨⟨0,C5,[],0,D3,D3,0,0,0⟩,none,0,0⟩).toArray 77)::S) w) 6 ⟨1,0,σ1,by omega,by omega,by omega,.inl ⟨rfl,rfl,fun _=>rfl⟩,⟨rfl,rfl,rfl,rfl,rfl,trivial⟩,hw⟩ ?_
   repeat clear hw
   rintro μ ρ w ⟨j,u,σ2,hj,hj1,hI2,hst,hρ,hw⟩
   rw[hρ.eq];clear hρ;have hd:=R8.own (i:=1) hw rfl
   repeat first|refine A5 ?_|refine A6 ?_;intro w hw
   refine A0 rfl (fun h=>?_) (fun h=>?_)
   rotate_left
   ·have h:(decide ((j:Int)<7)&&decide ((u:Int)=0))=false:=h
    repeat first|refine A5 ?_|refine A6 ?_;intro w hw
    refine⟨σ2,u,hI2,⟨rfl,rfl,rfl,trivial⟩,?_,hw.dropAt 1⟩
    rcases hst with⟨rfl,rfl,hup⟩|hst
    ·have hj7:j=7:=by
      rw[Bool.and_eq_false_iff]at h;rcases h with h|h
      ·have:=of_decide_eq_false h;omega
      ·exact absurd (of_decide_eq_false h) (by simp)
     subst hj7;refine .inl ⟨rfl,?_⟩
     rcases hG.op with⟨q1,q2,q3⟩|⟨q1,q2,q3⟩|q
     ·exact .inl ⟨q1,q3⟩
     ·exact absurd (FR.symm.trans (hup q1)) q2
     ·exact .inr q
    ·exact .inr hst
   have h:(decide ((j:Int)<7)&&decide ((u:Int)=0))=true:=h
   rw[Bool.and_eq_true,decide_eq_true_eq,decide_eq_true_eq]at h;obtain⟨hj7,hu⟩:=h;have hu:u=0:=by omega
   have hj7:j<7:=by omega
   subst hu;obtain⟨-,rfl,hup⟩:=hst.resolve_right fun q=>q.1 rfl
   clear hst;obtain⟨t,hs⟩:=B8 (l:=Q4) (k:=j) (by show j<7;omega)
   have hup2:σ2.er=0→p7 toks σ2.I (j+1)=if L5 toks σ2.I 4 t=true then j else 0:=fun h0=>Nc hs hj1 (hup h0)
   obtain⟨X,hX⟩:∃X:Prop,X=(σ2.er=0→p7 toks σ2.I (j+1)=if L5 toks σ2.I 4 t=true then j else 0):=⟨_,rfl⟩
   rw[←hX]at hup2;clear hup;repeat first|refine A5 ?_|refine A6 ?_;intro w hw
   refine B9 (vs:=[.pointer (some ⟨bp,0,none⟩),.int .i64 4,.string t]) ?_
   refine(X9 4 t hw).mono ?_
   clear hw;rintro r w ⟨rfl,hw⟩
   refine⟨_,rfl,?_⟩;rw[hX]at hup2;clear hX;cases hb:(decide (σ2.er=0)&&L5 toks σ2.I 4 t) with
   | true=>
    have h0:σ2.er=0:=of_decide_eq_true (H4 hb)
    have hlt:=CR (T9 hb)
    have hT:G7 toks σ2 4 t=⟨σ2.I+1,σ2.p,0⟩:=Y9 h0 (T9 hb)
    rw[hT]at hw;have hup2:=hup2 h0
    rw[if_pos (T9 hb)]at hup2;have hO:opAt toks σ2.I=j:=by
     rw[←FR,show 7=(j+1)+(6-j) by omega,HS (by omega),hup2]
    rcases hG.op with⟨q1,q2,q3⟩|⟨q1,q2,q3⟩|⟨q1,q2⟩
    ·exact absurd (hO.symm.trans q2) (by omega)
    rotate_left
    ·exact absurd h0 q1
    rw[hO]at q3;repeat first|refine A5 ?_|refine A6 ?_;intro w hw
    refine A0 rfl (fun _=>?_) (fun h=>by cases h)
    repeat first|refine A5 ?_|refine A6 ?_;intro w hw
    refine A9 (i:=2) ?_
    intro w hw;have hw:Wd Γ (I5 bp s a n c ⟨σ2.I+1,σ2.p,0⟩::.own (.slice (some q) 7 7) 9 1 (Q4.map fun s=>[.string s])::.blk b6 (.cells (cG ⟨⟨3,C5,[],(j:Nat),l,D3,0,0,0⟩,none,0,0⟩).toArray 77)::.blk b2 (.cells (cG ⟨⟨0,C5,[],0,D3,D3,0,0,0⟩,none,0,0⟩).toArray 77)::S) w:=hw
    repeat first|refine A5 ?_|refine A6 ?_;intro w hw
    exact⟨μ-1,by omega,j+1,j,⟨σ2.I+1,σ2.p,0⟩,by omega,by omega,by show σ2.I+1≤n;omega,.inr ⟨by omega,.inl ⟨rfl,q3⟩⟩,⟨rfl,rfl,rfl,rfl,rfl,trivial⟩,hw⟩
   | false=>
    have hT:G7 toks σ2 4 t=σ2:=by unfold G7;rw[if_neg (by rw[hb];decide)]
    rw[hT]at hw;repeat first|refine A5 ?_|refine A6 ?_;intro w hw
    refine A0 rfl (fun h=>by cases h) (fun _=>?_)
    repeat first|refine A5 ?_|refine A6 ?_;intro w hw
    refine⟨μ-1,by omega,j+1,0,σ2,by omega,by omega,by omega,.inl ⟨rfl,rfl,fun h0=>?_⟩,⟨rfl,rfl,rfl,rfl,rfl,trivial⟩,hw⟩
    rw[hup2 h0,if_neg];rw[decide_eq_true h0]at hb;rw[show L5 toks σ2.I 4 t=false from hb];decide
  repeat clear hw
  clear hG hI1;rintro ρ w ⟨σ2,u,hI2,hρ,hst,hw⟩
  rw[hρ.eq];clear hρ;refine Q7 ?_
  refine J6 (fun ρ w=>∃(σ3:RS),σ3.I≤toks.length∧Has ρ [(0,.pointer (some ⟨bp,0,none⟩)),(2,.pointer (some ⟨b2,0,none⟩)),(6,.pointer (some ⟨b6,0,none⟩))]∧Goes P σ3 (fun k=>C6 (AV toks (C0 s) k) fun r k1=>C6 (Dl toks (C0 s) k1) fun o k2=>.ok (⟨3,C5,[],u,l,r,o,0,0⟩,k2))∧Wd Γ (I5 bp s a n c σ3::.blk b6 (.cells (cG ⟨⟨3,C5,[],(u:Nat),l,D3,0,0,0⟩,none,0,0⟩).toArray 77)::.blk b2 (.cells (cG ⟨⟨0,C5,[],0,D3,D3,0,0,0⟩,none,0,0⟩).toArray 77)::S) w) ?_ ?_
  ·repeat first|refine A5 ?_|refine A6 ?_;intro w hw
   refine A0 rfl (fun h=>?_) (fun h=>?_)
   ·have h:(u:Int)=0:=of_decide_eq_true h
    have h:u=0:=by omega
    subst h;have hst:=(hst.resolve_right fun q=>q.1 rfl).2
    repeat first|refine A5 ?_|refine A6 ?_;intro w hw
    refine B9 ?_;refine(Q6 (σ2.I:Int) σ2.I 50 (fun _=>rfl) hw).mono ?_
    clear hw;rintro r w ⟨rfl,hw⟩
    refine⟨_,rfl,?_⟩;have hF:(J7 toks (C0 s) σ2 σ2.I 50).er≠0∧P=.error ((J7 toks (C0 s) σ2 σ2.I 50).p,(J7 toks (C0 s) σ2 σ2.I 50).er):=by
     rcases hst with⟨q1,q2⟩|⟨q1,q2⟩
     ·rw[V5 q1];exact⟨Ie,q2⟩
     ·rw[Hn q1];exact⟨q1,q2⟩
    have hFI:(J7 toks (C0 s) σ2 σ2.I 50).I=σ2.I:=V4
    repeat first|refine A5 ?_|refine A6 ?_;intro w hw
    exact⟨_,by omega,⟨rfl,rfl,rfl,trivial⟩,.inr hF,hw⟩
   ·have h:¬(u:Int)=0:=of_decide_eq_false h
    have hst:=(hst.resolve_left fun q=>h (by omega)).2
    repeat first|refine A5 ?_|refine A6 ?_;intro w hw
    exact⟨σ2,by omega,⟨rfl,rfl,rfl,trivial⟩,hst,hw⟩
  repeat clear hw
  clear hst hI2;rintro ρ w ⟨σ3,hI3,hρ,hG,hw⟩
  rw[hρ.eq];clear hρ;have hG:=hG.next (q:=AT toks (C0 s) σ3) (fun h0=>De hW h0) Ex
  have hI4:=Hs (toks:=toks) (e:=C0 s) (σ:=σ3) (by omega)
  have hOp:∀(X:List B5) (w:World),Wd Γ (I5 bp s a n c σ3::X) w→_:=fun X w hw=>m5 (S:=X) hW (by omega) hw
  generalize AT toks (C0 s) σ3=q at *
  obtain⟨r2,σ4⟩:=q;dsimp only at hG hOp hI4
  repeat first|refine A5 ?_|refine A6 ?_;intro w hw
  refine B9 ?_;refine(hOp _ _ hw).mono ?_
  clear hw hOp;rintro r w ⟨rfl,hw⟩
  refine⟨_,rfl,?_⟩;repeat first|refine A5 ?_|refine A6 ?_;intro w hw
  refine A9 (i:=1) ?_
  intro w hw;have hw:Wd Γ (I5 bp s a n c σ4::.blk b6 (.cells (cG ⟨⟨3,C5,[],(u:Nat),l,r2,0,0,0⟩,none,0,0⟩).toArray 77)::.blk b2 (.cells (cG ⟨⟨0,C5,[],0,D3,D3,0,0,0⟩,none,0,0⟩).toArray 77)::S) w:=hw
  have hG:=hG.off
  have hI5:=Da (σ:=σ4) (kind:=4) (text:=j9) hI4
  have hI6:=Da (σ:=σ4) (kind:=4) (text:=J8) hI4
  refine R5 ?_
  refine Q7 ?_
  refine J6 (fun ρ w=>Has ρ [(0,.pointer (some ⟨bp,0,none⟩)),(2,.pointer (some ⟨b2,0,none⟩)),(6,.pointer (some ⟨b6,0,none⟩)),(9,.int .i64 0)]∧Wd Γ (I5 bp s a n c σ4::.blk b6 (.cells (cG ⟨⟨3,C5,[],(u:Nat),l,r2,0,0,0⟩,none,0,0⟩).toArray 77)::.blk b2 (.cells (cG ⟨⟨0,C5,[],0,D3,D3,0,0,0⟩,none,0,0⟩).toArray 77)::S) w) ?_ ?_
  ·repeat first|refine A5 ?_|refine A6 ?_;intro w hw
   exact⟨⟨rfl,rfl,rfl,rfl,trivial⟩,hw⟩
  repeat clear hw
  rintro ρ w ⟨hρ,hw⟩
  rw[hρ.eq];clear hρ;refine Q7 ?_
  refine J6 (fun ρ w=>∃(sg:Int) (σ5:RS),σ5.I≤toks.length∧Has ρ [(0,.pointer (some ⟨bp,0,none⟩)),(2,.pointer (some ⟨b2,0,none⟩)),(6,.pointer (some ⟨b6,0,none⟩)),(9,.int .i64 sg)]∧(((sg=1∨sg = -1)∧Goes P σ5 (fun k=>C6 (d4 toks (C0 s) 9223372036854775807 k) fun v k2=>.ok (⟨3,C5,[],u,l,r2,IntKind.i64.wrap (sg*IntKind.i64.wrap v),0,0⟩,k2)))∨(sg=0∧Goes P σ5 (fun k2=>.ok (⟨3,C5,[],u,l,r2,0,0,0⟩,k2))))∧Wd Γ (I5 bp s a n c σ5::.blk b6 (.cells (cG ⟨⟨3,C5,[],(u:Nat),l,r2,0,0,0⟩,none,0,0⟩).toArray 77)::.blk b2 (.cells (cG ⟨⟨0,C5,[],0,D3,D3,0,0,0⟩,none,0,0⟩).toArray 77)::S) w) ?_ ?_
  ·repeat first|refine A5 ?_|refine A6 ?_;intro w hw
   refine B9 (vs:=[.pointer (some ⟨bp,0,none⟩),.int .i64 4,.string j9]) ?_
   refine(X9 4 j9 hw).mono ?_
   clear hw;rintro r w ⟨rfl,hw⟩
   refine⟨_,rfl,?_⟩;repeat first|refine A5 ?_|refine A6 ?_;intro w hw
   refine A0 rfl (fun h=>?_) (fun h=>?_)
   ·have h:(decide (σ4.er=0)&&L5 toks σ4.I 4 j9)=true:=h
    obtain⟨-,hG⟩:=hG.resolve_right fun q=>by rcases q with q|q <;> (rw[h]at q;cases q.1)
    repeat first|refine A5 ?_|refine A6 ?_;intro w hw
    refine⟨1,_,hI5,⟨rfl,rfl,rfl,rfl,trivial⟩,.inl ⟨.inl rfl,?_⟩,hw⟩
    refine hG.map fun k=>u9 fun v k2 _=>?_
    rw[Int.one_mul,SL]
   have h:(decide (σ4.er=0)&&L5 toks σ4.I 4 j9)=false:=h
   have hT:G7 toks σ4 4 j9=σ4:=by unfold G7;rw[if_neg (by rw[h];decide)]
   rw[hT]at hw;have hG:=hG.resolve_left fun q=>by rw[h]at q;cases q.1
   repeat first|refine A5 ?_|refine A6 ?_;intro w hw
   refine B9 (vs:=[.pointer (some ⟨bp,0,none⟩),.int .i64 4,.string J8]) ?_
   refine(X9 4 J8 hw).mono ?_
   clear hw;rintro r w ⟨rfl,hw⟩
   refine⟨_,rfl,?_⟩;repeat first|refine A5 ?_|refine A6 ?_;intro w hw
   refine A0 rfl (fun h2=>?_) (fun h2=>?_)
   ·have h2:(decide (σ4.er=0)&&L5 toks σ4.I 4 J8)=true:=h2
    obtain⟨-,-,hG⟩:=hG.resolve_right fun q=>by rw[h2]at q;cases q.2.1
    repeat first|refine A5 ?_|refine A6 ?_;intro w hw
    refine⟨-1,_,hI6,⟨rfl,rfl,rfl,rfl,trivial⟩,.inl ⟨.inr rfl,?_⟩,hw⟩
    refine hG.map fun k=>u9 fun v k2 _=>?_
    rw[Int.neg_mul,Int.one_mul]
   have h2:(decide (σ4.er=0)&&L5 toks σ4.I 4 J8)=false:=h2
   obtain⟨-,-,hG⟩:=hG.resolve_left fun q=>by rw[h2]at q;cases q.2.1
   have hT:G7 toks σ4 4 J8=σ4:=by unfold G7;rw[if_neg (by rw[h2];decide)]
   rw[hT]at hw;repeat first|refine A5 ?_|refine A6 ?_;intro w hw
   exact⟨0,σ4,hI4,⟨rfl,rfl,rfl,rfl,trivial⟩,.inr ⟨rfl,hG⟩,hw⟩
  repeat clear hw
  clear hG hI4 hI5 hI6 hI3;rintro ρ w ⟨sg,σ5,hI5,hρ,hG,hw⟩
  rw[hρ.eq];clear hρ;refine Q7 ?_
  refine J6 (fun ρ w=>∃(o:Int) (σ6:RS),σ6.I≤n∧Has ρ [(0,.pointer (some ⟨bp,0,none⟩)),(2,.pointer (some ⟨b2,0,none⟩)),(6,.pointer (some ⟨b6,0,none⟩))]∧Goes P σ6 (fun k2=>.ok (⟨3,C5,[],u,l,r2,o,0,0⟩,k2))∧Wd Γ (I5 bp s a n c σ6::.blk b6 (.cells (cG ⟨⟨3,C5,[],(u:Nat),l,r2,o,0,0⟩,none,0,0⟩).toArray 77)::.blk b2 (.cells (cG ⟨⟨0,C5,[],0,D3,D3,0,0,0⟩,none,0,0⟩).toArray 77)::S) w) ?_ ?_
  ·repeat first|refine A5 ?_|refine A6 ?_;intro w hw
   refine A0 rfl (fun h=>?_) (fun h=>?_)
   rotate_left
   ·have h:decide (sg≠0)=false:=h
    have h:sg=0:=by simpa using h
    subst h;obtain⟨-,hG⟩:=hG.resolve_left fun q=>by rcases q.1 with q|q <;> exact absurd q (by decide)
    repeat first|refine A5 ?_|refine A6 ?_;intro w hw
    exact⟨0,σ5,by omega,⟨rfl,rfl,rfl,trivial⟩,hG,hw⟩
   have h:decide (sg≠0)=true:=h
   have h:¬sg=0:=by simpa using h
   obtain⟨hsg,hG⟩:=hG.resolve_right fun q=>h q.1
   have hG:=hG.next (q:=JW toks (C0 s) σ5) (fun h0=>Qx h0) RP
   have hI6:=Tf (e:=C0 s) (σ:=σ5) hI5
   repeat first|refine A5 ?_|refine A6 ?_;intro w hw
   refine B9 ?_;refine(Hw 2 (by omega) hw).mono ?_
   clear hw;rintro r w ⟨rfl,hw⟩
   refine⟨_,rfl,?_⟩;have hI3:=Bb (toks:=toks) (e:=C0 s) (σ:=σ5) (kind:=2)
   unfold JW at hG hI6;generalize K7 toks (C0 s) σ5 2=q at *
   obtain⟨t,τ⟩:=q;dsimp only at hw hI3 hG hI6 ⊢
   refine lY (v:=.int .u64 t.Value) ?_ (hy:=Gq rfl (by kernel_rfl))
   refine lY ?_;refine R5 ?_
   refine Q7 ?_
   refine J6 (fun ρ w=>∃(v:Int) (σ6:RS),σ6.I≤n∧Has ρ [(0,.pointer (some ⟨bp,0,none⟩)),(2,.pointer (some ⟨b2,0,none⟩)),(6,.pointer (some ⟨b6,0,none⟩)),(9,.int .i64 sg),(10,.int .u64 v)]∧Goes P σ6 (fun k2=>.ok (⟨3,C5,[],u,l,r2,IntKind.i64.wrap (sg*IntKind.i64.wrap v),0,0⟩,k2))∧Wd Γ (I5 bp s a n c σ6::.blk b6 (.cells (cG ⟨⟨3,C5,[],(u:Nat),l,r2,0,0,0⟩,none,0,0⟩).toArray 77)::.blk b2 (.cells (cG ⟨⟨0,C5,[],0,D3,D3,0,0,0⟩,none,0,0⟩).toArray 77)::S) w) ?_ ?_
   ·repeat first|refine A5 ?_|refine A6 ?_;intro w hw
    refine A0 rfl (fun h4=>?_) (fun h4=>?_)
    rotate_left
    ·have h4:¬9223372036854775808≤t.Value:=of_decide_eq_false h4
     rw[if_neg h4]at hG hI6
     repeat first|refine A5 ?_|refine A6 ?_;intro w hw
     exact⟨t.Value,τ,by dsimp only at hI6;omega,⟨rfl,rfl,rfl,rfl,rfl,trivial⟩,hG,hw⟩
    have h4:9223372036854775808≤t.Value:=of_decide_eq_true h4
    rw[if_pos h4]at hG hI6
    have hτ:τ.I≤n:=by
     have:=hI6
     dsimp only at this
     rw[V4]at this;omega
    repeat first|refine A5 ?_|refine A6 ?_;intro w hw
    refine B9 ?_;refine(Q6 ((τ.I:Int)-1) (τ.I-1) 6 (fun h0=>by have:=hI3 h0;omega) hw).mono ?_
    clear hw;rintro r w ⟨rfl,hw⟩
    refine⟨_,rfl,?_⟩;repeat first|refine A5 ?_|refine A6 ?_;intro w hw
    exact⟨0,J7 toks (C0 s) τ (τ.I-1) 6,by rw[V4];exact hτ,⟨rfl,rfl,rfl,rfl,rfl,trivial⟩,hG,hw⟩
   repeat clear hw
   clear hG hI6 hI3;rintro ρ w ⟨v,σ6,hI6,hρ,hG,hw⟩
   rw[hρ.eq];clear hρ;repeat first|refine A5 ?_|refine A6 ?_;intro w hw
   refine A9 (i:=1) ?_
   intro w hw;have hw:Wd Γ (I5 bp s a n c σ6::.blk b6 (.cells (cG ⟨⟨3,C5,[],(u:Nat),l,r2,IntKind.i64.wrap (sg*IntKind.i64.wrap v),0,0⟩,none,0,0⟩).toArray 77)::.blk b2 (.cells (cG ⟨⟨0,C5,[],0,D3,D3,0,0,0⟩,none,0,0⟩).toArray 77)::S) w:=hw
   repeat first|refine A5 ?_|refine A6 ?_;intro w hw
   exact⟨_,σ6,hI6,⟨rfl,rfl,rfl,trivial⟩,hG,hw⟩
  repeat clear hw
  clear hG hI5;rintro ρ w ⟨o,σ6,hI6,hρ,hG,hw⟩
  rw[hρ.eq];clear hρ;repeat first|refine A5 ?_|refine A6 ?_;intro w hw
  refine A9 (i:=2) ?_
  intro w hw;have hw:Wd Γ (I5 bp s a n c σ6::.blk b6 (.cells (cG ⟨⟨3,C5,[],(u:Nat),l,r2,o,0,0⟩,none,0,0⟩).toArray 77)::.blk b2 (.cells (cG ⟨⟨3,C5,[],(u:Nat),l,r2,o,0,0⟩,none,0,0⟩).toArray 77)::S) w:=hw
  repeat first|refine A5 ?_|refine A6 ?_;intro w hw
  exact⟨[.agg (cG ⟨⟨3,C5,[],(u:Nat),l,r2,o,0,0⟩,none,0,0⟩).toArray],⟨J2 (i:=2) hw rfl rfl rfl,trivial⟩,_,(none,0,0),σ6,rfl,hI6,hG,Wd.addNil ((hw.dropAt 1).dropAt 1)⟩
end
end Go.Proofs.YtlmiakjbogojgaaGreatDoor
end
