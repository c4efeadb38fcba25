/- Texts of this proof, one behind another. -/
import Derived.Test.YthgighljhoneeaaGreatDoorM6
import Derived.Test.YthgighljhoneeaaGreatDoorM3
import Derived.Test.YthgighljhoneeaaGreatDoorM5
import Derived.Test.YthgighljhoneeaaGreatDoorM4
import Derived.Test.YthgighljhoneeaaGreatDoorM2
set_option linter.unusedVariables false
set_option linter.unusedSimpArgs false
section
open Go Mk
namespace Go.Proofs.YthgighljhoneeaaGreatDoor
set_option maxHeartbeats 64000000
attribute [local irreducible] Calls
attribute [local irreducible] matL
theorem liveS_zero {H:HwT} {L:List Int} (h:(liveS H L).2=0):validS H=0∧(∀ id∈L,(findC H.Cores id).2=true)∧L.Nodup∧L≠[]∧(liveS H L).1=(sortZ L).map fun id=>(findC H.Cores id).1:=by
 have hv:validS H=0:=by
  by_cases e:validS H=0
  ·exact e
  ·rw [liveS_bad e] at h;exact absurd h e
 have hc:=liveS_code hv L
 rw [h] at hc
 have h1:¬ ∃ id∈L,(findC H.Cores id).2=false:=fun e=>by rw [if_pos e] at hc;cases hc
 rw [if_neg h1] at hc
 have h2:L.Nodup:=by
  by_cases e:L.Nodup
  ·exact e
  ·rw [if_pos e] at hc;cases hc
 rw [if_neg (fun e=>e h2)] at hc
 have h3:L≠[]:=fun e=>by rw [if_pos e] at hc;cases hc
 refine ⟨hv,fun id hid=>?_,h2,h3,?_⟩
 ·cases e:(findC H.Cores id).2
  ·exact absurd ⟨id,hid,e⟩ h1
  ·rfl
 ·unfold liveS at h ⊢
  rw [if_neg (by simp [hv])] at h ⊢
  split
  ·rename_i e;rw [if_pos e] at h;cases h
  ·rename_i e
   rw [if_neg e] at h
   split
   ·rename_i e2;rw [if_pos e2] at h;cases h
   ·rename_i e2
    rw [if_neg e2] at h
    split
    ·rename_i e3;rw [if_pos e3] at h;cases h
    ·rfl
theorem bsortI_sortZ {L:List Int} (h:L.Nodup):bsort ltI L=sortZ L:=(sortZ_eq (bsortI_sorted h) (bsortI_perm L)).symm
theorem rdS_nil {Γ:Gho} {S:List Res}:RdS Γ S (.slice none 0 0) 1 (intRows []):=⟨none,0,0,rfl,rfl,Nat.le_refl _,by decide,fun w _=>⟨fun r h=>by simp [intRows] at h,fun h=>by simp [intRows] at h,fun j u hj=>by simp [intRows] at hj⟩⟩
def rmL (n:Nat) (cap:Int) (k:Nat):List Int:=rowN n fun u=>if u < k then cap else 0
theorem rmL_set {n k:Nat} {cap:Int}:(intRows (rmL n cap k)).set k [.int .i64 cap]=intRows (rmL n cap (k+1)):=by
 unfold rmL
 rw [rowI_set,rowN_congr fun v _=>?_]
 unfold setN
 by_cases e:v=k
 ·subst e;rw [if_pos rfl,if_pos (by omega)]
 ·rw [if_neg e]
  by_cases e2:v < k
  ·show (if v < k then cap else 0)=_
   rw [if_pos e2,if_pos (by omega)]
  ·show (if v < k then cap else 0)=_
   rw [if_neg e2,if_neg (by omega)]
theorem rmL_end {n cap:Nat}:rmL n cap n=roomL n cap []:=rowN_congr fun v hv=>by rw [if_pos hv];simp
set_option maxRecDepth 8000 in
theorem rinterruptsW {Γ : Gho} {u : Value} {H : HwT} [hh : HwR Γ u H] [hwd : WideH H] {S : List Res} {w : World} {v : Value} {L : List Int} {per : Int} (hr : RepS Γ v 1 (intRows L)) (hN : L.length ≤ 1000) (hLen : (liveS H L).1.length ≤ 64) (hDev : H.Devs.length ≤ 1000) (hLe : HwLe H) (hw : Wd Γ S w) :
    Calls Tryz.prog 18 #[u,v,.int .i64 per] w fun e w'=>∃ (Γ':Gho) (v':Value) (rs:List (Int × Int)) (tot code:Int),Γ.le Γ'∧e=.returned (.tuple #[v',.int .i64 tot,.int .i64 code])∧IntPost H L per rs tot code ∧
      Wd Γ' (.own v' 107 2 (rs.map prI)::S) w':=by
  have hhw:=hh
  obtain ⟨a1,n1,c1,a2,n2,c2,a3,n3,c3,a4,n4,c4,a5,n5,c5,cs',rfl,hcs,hok,hsz,r1,r2,r3,r4,r5⟩:=hh.h
  obtain ⟨hn5,hm5,hx5⟩:=rep_facts r5
  simp only [List.length_map] at hn5
  obtain ⟨av,nv,cv,rfl,hnv,hncv,hccv⟩:=hr.shape
  have hnv:nv=L.length:=by simpa [intRows] using hnv
  haveI plv:PG Tryz.prog Γ 45 [.agg #[.string H.Name,.slice a1 n1 c1,.slice a2 n2 c2,.slice a3 n3 c3,.slice a4 n4 c4,.slice a5 n5 c5],.slice av nv cv] (.int .i64 (liveS H L).2):=⟨fun S w hw=>lives_any (hh:=hhw) hr hw⟩
  refine calls_of_W Tryz.func18 rfl rfl ?_
  repeat (first | refine byW ?_ | (refine byV ?_;intro w hw))
  refine lBox ?_
  intro b3 w hw
  have hw:Wd Γ (.blk b3 (hwC H a1 n1 c1 a2 n2 c2 a3 n3 c3 a4 n4 c4 a5 n5 c5)::S) w:=hw
  repeat (first | refine byW ?_ | (refine byV ?_;intro w hw))
  refine W_cond rfl (fun h=>?_) (fun h=>?_)
  · have h:(liveS H L).2≠0:=of_decide_eq_true h
    repeat (first | refine byW ?_ | (refine byV ?_;intro w hw))
    exact ⟨_,rfl,Γ,_,[],0,(liveS H L).2,Gho.le.refl _,rfl,by unfold IntPost;rw [if_pos h];exact ⟨rfl,rfl,rfl⟩,Wd.addNil hw.drop⟩
  have hcode:(liveS H L).2=0:=by
    by_cases e:(liveS H L).2=0
    · exact e
    · exact absurd (decide_eq_true (show (liveS H L).2≠0 from e)) (by simp [h])
  clear h
  obtain ⟨hv,hknown,hnod,hLne,hl1⟩:=liveS_zero hcode
  have hcode2:¬ (liveS H L).2≠0:=fun e=>e hcode
  have hl1n:(liveS H L).1.length=nv:=by rw [hl1,List.length_map,(sortZ_perm L).length_eq,hnv]
  repeat (first | refine byW ?_ | (refine byV ?_;intro w hw))
  refine W_cond rfl (fun h=>?_) (fun h=>?_)
  · have h:per < 1∨256 < per:=by simpa using h
    repeat (first | refine byW ?_ | (refine byV ?_;intro w hw))
    exact ⟨_,rfl,Γ,_,[],0,6,Gho.le.refl _,rfl,by unfold IntPost;rw [if_neg hcode2,if_pos h];exact ⟨rfl,rfl,rfl⟩,Wd.addNil hw.drop⟩
  have hper:¬ (per < 1∨256 < per):=by
    intro hh
    have h:¬ (per < 1∨256 < per):=by simpa using h
    exact h hh
  clear h
  have hmul:IntKind.i64.wrap (per * (nv:Int))=per * (nv:Int):=by
    have h1:0≤per * (nv:Int):=Int.mul_nonneg (by omega) (by omega)
    have h2:per * (nv:Int)≤256 * (nv:Int):=Int.mul_le_mul_of_nonneg_right (by omega) (by omega)
    exact wrap_i64 (by omega) (by omega)
  repeat (first | refine byW ?_ | (refine byV ?_;intro w hw))
  refine W_cond rfl (fun h=>?_) (fun h=>?_)
  · have h : per * (nv : Int) < n5 := by
      rw [← hmul]
      exact of_decide_eq_true h
    repeat (first | refine byW ?_ | (refine byV ?_;intro w hw))
    exact ⟨_,rfl,Γ,_,[],0,64,Gho.le.refl _,rfl,by unfold IntPost;rw [if_neg hcode2,if_neg hper,hl1n,← hn5,if_pos h];exact ⟨rfl,rfl,rfl⟩,Wd.addNil hw.drop⟩
  have hfit:¬ per * (nv:Int) < n5:=by
    intro hh
    rw [← hmul] at hh
    exact (of_decide_eq_false h) hh
  clear h
  obtain ⟨cap,hcapE⟩:∃ cap:Nat,per=cap:=⟨per.toNat,by omega⟩
  subst hcapE
  repeat (first | refine byW ?_ | (refine byV ?_;intro w hw))
  refine lCall ((SortInts_any (RepS.rdS hr) (by omega) hw).mono fun e w hq=>?_)
  clear hw
  obtain ⟨vs,rfl,hw⟩:=hq
  refine ⟨_,rfl,?_⟩
  have hLSs:=bsortI_sorted hnod
  have hLSz:=bsortI_sortZ hnod
  have hLSp:=bsortI_perm L
  generalize bsort ltI L=LS at *
  rw [← hLSz] at hl1
  obtain ⟨al,n,cl,rfl,hn, -, -⟩:=hw.own_shape (i:=0) rfl
  have hn:n=LS.length:=by simpa [intRows] using hn
  obtain ⟨Γ1,hle1,rl,hw1⟩:=hw.freeze
  clear hw
  have hw:Wd Γ1 (.blk b3 (hwC H a1 n1 c1 a2 n2 c2 a3 n3 c3 a4 n4 c4 a5 n5 c5)::S) w:=hw1
  clear hw1
  have hR1:=hhw.mono hle1
  obtain ⟨cs,hcsE⟩:∃ cs,cs=(liveS H L).1:=⟨_,rfl⟩
  have hcl:cs.length=n:=by rw [hcsE,hl1,List.length_map,hn]
  have hn64:n≤64:=by rw [← hcl,hcsE];exact hLen
  have hnnv:n=nv:=by rw [← hcl,hcsE];exact hl1n
  have hidf:∀ (k:Nat) (c:CoreT),cs[k]? = some c→LS[k]? = some c.ID∧c∈H.Cores∧(findC H.Cores c.ID).2=true∧coreN H c.ID=c.Node:=fun k c hc=>by
    rw [hcsE,hl1,List.getElem?_map] at hc
    cases hq:LS[k]? with
    | none=>rw [hq] at hc;cases hc
    | some id=>
      rw [hq] at hc
      simp only [Option.map_some,Option.some.injEq] at hc
      have hid:=hknown id (hLSp.mem_iff.1 (List.mem_of_getElem? hq))
      obtain ⟨g1,g2⟩:=findC_in hid
      rw [hc] at g1 g2
      exact ⟨by rw [g2],g1,by rw [g2];exact hid,by unfold coreN;rw [g2,hc]⟩
  have hcm:∀ c∈cs,c∈H.Cores:=fun c hc=>by
    obtain ⟨k,hk⟩:=List.mem_iff_getElem?.1 hc
    exact (hidf k c hk).2.1
  repeat (first | refine byW ?_ | (refine byV ?_;intro w hw))
  refine lCall ((RNormalize_any (hh:=hR1) hLe hw).mono fun e w hq=>?_)
  clear hw
  obtain ⟨Γ8,u8,hle8,rfl,ho⟩:=hq
  refine ⟨_,rfl,?_⟩
  obtain ⟨Γ9,hle9,hNm,hw⟩:=ho.freeze (norm_sz hsz)
  clear ho
  obtain ⟨b1',m1',d1',b2',m2',d2',b3',m3',d3',b4',m4',d4',b5',m5',d5',cs'',rfl, -, -, -, -, -, -, -,rN⟩:=hNm.h
  have hysE:=devs_norm (ys:=(normS H).Devs) hv (isort_spec cDev_lt3 _).1 ((isort_spec cDev_lt3 H.Devs).2.imp fun {a b} h=>by rw [lt_DevT] at h;have:=of_decide_eq_false h;omega)
  have hyp:(normS H).Devs.Perm H.Devs:=(isort_spec cDev_lt3 _).1
  have hys:(normS H).Devs.Pairwise fun a b=>a.IRQ≤b.IRQ:=(isort_spec cDev_lt3 H.Devs).2.imp fun {a b} h=>by rw [lt_DevT] at h;have:=of_decide_eq_false h;omega
  generalize (normS H).Devs=ys at *
  clear hysE
  have hle19:=hle1.trans (hle8.trans hle9)
  have hR9:=hhw.mono hle19
  have rl:=rl.mono (hle8.trans hle9)
  obtain ⟨hnN,hncN, -⟩:=rep_facts rN
  simp only [List.length_map] at hnN
  have hm5:m5'≤1000:=by rw [hnN,hyp.length_eq];exact hDev
  clear hle1 hle8 hle9 hR1 hNm
  repeat (first | refine byW ?_ | (refine byV ?_;intro w hw))
  refine lY (v:=.slice b5' m5' d5') ?_ (hy:=y_fldS (Tryz.underlying28) rfl rfl (by kernel_rfl) rfl)
  repeat (first | refine byW ?_ | (refine byV ?_;intro w hw))
  refine lCall ((Matrix_any (hh:=hR9) hv hw).mono fun e w hq=>?_)
  clear hw
  obtain ⟨rfl,hw⟩:=hq
  refine ⟨_,rfl,?_⟩
  repeat (first | refine byW ?_ | (refine byV ?_;intro w hw))
  refine lAlloc ?_
  intro b14 w hw
  rw [matL_zero] at hw
  have hw:Wd Γ9 (.blk b14 (.cells (matL (fun _ _=>0)).toArray 80)::.blk b3 (hwC H a1 n1 c1 a2 n2 c2 a3 n3 c3 a4 n4 c4 a5 n5 c5)::S) w:=hw
  refine lStore (i:=0) (vs:=matL (dstM H)) ?_ (hl:=matL_len _) (h1:=by rw [List.all_eq_true];exact matL_one _) (ho:=by simp [matL_len]) (hv:=by simp [Value.cells])
  intro w hw
  have hw:Wd Γ9 (.blk b14 (.cells (putCells (matL (fun _ _=>0)).toArray 0 (matL (dstM H))) 80)::.blk b3 (hwC H a1 n1 c1 a2 n2 c2 a3 n3 c3 a4 n4 c4 a5 n5 c5)::S) w:=hw
  rw [show putCells (matL (fun _ _=>0)).toArray 0 (matL (dstM H))=(matL (dstM H)).toArray from by unfold putCells;simp [matL_len]] at hw
  obtain ⟨Γ10,hle10,hD,hw1⟩:=hw.freezeB
  clear hw
  have hw:=hw1
  clear hw1
  have hR10:=hR9.mono hle10
  have rl:=rl.mono hle10
  have rN:=rN.mono hle10
  have hle:Γ.le Γ10:=hle19.trans hle10
  clear hle10 hR9 hle19
  have hnf:∀ (k:Nat) (c:CoreT),cs[k]? = some c→PG Tryz.prog Γ10 54 [.agg #[.string H.Name,.slice a1 n1 c1,.slice a2 n2 c2,.slice a3 n3 c3,.slice a4 n4 c4,.slice a5 n5 c5],.int .i64 c.ID] (.int .i64 c.Node):=fun k c hc=>by
    obtain ⟨h1,h2,h3,h4⟩:=hidf k c hc
    have:=pg_NodeOf (hh:=hR10) (x:=c.ID) h3
    rwa [h4] at this
  repeat (first | refine byW ?_ | (refine byV ?_;intro w hw))
  refine lMakeSlice (len:=n) ?_
  intro ar w hw
  repeat (first | refine byW ?_ | (refine byV ?_;intro w hw))
  refine lBox ?_
  intro b13 w hw
  have hz:List.replicate n [Value.int .i64 0]=intRows (rmL n cap 0):=by
    rw [show rmL n cap 0=rowN n fun _=>0 from rowN_congr fun j _=>by rw [if_neg (by omega)],← rep_row];simp [intRows]
  have hw:Wd Γ10 (trB b13 (.slice none 0 0) (.slice (some ar) n n) (.slice none 0 0) 0::.own (.slice (some ar) n n) 3 1 (intRows (rmL n cap 0))::.blk b3 (hwC H a1 n1 c1 a2 n2 c2 a3 n3 c3 a4 n4 c4 a5 n5 c5)::S) w:=by rw [← hz];exact hw
  clear hz
  repeat (first | refine byW ?_ | (refine byV ?_;intro w hw))
  refine W_loop (fun μ ρ w=>∃ (i:Nat),μ+i=n∧Has ρ [(2,.int .i64 cap),(3,.pointer (some ⟨b3,0,none⟩)),(10,.slice al n cl),(11,.slice b5' m5' d5'),(12,.pointer (some ⟨b14,0,none⟩)),(13,.pointer (some ⟨b13,0,none⟩)),(14,.int .i64 i)]∧Wd Γ10 (trB b13 (.slice none 0 0) (.slice (some ar) n n) (.slice none 0 0) 0::.own (.slice (some ar) n n) 3 1 (intRows (rmL n cap i))::.blk b3 (hwC H a1 n1 c1 a2 n2 c2 a3 n3 c3 a4 n4 c4 a5 n5 c5)::S) w) n ⟨0,by omega,⟨rfl,rfl,rfl,rfl,rfl,rfl,rfl,trivial⟩,hw⟩ ?_
  clear hw
  rintro μ ρ w ⟨i,hμ,hρ,hw⟩
  rw [hρ.eq]
  clear hρ
  repeat (first | refine byW ?_ | (refine byV ?_;intro w hw))
  refine W_cond rfl (fun h=>?_) (fun h=>?_)
  · have hin:i < n:=by have:=of_decide_eq_true h;omega
    clear h
    have hrl:(rmL n cap i).length=n:=rowN_len _ _
    repeat (first | refine byW ?_ | (refine byV ?_;intro w hw))
    refine lStoreE (k:=i) (r:=[.int .i64 cap]) ?_
    intro w hw
    have hw:Wd Γ10 (trB b13 (.slice none 0 0) (.slice (some ar) n n) (.slice none 0 0) 0::.own (.slice (some ar) n n) 3 1 ((intRows (rmL n cap i)).set i [.int .i64 cap])::.blk b3 (hwC H a1 n1 c1 a2 n2 c2 a3 n3 c3 a4 n4 c4 a5 n5 c5)::S) w:=hw
    rw [rmL_set] at hw
    repeat (first | refine byW ?_ | (refine byV ?_;intro w hw))
    exact ⟨n - i - 1,by omega,i+1,by omega,⟨rfl,rfl,rfl,rfl,rfl,rfl,rfl,trivial⟩,hw⟩
  have hin:i=n:=by have:=of_decide_eq_false h;omega
  clear h
  rw [hin,rmL_end] at hw
  clear hin hμ
  have hw:Wd Γ10 (trB b13 (.slice none 0 0) (.slice (some ar) n n) (.slice none 0 0) 0::.own (.slice none 0 0) 29 1 (hdrs [])::.own (.slice (some ar) n n) 3 1 (intRows (roomL n cap []))::.blk b3 (hwC H a1 n1 c1 a2 n2 c2 a3 n3 c3 a4 n4 c4 a5 n5 c5)::(inn 3 1 (innM [] ((costsA H cs ys).take 0))++S)) w:=(Wd.addNil (a:=none) (E:=29) (sz:=1) hw).ps [1]
  repeat (first | refine byW ?_ | (refine byV ?_;intro w hw))
  refine W_loop (fun μ ρ w=>∃ (i:Nat) (va:Option Addr) (vn vc:Nat) (hs:List Value),μ+i=m5'∧hs.length=i∧Has ρ [(2,.int .i64 cap),(3,.pointer (some ⟨b3,0,none⟩)),(10,.slice al n cl),(11,.slice b5' m5' d5'),(12,.pointer (some ⟨b14,0,none⟩)),(13,.pointer (some ⟨b13,0,none⟩)),(15,.int .i64 i)]∧Wd Γ10 (trB b13 (.slice va vn vc) (.slice (some ar) n n) (.slice none 0 0) 0::.own (.slice va vn vc) 29 1 (hdrs hs)::.own (.slice (some ar) n n) 3 1 (intRows (roomL n cap []))::.blk b3 (hwC H a1 n1 c1 a2 n2 c2 a3 n3 c3 a4 n4 c4 a5 n5 c5)::(inn 3 1 (innM hs ((costsA H cs ys).take i))++S)) w) m5' ⟨0,none,0,0,[],by omega,rfl,⟨rfl,rfl,rfl,rfl,rfl,rfl,rfl,trivial⟩,hw⟩ ?_
  clear hw
  rintro μ ρ w ⟨i,va,vn,vc,hs,hμ,hhs,hρ,hw⟩
  rw [hρ.eq]
  clear hρ
  repeat (first | refine byW ?_ | (refine byV ?_;intro w hw))
  refine W_cond rfl (fun h=>?_) (fun h=>?_)
  · have hin:i < m5':=by have:=of_decide_eq_true h;omega
    clear h
    obtain ⟨dv,hdv⟩:=get_lt (l:=ys) (k:=i) (by omega)
    have hdm:dv∈H.Devs:=hyp.mem_iff.1 (List.mem_of_getElem? hdv)
    repeat (first | refine byW ?_ | (refine byV ?_;intro w hw))
    refine lMakeSlice (len:=n) ?_
    intro a16 w hw
    have hz:List.replicate n [Value.int .i64 0]=intRows (rowN n (rowD H cs dv 0)):=by
      rw [show rowN n (rowD H cs dv 0)=rowN n fun _=>0 from rowN_congr fun j _=>by unfold rowD;rw [if_neg (by omega)],← rep_row];simp [intRows]
    have hw:Wd Γ10 (.own (.slice (some a16) n n) 3 1 (List.replicate n [Value.int .i64 0])::trB b13 (.slice va vn vc) (.slice (some ar) n n) (.slice none 0 0) 0::.own (.slice va vn vc) 29 1 (hdrs hs)::.own (.slice (some ar) n n) 3 1 (intRows (roomL n cap []))::.blk b3 (hwC H a1 n1 c1 a2 n2 c2 a3 n3 c3 a4 n4 c4 a5 n5 c5)::(inn 3 1 (innM hs ((costsA H cs ys).take i))++S)) w:=hw
    rw [hz] at hw
    repeat (first | refine byW ?_ | (refine byV ?_;intro w hw))
    refine W_loop (fun μ2 ρ w=>∃ k:Nat,μ2+k=n∧Has ρ [(2,.int .i64 cap),(3,.pointer (some ⟨b3,0,none⟩)),(10,.slice al n cl),(11,.slice b5' m5' d5'),(12,.pointer (some ⟨b14,0,none⟩)),(13,.pointer (some ⟨b13,0,none⟩)),(15,.int .i64 i),(16,.slice (some a16) n n),(17,.int .i64 k)]∧Wd Γ10 (.own (.slice (some a16) n n) 3 1 (intRows (rowN n (rowD H cs dv k)))::trB b13 (.slice va vn vc) (.slice (some ar) n n) (.slice none 0 0) 0::.own (.slice va vn vc) 29 1 (hdrs hs)::.own (.slice (some ar) n n) 3 1 (intRows (roomL n cap []))::.blk b3 (hwC H a1 n1 c1 a2 n2 c2 a3 n3 c3 a4 n4 c4 a5 n5 c5)::(inn 3 1 (innM hs ((costsA H cs ys).take i))++S)) w) n ⟨0,by omega,⟨rfl,rfl,rfl,rfl,rfl,rfl,rfl,rfl,rfl,trivial⟩,hw⟩ ?_
    clear hw hz
    rintro μ2 ρ w ⟨k,hμ2,hρ,hw⟩
    rw [hρ.eq]
    clear hρ
    repeat (first | refine byW ?_ | (refine byV ?_;intro w hw))
    refine W_cond rfl (fun h=>?_) (fun h=>?_)
    · have hkn:k < n:=by have:=of_decide_eq_true h;omega
      clear h
      obtain ⟨c,hc⟩:=get_lt (l:=cs) (k:=k) (by omega)
      obtain ⟨hLk,hcmk, -, -⟩:=hidf k c hc
      haveI pn:=hnf k c hc
      have hn1:=(dev_rng hv hdm).1
      have hn2:nIn c.Node:=core_node hv hcmk
      have hnn1:0≤dv.Node∧dv.Node < 64:=hn1
      have hnn2:0≤c.Node∧c.Node < 64:=hn2
      obtain ⟨-, -,hdd⟩:=dev_cost hv hdm hcmk
      have hgm:(matL (dstM H)).toArray[0+dv.Node.toNat * 64+c.Node.toNat * 1]? = some (.int .i64 (dstF H dv.Node c.Node)):=by rw [hdd];exact getM _ hn1 hn2
      obtain ⟨T,hT⟩:∃ T,T=trB b13 (.slice va vn vc) (.slice (some ar) n n) (.slice none 0 0) 0::.own (.slice va vn vc) 29 1 (hdrs hs)::.own (.slice (some ar) n n) 3 1 (intRows (roomL n cap []))::(inn 3 1 (innM hs ((costsA H cs ys).take i))++S):=⟨_,rfl⟩
      have hw:Wd Γ10 (.blk b3 (hwC H a1 n1 c1 a2 n2 c2 a3 n3 c3 a4 n4 c4 a5 n5 c5)::.own (.slice (some a16) n n) 3 1 (intRows (rowN n (rowD H cs dv k)))::trB b13 (.slice va vn vc) (.slice (some ar) n n) (.slice none 0 0) 0::.own (.slice va vn vc) 29 1 (hdrs hs)::.own (.slice (some ar) n n) 3 1 (intRows (roomL n cap []))::(inn 3 1 (innM hs ((costsA H cs ys).take i))++S)) w:=hw.ps [4]
      rw [← hT] at hw
      have hw:Wd Γ10 ([.blk b3 (hwC H a1 n1 c1 a2 n2 c2 a3 n3 c3 a4 n4 c4 a5 n5 c5)]++(.own (.slice (some a16) n n) 3 1 (intRows (rowN n (rowD H cs dv k)))::T)) w:=hw
      repeat (first | refine byW ?_ | (refine byV ?_;intro w hw))
      refine W_mix1 [.blk b3 (hwC H a1 n1 c1 a2 n2 c2 a3 n3 c3 a4 n4 c4 a5 n5 c5)] (.own (.slice (some a16) n n) 3 1 (intRows (rowN n (rowD H cs dv k)))::T) [[],[],[],[],[],[],[],[],[],[],[],[],[],[],[],[],[],[0]] [[],[],[],[],[],[],[],[],[],[],[],[],[],[],[],[],[0],[0]] hw ?_
      repeat (first | refine mY ?_ | refine mP ?_ | refine mPg ?_)
      refine mY (v:=.int .i64 (dstF H dv.Node c.Node)) ?_ (hy:=fun Y w g hw=>y_l1m (hB:=hD) hw rfl hgm)
      repeat (first | refine mY ?_ | refine mP ?_ | refine mPg ?_)
      refine mS (c:=0) (v:=undef) (F:=fun _=>.own (.slice (some a16) n n) 3 1 (intRows (rowN n (rowD H cs dv k)))::T) (fun _=>.own (.slice (some a16) n n) 3 1 ((intRows (rowN n (rowD H cs dv k))).set k [.int .i64 (dstF H dv.Node c.Node)])::T) (fun g w Y hw=>s_storeE (i:=0) (k:=k) (r:=[.int .i64 (dstF H dv.Node c.Node)]) (TSz.h (P:=Tryz.prog) (T:=3)) hw rfl rfl rfl rfl rfl rfl (by omega) fun w' hw'=>⟨fun _=>rfl,hw'⟩) ?_
      refine mEnd fun w g hw=>?_
      have hw:Wd Γ10 (([.blk b3 (hwC H a1 n1 c1 a2 n2 c2 a3 n3 c3 a4 n4 c4 a5 n5 c5)]++(.own (.slice (some a16) n n) 3 1 ((intRows (rowN n (rowD H cs dv k))).set k [.int .i64 (dstF H dv.Node c.Node)])::T))++[]) w:=hw
      rw [List.append_nil,rowI_set,rowD_set hc,hT] at hw
      have hw:Wd Γ10 (.own (.slice (some a16) n n) 3 1 (intRows (rowN n (rowD H cs dv (k+1))))::trB b13 (.slice va vn vc) (.slice (some ar) n n) (.slice none 0 0) 0::.own (.slice va vn vc) 29 1 (hdrs hs)::.own (.slice (some ar) n n) 3 1 (intRows (roomL n cap []))::.blk b3 (hwC H a1 n1 c1 a2 n2 c2 a3 n3 c3 a4 n4 c4 a5 n5 c5)::(inn 3 1 (innM hs ((costsA H cs ys).take i))++S)) w:=Wd.ps (S:=.blk b3 (hwC H a1 n1 c1 a2 n2 c2 a3 n3 c3 a4 n4 c4 a5 n5 c5)::.own (.slice (some a16) n n) 3 1 (intRows (rowN n (rowD H cs dv (k+1))))::trB b13 (.slice va vn vc) (.slice (some ar) n n) (.slice none 0 0) 0::.own (.slice va vn vc) 29 1 (hdrs hs)::.own (.slice (some ar) n n) 3 1 (intRows (roomL n cap []))::(inn 3 1 (innM hs ((costsA H cs ys).take i))++S)) [4,4,4,4] hw
      repeat (first | refine byW ?_ | (refine byV ?_;intro w hw))
      exact ⟨n - k - 1,by omega,k+1,by omega,⟨rfl,rfl,rfl,rfl,rfl,rfl,rfl,rfl,rfl,trivial⟩,hw⟩
    have hkn:n=k:=by have:=of_decide_eq_false h;omega
    clear h
    rw [← hkn] at hw
    clear hkn hμ2
    have hvn:vn=hs.length:=by
      obtain ⟨p1,p2,p3,hp,hp2, -, -⟩:=hw.own_shape (i:=2) rfl
      cases hp
      simpa [hdrs] using hp2
    repeat (first | refine byW ?_ | (refine byV ?_;intro w hw))
    refine lBuildSlice (hdrs [.slice (some a16) n n]) ?_
    intro a94 w hw
    repeat (first | refine byW ?_ | (refine byV ?_;intro w hw))
    refine lApp (i:=3) (rows2:=hdrs [.slice (some a16) n n]) ?_ (hw.own_rd (i:=0) rfl) rfl rfl hw rfl rfl rfl
    intro v1 w hw
    obtain ⟨va',vn',vc',rfl, -, -, -⟩:=hw.own_shape (i:=3) rfl
    repeat (first | refine byW ?_ | (refine byV ?_;intro w hw))
    refine lStore ?_
    intro w hw
    have hw:Wd Γ10 (.own (.slice (some a94) 1 1) 29 1 (hdrs [.slice (some a16) n n])::.own (.slice (some a16) n n) 3 1 (intRows (rowN n (rowD H cs dv n)))::([trB b13 (.slice va' vn' vc') (.slice (some ar) n n) (.slice none 0 0) 0,.own (.slice va' vn' vc') 29 1 (hdrs hs++hdrs [.slice (some a16) n n]),.own (.slice (some ar) n n) 3 1 (intRows (roomL n cap [])),.blk b3 (hwC H a1 n1 c1 a2 n2 c2 a3 n3 c3 a4 n4 c4 a5 n5 c5)]++(inn 3 1 (innM hs ((costsA H cs ys).take i))++S))) w:=hw
    have hw:=hw.drop
    have hcl2:i < (costsA H cs ys).length:=by unfold costsA;rw [List.length_map];omega
    have hw:=inn_snoc (A:=[trB b13 (.slice va' vn' vc') (.slice (some ar) n n) (.slice none 0 0) 0,.own (.slice va' vn' vc') 29 1 (hdrs hs++hdrs [.slice (some a16) n n]),.own (.slice (some ar) n n) 3 1 (intRows (roomL n cap [])),.blk b3 (hwC H a1 n1 c1 a2 n2 c2 a3 n3 c3 a4 n4 c4 a5 n5 c5)]) (hs:=hs) (by rw [List.length_take];omega) hw
    have htk:(costsA H cs ys).take i++[rowN n (rowD H cs dv n)]=(costsA H cs ys).take (i+1):=by
      rw [List.take_add_one]
      have:(costsA H cs ys)[i]? = some (rowN n (rowD H cs dv n)):=by
        unfold costsA
        rw [List.getElem?_map,hdv]
        refine congrArg some (List.ext_getElem? fun j=>?_)
        rw [List.getElem?_map]
        by_cases hj:j < n
        · rw [rowN_get hj]
          obtain ⟨c,hc⟩:=get_lt (l:=cs) (k:=j) (by omega)
          unfold rowD
          rw [if_pos hj,List.getD_eq_getElem?_getD,hc];rfl
        · rw [List.getElem?_eq_none (l:=cs) (by omega),List.getElem?_eq_none (by rw [rowN_len];omega)];rfl
      rw [this];rfl
    rw [htk,show hdrs hs++hdrs [Value.slice (some a16) n n]=hdrs (hs++[.slice (some a16) n n]) by simp [hdrs]] at hw
    repeat (first | refine byW ?_ | (refine byV ?_;intro w hw))
    refine ⟨m5' - i - 1,by omega,i+1,va',vn',vc',hs++[.slice (some a16) n n],by omega,by simp [hhs],⟨rfl,rfl,rfl,rfl,rfl,rfl,rfl,trivial⟩,?_⟩
    exact hw
  have hin:i=m5':=by have:=of_decide_eq_false h;omega
  clear h
  have hAl:(costsA H cs ys).length=m5':=by unfold costsA;rw [List.length_map];omega
  rw [hin,List.take_of_length_le (by omega)] at hw
  have hvn:vn=m5':=by
    obtain ⟨p1,p2,p3,hp,hp2, -, -⟩:=hw.own_shape (i:=1) rfl
    cases hp
    rw [hp2,hdrs,List.length_map];omega
  have hw2:Wd Γ10 (.own (.slice va vn vc) 29 1 (hdrs hs)::(inn 3 1 (innM hs (costsA H cs ys))++(trB b13 (.slice va vn vc) (.slice (some ar) n n) (.slice none 0 0) 0::.own (.slice (some ar) n n) 3 1 (intRows (roomL n cap []))::.blk b3 (hwC H a1 n1 c1 a2 n2 c2 a3 n3 c3 a4 n4 c4 a5 n5 c5)::S))) w:=hw.perm (((List.Perm.swap _ _ _).trans (List.Perm.cons _ (List.perm_append_comm_assoc [_,_,_] (inn 3 1 (innM hs (costsA H cs ys))) S))))
  obtain ⟨Γ11,hle11,hMA,hw3⟩:=mat_freeze (by omega) hw2
  clear hw hw2
  have hw:=hw3
  clear hw3
  rw [hvn] at hw hMA
  repeat (first | refine byW ?_ | (refine byV ?_;intro w hw))
  have hnd2:m5'=n5:=by rw [hnN,hyp.length_eq,hn5]
  have hroom:m5'≤n * cap:=by
    rw [Nat.mul_comm]
    have h1:((cap * n:Nat):Int)=(cap:Int) * (n:Int):=by push_cast;rfl
    rw [← hnnv] at hfit
    omega
  have hCM:CostM n (costsA H cs ys):=by rw [← hcl];exact costsA_ok hv hcm (fun d hd=>hyp.mem_iff.1 hd)
  obtain ⟨y,hyl,hyF⟩:=full_ex (n:=n) (cap:=cap) m5' hroom
  have hA0:∀ i c:Nat,c < n→0≤aF (costsA H cs ys) i c:=fun i c hc=>by
    by_cases hi:i < (costsA H cs ys).length
    · obtain ⟨r, -, -,h2⟩:=hCM.get hi
      exact (h2 c hc).2.1
    · unfold aF
      rw [List.getD_eq_getElem?_getD (l:=costsA H cs ys),List.getElem?_eq_none (by omega)]
      exact Int.le_refl _
  obtain ⟨x,hx,hbest,hR⟩:=tryL_best hA0 hyF hyl
  have htry:=try_any (n:=n) (cap:=cap) (bA:=b13) (ra:=some ar) (rc:=n) hMA hAl (by omega) hn64 (by omega) hCM m5' [] (.slice none 0 0) none none 0 0 (.blk b3 (hwC H a1 n1 c1 a2 n2 c2 a3 n3 c3 a4 n4 c4 a5 n5 c5)::S) w (by simp) ⟨fun v h=>by simp at h,fun u _=>by simp⟩ rdS_nil rfl hw
  rw [show costA (aF (costsA H cs ys)) []=0 from rfl,hR] at htry
  refine lCall (Calls.mono htry fun e w hq=>?_)
  clear hw htry
  obtain ⟨ab,nb,cb,rfl, -,hw⟩:=hq
  refine ⟨_,rfl,?_⟩
  have hw:Wd Γ11 (trB b13 (.slice va m5' vc) (.slice (some ar) n n) (.slice ab nb cb) (costA (aF (costsA H cs ys)) x)::.own (.slice (some ar) n n) 3 1 (intRows (roomL n cap []))::.own (.slice ab nb cb) 3 1 (intRows x)::.blk b3 (hwC H a1 n1 c1 a2 n2 c2 a3 n3 c3 a4 n4 c4 a5 n5 c5)::S) w:=hw
  have hnb:nb=m5':=by
    obtain ⟨p1,p2,p3,hp,hp2, -, -⟩:=hw.own_shape (i:=2) rfl
    cases hp
    rw [hp2,← hx];simp [intRows]
  obtain ⟨Γ12,hle12,hB13,hw1⟩:=hw.freezeB
  clear hw
  obtain ⟨Γ13,hle13,rX,hw⟩:=hw1.drop.freeze
  clear hw1
  have hle313:=hle11.trans (hle12.trans hle13)
  have hB13:=hB13.mono hle13
  have rl:=rl.mono hle313
  have rN:=rN.mono hle313
  have hle:Γ.le Γ13:=hle.trans hle313
  rw [hnb] at hB13 rX
  clear hle11 hle12 hle13 hle313 hMA
  have hw:=Wd.addNil (a:=none) (E:=107) (sz:=2) hw
  repeat (first | refine byW ?_ | (refine byV ?_;intro w hw))
  refine W_loop (fun μ ρ w=>∃ (i:Nat) (rq:Option Addr) (rm rd:Nat),μ+i=m5'∧Has ρ [(10,.slice al n cl),(11,.slice b5' m5' d5'),(13,.pointer (some ⟨b13,0,none⟩)),(18,.slice rq rm rd),(19,.int .i64 i)]∧Wd Γ13 (.own (.slice rq rm rd) 107 2 ((rsL ys cs x i).map prI)::.blk b3 (hwC H a1 n1 c1 a2 n2 c2 a3 n3 c3 a4 n4 c4 a5 n5 c5)::S) w) m5' ⟨0,none,0,0,by omega,⟨rfl,rfl,rfl,rfl,rfl,trivial⟩,hw⟩ ?_
  clear hw
  rintro μ ρ w ⟨i,rq,rm,rd,hμ,hρ,hw⟩
  rw [hρ.eq]
  clear hρ
  repeat (first | refine byW ?_ | (refine byV ?_;intro w hw))
  refine W_cond rfl (fun h=>?_) (fun h=>?_)
  · have hin:i < m5':=by have:=of_decide_eq_true h;omega
    clear h
    obtain ⟨dv,hdv⟩:=get_lt (l:=ys) (k:=i) (by omega)
    obtain ⟨xv,hxv⟩:=get_lt (l:=x) (k:=i) (by omega)
    have hxr:=hbest.full.rng xv (List.mem_of_getElem? hxv)
    obtain ⟨k,rfl⟩:∃ k:Nat,xv=k:=⟨xv.toNat,by omega⟩
    obtain ⟨c,hc⟩:=get_lt (l:=cs) (k:=k) (by omega)
    obtain ⟨hLk, -, -, -⟩:=hidf k c hc
    have hsn:(rsL ys cs x i).map prI++[prI (dv.IRQ,c.ID)]=(rsL ys cs x (i+1)).map prI:=by
      unfold rsL
      rw [take_succ_of (zip_get hdv hxv),List.map_append,List.map_append]
      show _=_++[prI (dv.IRQ,(cs.getD k default).ID)]
      rw [List.getD_eq_getElem?_getD,hc];rfl
    have hlen:((rsL ys cs x i).map prI).length≤1000:=by unfold rsL;simp;omega
    have hxg:(intRows x)[i]? = some [.int .i64 k]:=intsI_get hxv
    repeat (first | refine byW ?_ | (refine byV ?_;intro w hw))
    refine W_mixQ [] (.own (.slice rq rm rd) 107 2 ((rsL ys cs x i).map prI)::.blk b3 (hwC H a1 n1 c1 a2 n2 c2 a3 n3 c3 a4 n4 c4 a5 n5 c5)::S) [132,133] 18 (.slice rq rm rd) [[],[],[],[],[],[],[],[],[],[],[],[],[],[],[],[],[],[0],[0],[0,1]] [[1],[],[],[],[],[],[],[],[],[],[],[],[],[],[],[],[],[0],[0],[0,1]] hw ?_
    refine mMoveR (dd:=18) ?_
    repeat (first | refine mY ?_ | refine mP ?_ | refine mPg ?_)
    refine mY (v:=.slice ab m5' cb) ?_ (hy:=fun Y w g hw=>y_l1m (hB:=hB13) hw rfl rfl)
    repeat (first | refine mY ?_ | refine mP ?_ | refine mPg ?_)
    refine mY (v:=.agg (prI (dv.IRQ,c.ID)).toArray) ?_ (hy:=fun Y w g hw=>y_build rfl)
    refine mStepY (φ:=fun (_:Unit) _=>True) (R:=fun _=>.own (.slice rq rm rd) 107 2 ((rsL ys cs x i).map prI)::.blk b3 (hwC H a1 n1 c1 a2 n2 c2 a3 n3 c3 a4 n4 c4 a5 n5 c5)::S) (v:=undef) (T':=Value) (fun t g=>g 132=t) (fun t=>.own t 107 2 [prI (dv.IRQ,c.ID)]::.own (.slice rq rm rd) 107 2 ((rsL ys cs x i).map prI)::.blk b3 (hwC H a1 n1 c1 a2 n2 c2 a3 n3 c3 a4 n4 c4 a5 n5 c5)::S) (fun t g w Y ht hw=>s_buildSlice (rws:=[prI (dv.IRQ,c.ID)]) (cells:=prI (dv.IRQ,c.ID)) hw rfl rfl rfl (by intro r hr;rw [List.mem_singleton.1 hr];rfl) (by decide) fun q w' hw'=>⟨_,rfl,(fun h=>by cases h),hw'⟩) ?_
    refine mStepY (φ:=fun (t:Value) g=>g 132=t) (R:=(fun t=>.own t 107 2 [prI (dv.IRQ,c.ID)]::.own (.slice rq rm rd) 107 2 ((rsL ys cs x i).map prI)::.blk b3 (hwC H a1 n1 c1 a2 n2 c2 a3 n3 c3 a4 n4 c4 a5 n5 c5)::S)) (v:=undef) (T':=Value) (fun t g=>g 133=t) (fun t=>.own t 107 2 ((rsL ys cs x i).map prI++[prI (dv.IRQ,c.ID)])::.blk b3 (hwC H a1 n1 c1 a2 n2 c2 a3 n3 c3 a4 n4 c4 a5 n5 c5)::S) (fun t g w Y ht hw=>?_) ?_
    · obtain ⟨d1,e1,z1,rfl,hn1, -, -⟩:=hw.own_shape (i:=0) rfl
      obtain ⟨d2,e2,z2,hq2,hn2, -, -⟩:=hw.own_shape (i:=1) rfl
      cases hq2
      exact s_append (i:=1) (rows2:=[prI (dv.IRQ,c.ID)]) hw rfl ht rfl (Wd.own_rd (i:=0) hw rfl) hn1 (List.all_eq_true.1 rfl) (by simp at hn1 hn2 hlen;omega) (by simp at hn1 hn2 hlen;omega) fun v' w' hw'=>⟨v',rfl,(fun h=>by cases h),hw'.drop⟩
    refine mAssY (φ:=fun (t:Value) g=>g 133=t) (dx:=133) (dd:=18) (fun t g=>g 18=t) (fun t g ht=>ht) ?_
    refine mEndQ (φ:=fun (t:Value) g=>g 18=t) fun t w g ht hw=>?_
    rw [hsn] at hw
    obtain ⟨q',m',d',rfl,hm', -, -⟩:=hw.own_shape (i:=0) rfl
    have hw:Wd Γ13 (.own (.slice q' m' d') 107 2 ((rsL ys cs x (i+1)).map prI)::.blk b3 (hwC H a1 n1 c1 a2 n2 c2 a3 n3 c3 a4 n4 c4 a5 n5 c5)::S) w:=by
      rw [List.append_nil] at hw;exact hw
    refine W_has (l:=[(10,.slice al n cl),(11,.slice b5' m5' d5'),(13,.pointer (some ⟨b13,0,none⟩)),(18,.slice q' m' d'),(19,.int .i64 i)]) ⟨rfl,rfl,rfl,ht,rfl,trivial⟩ fun ρ hρ=>?_
    rw [hρ.eq]
    repeat (first | refine byW ?_ | (refine byV ?_;intro w hw))
    exact ⟨m5' - i - 1,by omega,i+1,q',m',d',by omega,⟨rfl,rfl,rfl,rfl,rfl,trivial⟩,hw⟩
  have hin:i=m5':=by have:=of_decide_eq_false h;omega
  clear h
  rw [hin] at hw
  repeat (first | refine byW ?_ | (refine byV ?_;intro w hw))
  refine W_quiet (by kernel_rfl) (by kernel_rfl) hw ?_
  repeat (first | refine Q_nil ?_ | (apply Q_plain;first | (apply Q_go;first | refine qP ?_ | refine qPg ?_) | refine qY ?_) | (apply Q_guarded;first | (apply Q_go;first | refine qPG ?_ | refine qPgG ?_) | refine qG ?_))
  refine qY (v:=.int .i64 (costA (aF (costsA H cs ys)) x)) ?_ (hy:=fun w hw=>y_l1m (hB:=hB13) hw rfl rfl)
  repeat (first | refine Q_nil ?_ | (apply Q_plain;first | (apply Q_go;first | refine qP ?_ | refine qPg ?_) | refine qY ?_) | (apply Q_guarded;first | (apply Q_go;first | refine qPG ?_ | refine qPgG ?_) | refine qG ?_))
  intro w hw
  repeat (first | refine byW ?_ | (refine byV ?_;intro w hw))
  have hfull:(ys.zip x).take m5'=ys.zip x:=List.take_of_length_le (by rw [List.length_zip];omega)
  have hpost:IntPost H L cap ((ys.zip x).map fun p=>(p.1.IRQ,(cs.getD p.2.toNat default).ID)) (costA (aF (costsA H cs ys)) x) 0:=by
    unfold IntPost
    rw [if_neg hcode2,if_neg hper,← hcsE,hcl,hnnv,← hn5,if_neg hfit,← hnnv]
    exact ⟨ys,x,hyp,hys,by omega,hbest,rfl,rfl,rfl⟩
  unfold rsL at hw
  rw [hfull] at hw
  exact ⟨_,rfl,Γ13,_,_,_,0,hle,rfl,hpost,hw.dropAt 1⟩
end Go.Proofs.YthgighljhoneeaaGreatDoor
end
section
open Go Mk
namespace Go.Proofs.YthgighljhoneeaaGreatDoor
set_option maxHeartbeats 16000000
attribute [local irreducible] Calls
theorem intPost_uniq {H:HwT} {L:List Int} {per tot tot' code code':Int} {rs rs':List (Int × Int)} (h:IntPost H L per rs tot code) (h':IntPost H L per rs' tot' code'):rs'=rs∧tot'=tot∧code'=code:=by
 unfold IntPost at h h'
 by_cases h1:(liveS H L).2≠0
 ·rw [if_pos h1] at h h'
  obtain ⟨rfl,rfl,rfl⟩:=h
  exact h'
 ·rw [if_neg h1] at h h'
  have hv:=(liveS_zero (Decidable.of_not_not h1)).1
  by_cases h2:per < 1∨256 < per
  ·rw [if_pos h2] at h h'
   obtain ⟨rfl,rfl,rfl⟩:=h
   exact h'
  ·rw [if_neg h2] at h h'
   by_cases h3:per * (liveS H L).1.length < H.Devs.length
   ·rw [if_pos h3] at h h'
    obtain ⟨rfl,rfl,rfl⟩:=h
    exact h'
   ·rw [if_neg h3] at h h'
    obtain ⟨ys,x,p1,p2,p3,p4,rfl,rfl,rfl⟩:=h
    obtain ⟨ys',x',q1,q2,q3,q4,rfl,rfl,rfl⟩:=h'
    obtain rfl:ys'=ys:=by rw [← devs_norm hv q1 q2,devs_norm hv p1 p2]
    obtain rfl:x'=x:=p4.uniq q4 (by omega)
    exact ⟨rfl,rfl,rfl⟩
instance gotRt:GoT (Int × Int) where
 enc:=prI
 inj a b h:=by
  unfold prI at h
  obtain ⟨a1,a2⟩:=a
  obtain ⟨b1,b2⟩:=b
  simp at h;simp [h]
 ks:=[5,5]
 kinds a:=rfl
theorem sameRoutes_pg {Γ:Gho} {v v2:Value} {es:List (Int × Int)} (hr:RepS Γ v 2 (es.map prI)) (hr2:RepS Γ v2 2 (es.map prI)):PG Tryz.prog Γ 19 [v,v2] (.bool true):=⟨fun S w hw=>by
 obtain ⟨am,nm,cm,rfl,hnm,hnmc,hcm⟩:=hr.shape
 obtain ⟨ap,np,cp,rfl,hnp,hnpc,hcp⟩:=hr2.shape
 simp only [List.length_map] at hnm hnp
 have:np=nm:=by omega
 subst this
 refine calls_of_W Tryz.func19 rfl rfl ?_
 repeat (first | refine byW ?_ | (refine byV ?_;intro w hw))
 refine W_cond rfl (fun h=>?_) (fun h=>?_)
 ·exact absurd h (by simp)
 clear h
 repeat (first | refine byW ?_ | (refine byV ?_;intro w hw))
 refine W_loop (fun μ ρ w=>∃ (i:Nat),μ+i=np∧Has ρ [(0,.slice am np cm),(1,.slice ap np cp),(5,.int .i64 i)]∧Wd Γ S w) np ⟨0,by omega,⟨rfl,rfl,rfl,trivial⟩,hw⟩ ?_
 clear hw
 rintro μ ρ w ⟨i,hi,hρ,hw⟩
 rw [hρ.eq]
 clear hρ
 repeat (first | refine byW ?_ | (refine byV ?_;intro w hw))
 refine W_cond rfl (fun h=>?_) (fun h=>?_)
 ·have hin:i < np:=by have:=of_decide_eq_true h;omega
  clear h
  obtain ⟨e,he⟩:=get_lt (l:=es) (k:=i) (by omega)
  repeat (first | refine byW ?_ | (refine byV ?_;intro w hw))
  refine W_quiet (by kernel_rfl) (by kernel_rfl) hw ?_
  repeat (first | refine Q_nil ?_ | (apply Q_plain;first | (apply Q_go;first | refine qP ?_ | refine qPg ?_) | refine qY ?_) | (apply Q_guarded;first | (apply Q_go;first | refine qPG ?_ | refine qPgG ?_) | refine qG ?_))
  refine qY (v:=.bool (decide (e≠e))) ?_ (hy:=fun w hw=>y_neqT (a:=e) (b:=e) rfl rfl rfl)
  repeat (first | refine Q_nil ?_ | (apply Q_plain;first | (apply Q_go;first | refine qP ?_ | refine qPg ?_) | refine qY ?_) | (apply Q_guarded;first | (apply Q_go;first | refine qPG ?_ | refine qPgG ?_) | refine qG ?_))
  intro w hw
  refine W_cond rfl (fun h=>?_) (fun h=>?_)
  ·exact absurd h (by simp)
  clear h
  repeat (first | refine byW ?_ | (refine byV ?_;intro w hw))
  exact ⟨μ - 1,by omega,i+1,by omega,⟨rfl,rfl,rfl,trivial⟩,hw⟩
 ·repeat (first | refine byW ?_ | (refine byV ?_;intro w hw))
  exact ⟨_,rfl,rfl,hw⟩⟩
def strR (s:ByteArray):List Value:=[.string s]
theorem sameNames_pg {Γ:Gho} {v v2:Value} {es:List ByteArray} (hr:RepS Γ v 1 (es.map strR)) (hr2:RepS Γ v2 1 (es.map strR)):PG Tryz.prog Γ 14 [v,v2] (.bool true):=⟨fun S w hw=>by
 obtain ⟨am,nm,cm,rfl,hnm,hnmc,hcm⟩:=hr.shape
 obtain ⟨ap,np,cp,rfl,hnp,hnpc,hcp⟩:=hr2.shape
 simp only [List.length_map] at hnm hnp
 have:np=nm:=by omega
 subst this
 refine calls_of_W Tryz.func14 rfl rfl ?_
 repeat (first | refine byW ?_ | (refine byV ?_;intro w hw))
 refine W_cond rfl (fun h=>?_) (fun h=>?_)
 ·exact absurd h (by simp)
 clear h
 repeat (first | refine byW ?_ | (refine byV ?_;intro w hw))
 refine W_loop (fun μ ρ w=>∃ (i:Nat),μ+i=np∧Has ρ [(0,.slice am np cm),(1,.slice ap np cp),(5,.int .i64 i)]∧Wd Γ S w) np ⟨0,by omega,⟨rfl,rfl,rfl,trivial⟩,hw⟩ ?_
 clear hw
 rintro μ ρ w ⟨i,hi,hρ,hw⟩
 rw [hρ.eq]
 clear hρ
 repeat (first | refine byW ?_ | (refine byV ?_;intro w hw))
 refine W_cond rfl (fun h=>?_) (fun h=>?_)
 ·have hin:i < np:=by have:=of_decide_eq_true h;omega
  clear h
  obtain ⟨e,he⟩:=get_lt (l:=es) (k:=i) (by omega)
  repeat (first | refine byW ?_ | (refine byV ?_;intro w hw))
  refine W_quiet (by kernel_rfl) (by kernel_rfl) hw ?_
  repeat (first | refine Q_nil ?_ | (apply Q_plain;first | (apply Q_go;first | refine qP ?_ | refine qPg ?_) | refine qY ?_) | (apply Q_guarded;first | (apply Q_go;first | refine qPG ?_ | refine qPgG ?_) | refine qG ?_))
  intro w hw
  refine W_cond rfl (fun h=>?_) (fun h=>?_)
  ·exact absurd h (by simp)
  clear h
  repeat (first | refine byW ?_ | (refine byV ?_;intro w hw))
  exact ⟨μ - 1,by omega,i+1,by omega,⟨rfl,rfl,rfl,trivial⟩,hw⟩
 ·repeat (first | refine byW ?_ | (refine byV ?_;intro w hw))
  exact ⟨_,rfl,rfl,hw⟩⟩
end Go.Proofs.YthgighljhoneeaaGreatDoor
end
section
open Go Mk
namespace Go.Proofs.YthgighljhoneeaaGreatDoor
set_option maxHeartbeats 16000000
attribute [local irreducible] Calls
attribute [local irreducible] matL
theorem mem_reach {H:HwT} (hv:validS H=0) {m:MemT} (hm:m∈H.Mems):Reach H.Links ((usedN H).headD 0) m.Node:=
 used_reach hv (by unfold usedN;exact List.mem_append_left _ (List.mem_append_right _ (List.mem_map.2 ⟨m,hm,rfl⟩)))
theorem mem_cost {H:HwT} (hv:validS H=0) {m:MemT} (hm:m∈H.Mems) {c:CoreT} (hc:c∈H.Cores):0≤dstF H c.Node m.Node∧dstF H c.Node m.Node≤63000000∧dstM H c.Node m.Node=dstF H c.Node m.Node:=by
 have hL:=valid_links hv
 have h1:=dstI_reach hL (core_node hv hc) (core_reach hv hc) (mem_reach hv hm)
 have h2:=(dst_le (x:=m.Node) hL (core_node hv hc)).2
 have h3:dstF H c.Node m.Node=dstI (nbrL H.Links) c.Node m.Node:=by
  show (if dstI (nbrL H.Links) c.Node m.Node < 0 then farV else dstI (nbrL H.Links) c.Node m.Node)=_
  rw [if_neg (by omega)]
 rw [h3]
 exact ⟨h1,h2,rfl⟩
theorem rcost_pg {Γ:Gho} {u:Value} {H:HwT} [hh:HwR Γ u H] (hv:validS H=0) {id:Int} {c:CoreT} (hid:findC H.Cores id=(c,true)) {m:MemT} (hm:m∈H.Mems) :
  PG Tryz.prog Γ 32 [u,.agg (matL (dstM H)).toArray,.int .i64 id,.agg (enc m).toArray] (.int .i64 (costM (dstF H) c m)):=⟨fun S w hw=>by
 have hhw:=hh
 obtain ⟨a1,n1,c1,a2,n2,c2,a3,n3,c3,a4,n4,c4,a5,n5,c5,cs',rfl,hcs,hok,hsz,r1,r2,r3,r4,r5⟩:=hh.h
 have hcm:c∈H.Cores:=by have:=(findC_in (l:=H.Cores) (id:=id) (by rw [hid])).1;rw [hid] at this;exact this
 have hn1:=core_node hv hcm
 obtain ⟨hn2,hl1,hl2⟩:=mem_rng hv hm
 obtain ⟨h1,h2,h3⟩:=mem_cost hv hm hcm
 haveI pn:PG Tryz.prog Γ 54 [.agg #[.string H.Name,.slice a1 n1 c1,.slice a2 n2 c2,.slice a3 n3 c3,.slice a4 n4 c4,.slice a5 n5 c5],.int .i64 id] (.int .i64 c.Node):=by
  have:=pg_NodeOf (hh:=hhw) (x:=id) (by rw [hid])
  unfold coreN at this
  rwa [hid] at this
 have hnn1:0≤c.Node∧c.Node < 64:=hn1
 have hnn2:0≤m.Node∧m.Node < 64:=hn2
 have hgm:(matL (dstM H)).toArray[0+c.Node.toNat * 64+m.Node.toNat * 1]? = some (.int .i64 (dstF H c.Node m.Node)):=by rw [← h3];exact getM _ hn1 hn2
 refine calls_of_W Tryz.func32 rfl rfl ?_
 repeat (first | refine byW ?_ | (refine byV ?_;intro w hw))
 refine lBox ?_
 intro b4 w hw
 refine lBox ?_
 intro b5 w hw
 have hw:Wd Γ (.blk b5 (.cells (matL (dstM H)).toArray 80)::.blk b4 (hwC H a1 n1 c1 a2 n2 c2 a3 n3 c3 a4 n4 c4 a5 n5 c5)::S) w:=by simpa [Value.cells] using hw
 refine lBox ?_
 intro b7 w hw
 have hw:Wd Γ (.blk b7 (.cells (enc m).toArray 61)::.blk b5 (.cells (matL (dstM H)).toArray 80)::.blk b4 (hwC H a1 n1 c1 a2 n2 c2 a3 n3 c3 a4 n4 c4 a5 n5 c5)::S) w:=hw
 repeat (first | refine byW ?_ | (refine byV ?_;intro w hw))
 refine W_quiet (by kernel_rfl) (by kernel_rfl) hw ?_
 repeat (first | refine Q_nil ?_ | (apply Q_plain;first | (apply Q_go;first | refine qP ?_ | refine qPg ?_) | refine qY ?_) | (apply Q_guarded;first | (apply Q_go;first | refine qPG ?_ | refine qPgG ?_) | refine qG ?_))
 refine qY (v:=.int .i64 (dstF H c.Node m.Node)) ?_ (hy:=fun w hw=>y_l1b (i:=1) hw rfl rfl hgm)
 repeat (first | refine Q_nil ?_ | (apply Q_plain;first | (apply Q_go;first | refine qP ?_ | refine qPg ?_) | refine qY ?_) | (apply Q_guarded;first | (apply Q_go;first | refine qPG ?_ | refine qPgG ?_) | refine qG ?_))
 intro w hw
 repeat (first | refine byW ?_ | (refine byV ?_;intro w hw))
 exact ⟨_,rfl,rfl,hw.ds [0,0,0]⟩⟩
end Go.Proofs.YthgighljhoneeaaGreatDoor
end
section
open Go Mk
namespace Go.Proofs.YthgighljhoneeaaGreatDoor
theorem mems_sep {H:HwT} (hv:validS H=0):H.Mems.Pairwise fun a b=>(∃ e,MemP a e)→(∃ e,MemP b e)→a.Base+a.Size≤b.Base∨b.Base+b.Size≤a.Base:=by
 obtain ⟨-, -, -, -, -, -, -,h8, -⟩:=valid_all hv
 have h:=(disj_pw (H:=H)).1 (@of_decide_eq_true _ (Classical.propDecidable _) h8)
 unfold regs at h
 have h1:=(List.pairwise_append.1 h).1
 rw [List.pairwise_map] at h1
 refine h1.imp fun {a b} hab ⟨ea,ha⟩ ⟨eb,hb⟩=>?_
 unfold apartB memBlk at hab
 have w1:∀ {c:MemT} {ec:Nat},MemP c ec→IntKind.u64.wrap (c.Base+c.Size)=c.Base+c.Size:=fun {c ec} hc=>by
  have:=hc.base;have:=hc.fin;have:=hc.size
  have:0≤c.Size:=by rw [this];exact Int.natCast_nonneg _
  exact wrapU (by omega) (by omega)
 rw [w1 ha,w1 hb] at hab
 simp only [Bool.not_eq_true',Bool.and_eq_false_iff,decide_eq_false_iff_not] at hab
 omega
theorem mem_names {H:HwT} (hv:validS H=0):(H.Mems.map (·.Name)).Nodup:=by
 obtain ⟨-, -, -, -,h5, -⟩:=valid_all hv
 unfold uniqueB at h5
 simp only [Bool.and_eq_true,decide_eq_true_eq] at h5
 exact h5.2.1.1.1.2
section
variable {D:Mx} {cs:List CoreT} {H:HwT} {m:MemT}
end
end Go.Proofs.YthgighljhoneeaaGreatDoor
end
section
open Go Mk
namespace Go.Proofs.YthgighljhoneeaaGreatDoor
set_option maxHeartbeats 64000000
attribute [local irreducible] Calls
attribute [local irreducible] matL
def keyN (l:List (ByteArray × Int)) (s:ByteArray):Int:=(aGet l s).getD 0
def ordN (l:List (ByteArray × Int)) (x y:MemT):Int:=orI (cI (keyN l x.Name) (keyN l y.Name)) (cI x.Base y.Base)
theorem orL_two (a b:Int):orL [a,b]=orI a b:=by
 show orI a (orI b 0)=orI a b
 rw [orI_r]
theorem cloneM_any {Γ : Gho} {S : List Res} {w : World} {v : Value} {xs : List MemT} (hr : RepS Γ v 5 (xs.map enc)) (hN : xs.length ≤ 1000000) (hw : Wd Γ S w) :
    Calls Tryz.prog 34 #[v] w fun e w'=>∃ v',e=.returned v'∧Wd Γ (.own v' 61 5 (xs.map enc)::S) w':=by
  obtain ⟨a,n,c,rfl,hn,hnc,hc⟩:=hr.shape
  have hn:n=xs.length:=by simpa using hn
  refine calls_of_W Tryz.func34 rfl rfl ?_
  repeat (first | refine byW ?_ | (refine byV ?_;intro w hw))
  refine W_cond rfl (fun h=>?_) (fun h=>?_)
  · repeat (first | refine byW ?_ | (refine byV ?_;intro w hw))
    have hx:xs=[]:=by
      cases a with
      | none=>
        cases xs with
        | nil=>rfl
        | cons x xs=>have:=(hr.rd hw).at_ (by simp);cases this
      | some a=>cases h
    subst hx
    exact ⟨_,rfl,_,rfl,Wd.addNil hw⟩
  · repeat (first | refine byW ?_ | (refine byV ?_;intro w hw))
    refine lBuildSlice [] ?_
    intro a2 w hw
    repeat (first | refine byW ?_ | (refine byV ?_;intro w hw))
    refine lApp (i:=0) (rows2:=xs.map enc) ?_ (hr.rd hw) rfl rfl hw rfl (encs_one _) (by simpa using hn)
    intro v' w hw
    repeat (first | refine byW ?_ | (refine byV ?_;intro w hw))
    exact ⟨_,rfl,v',rfl,by simpa using hw⟩
theorem near1_any {Γ:Gho} {S:List Res} {w0:World} {i j b10 bm:Nat} {l:List (ByteArray × Int)} (hw0:Wd Γ S w0) (hj:S[j]? = some (.blk b10 (.cells #[.map (some bm)] 83))) (hi:S[i]? = some (Res.ms (fun n:Int=>Value.int .i64 n) bm l)) (x y:MemT) :
  Calls Tryz.prog 36 #[.agg (enc x).toArray,.agg (enc y).toArray,.pointer (some ⟨b10,0,none⟩)] w0 fun e w'=>e=.returned (.int .i64 (ordN l x y))∧∃ S'',Wd (allG w0) S'' w':=by
 haveI hB10:ImB (allG w0) b10 #[.map (some bm)] 83:=⟨hw0.at_blk hj⟩
 have hw:Wd (allG w0) [] w0:=allG_wd w0
 have hlk:∀ (S1:List Res) (w1:World),Wd (allG w0) S1 w1→Wd (soloG w1) [Res.ms (fun n:Int=>Value.int .i64 n) bm l] w1:=fun S1 w1 h1=>by
  obtain ⟨es,clock,e1, -⟩:=hw0.at_mp hi
  exact wd_solo hw0 hi ((h1.imm bm _ (show (allG w0).imm bm=_ from e1)).trans e1.symm)
 rw [show ordN l x y=orL [cI (keyN l x.Name) (keyN l y.Name),cI x.Base y.Base] from (orL_two _ _).symm]
 refine calls_of_W Tryz.func36 rfl rfl ?_
 repeat (first | refine byW ?_ | (refine byV ?_;intro w hw))
 refine lBox ?_
 intro b3 w hw
 refine lBox ?_
 intro b4 w hw
 have hw:Wd (allG w0) ([.blk b4 (.cells (enc y).toArray 61),.blk b3 (.cells (enc x).toArray 61)]++[]) w:=hw
 repeat (first | refine byW ?_ | (refine byV ?_;intro w hw))
 refine W_mixed [.blk b4 (.cells (enc y).toArray 61),.blk b3 (.cells (enc x).toArray 61)] [fun _=>[]] [[],[],[],[],[],[],[],[],[],[],[],[],[],[],[0],[],[]] [[],[],[],[],[],[],[],[],[],[],[],[],[],[],[0],[0],[]] [[20]] (by simpa [List.range,List.range.loop,ML] using hw) ?_
 refine mY (v:=.map (some bm)) ?_ (hy:=fun Y w g hw=>y_l1m (hB:=hB10) hw rfl rfl)
 repeat (first | refine mY ?_ | refine mP ?_ | refine mPg ?_)
 refine mY (v:=.int .i64 (keyN l x.Name)) ?_ (hy:=fun Y w g hw=>y_lookupS1 (i:=0) (hlk _ _ hw) rfl rfl rfl rfl)
 repeat (first | refine mY ?_ | refine mP ?_ | refine mPg ?_)
 refine mY (v:=.map (some bm)) ?_ (hy:=fun Y w g hw=>y_l1m (hB:=hB10) hw rfl rfl)
 repeat (first | refine mY ?_ | refine mP ?_ | refine mPg ?_)
 refine mY (v:=.int .i64 (keyN l y.Name)) ?_ (hy:=fun Y w g hw=>y_lookupS1 (i:=0) (hlk _ _ hw) rfl rfl rfl rfl)
 repeat (first | refine mY ?_ | refine mP ?_ | refine mPg ?_)
 refine mBuild (c:=0) (cells:=[.int .i64 (cI (keyN l x.Name) (keyN l y.Name)),.int .i64 (cI x.Base y.Base)]) [[.int .i64 (cI (keyN l x.Name) (keyN l y.Name))],[.int .i64 (cI x.Base y.Base)]] ?_
 refine mC (v:=.int .i64 (orL [cI (keyN l x.Name) (keyN l y.Name),cI x.Base y.Base])) (fun Y w g hw=>?_) rfl rfl rfl ?_
 ·have hw1:Wd (allG w0) (.blk b4 (.cells (enc y).toArray 61)::.blk b3 (.cells (enc x).toArray 61)::.own (g 20) 3 1 [[.int .i64 (cI (keyN l x.Name) (keyN l y.Name))],[.int .i64 (cI x.Base y.Base)]]::Y) w:=hw
  obtain ⟨qa,qn,qc,hq,hqn,hqc,hqm⟩:=hw1.own_shape (i:=2) rfl
  refine s_call (vs:=#[.slice qa qn qc]) ?_ ((Or_any [cI (keyN l x.Name) (keyN l y.Name),cI x.Base y.Base] hw1 (by rw [← hq];exact RdS.own (i:=2) hw1 rfl)).mono fun e w' hq2=>?_)
  ·exact EvL.eqA (xs:=[.tmp 20]) (vs:=[.slice qa qn qc]) (EvL.cons (by exact hq) EvL.nil)
  ·obtain ⟨rfl,hw2⟩:=hq2
   exact ⟨_,rfl,rfl,hw2⟩
 repeat (first | refine mY ?_ | refine mP ?_ | refine mPg ?_)
 refine mEnd fun w g hw=>?_
 repeat (first | refine byW ?_ | (refine byV ?_;intro w hw))
 exact ⟨_,rfl,rfl,_,hw⟩
def MapC (D:Mx) (c:CoreT) (xs:List MemT) (k:Nat) (l:List (ByteArray × Int)):Prop:=∀ (j:Nat) (x:MemT),j < k→xs[j]? = some x→aGet l x.Name=some (costM D c x)
theorem mapC_step {D:Mx} {c:CoreT} {xs:List MemT} {k:Nat} {l:List (ByteArray × Int)} {m:MemT} (h:MapC D c xs k l) (hn:(xs.map (·.Name)).Nodup) (hm:xs[k]? = some m):MapC D c xs (k+1) (aSet l m.Name (costM D c m)):=fun j x hj hx=>by
 rw [aGet_aSet]
 by_cases e:j=k
 ·subst e;rw [hm] at hx;cases hx;rw [if_pos rfl]
 ·rw [if_neg (fun e2=>e ?_)]
  ·exact h j x (by omega) hx
  ·have h1:(xs.map (·.Name))[k]? = some m.Name:=by rw [List.getElem?_map,hm];rfl
   have h2:(xs.map (·.Name))[j]? = some x.Name:=by rw [List.getElem?_map,hx];rfl
   exact (List.getElem?_inj (List.getElem?_eq_some_iff.1 h2).1 hn).1 (by rw [h1,h2,e2])
def NearPost (H:HwT) (id:Int) (ns:List ByteArray) (code:Int):Prop:=
 if validS H≠0 then ns=[]∧code=validS H else if (findC H.Cores id).2=false then ns=[]∧code=57
 else ∃ ys:List MemT,ys.Perm H.Mems∧(ys.Pairwise fun a b=>costM (dstF H) (findC H.Cores id).1 a < costM (dstF H) (findC H.Cores id).1 b∨(costM (dstF H) (findC H.Cores id).1 a=costM (dstF H) (findC H.Cores id).1 b∧a.Base < b.Base))∧ns=ys.map (·.Name)∧code=0
theorem base_inj {H:HwT} (hv:validS H=0) {x y:MemT} (hx:x∈H.Mems) (hy:y∈H.Mems) (h3:x.Base=y.Base):x=y:=by
 have v:=valid_iff.1 hv
 have hpw:=(List.pairwise_append.1 (disj_pw.1 (decP_iff.1 v.d))).1
 rw [List.pairwise_map] at hpw
 have hpw:H.Mems.Pairwise fun a b=>apartB (memBlk b) (memBlk a)=true:=hpw
 by_cases hne:x=y
 ·exact hne
 ·exfalso
  have h4:=pw_mem (fun a b h=>apart_symm _ _ h) hpw x hx y hy hne
  have hr:=v.g
  unfold regionsRB at hr
  simp only [Bool.and_eq_true,List.all_eq_true] at hr
  have hb:∀ z∈H.Mems,z.Base < IntKind.u64.wrap (z.Base+z.Size):=fun z hz=>by
   have q:=hr.1 z hz
   unfold memRB inSpaceB at q
   simp only [Bool.and_eq_true,decide_eq_true_eq] at q
   obtain ⟨-,⟨q1,q2⟩,q3⟩:=q
   simp [IntKind.wrap,IntKind.bits,IntKind.signed] at q3 ⊢
   omega
  have b1:=hb x hx
  have b2:=hb y hy
  unfold apartB memBlk at h4
  simp at h4
  omega
theorem near_sorted {H:HwT} (hv:validS H=0) {D:Mx} {c:CoreT} {l:List (ByteArray × Int)} {ys:List MemT} (hyp:ys.Perm H.Mems) (hkey:∀ x∈H.Mems,keyN l x.Name=costM D c x) (hys:ys.Pairwise fun a b=>Go.Proofs.ltOf (ordN l) b a=false) :
  ys.Pairwise fun a b=>costM D c a < costM D c b∨(costM D c a=costM D c b∧a.Base < b.Base):=by
 have hnd:ys.Nodup:=by
  have h1:(ys.map (·.Name)).Nodup:=(hyp.map _).nodup_iff.2 (mem_names hv)
  exact List.Pairwise.of_map (·.Name) (fun a b h e=>h (by rw [e])) h1
 refine (hys.and hnd).imp_of_mem fun {a b} ha hb h=>?_
 obtain ⟨h1,h2⟩:=h
 have ha:=hyp.mem_iff.1 ha
 have hb:=hyp.mem_iff.1 hb
 unfold Go.Proofs.ltOf ordN at h1
 rw [hkey a ha,hkey b hb] at h1
 have h1:=of_decide_eq_false h1
 have h3:a.Base≠b.Base:=fun e=>h2 (base_inj hv ha hb e)
 unfold orI cI at h1
 by_cases e1:costM D c b < costM D c a
 ·simp [e1] at h1
 ·by_cases e2:costM D c a < costM D c b
  ·exact .inl e2
  ·by_cases e3:b.Base < a.Base
   ·simp [e1,e2,e3] at h1
   ·exact .inr ⟨by omega,by omega⟩
set_option maxRecDepth 8000 in
theorem nearestW {Γ:Gho} {u:Value} {H:HwT} [hh:HwR Γ u H] (id:Int) (hL:H.Mems.length≤1000) {S:List Res} {w:World} (hw:Wd Γ S w) :
  Calls Tryz.prog 10 #[u,.int .i64 id] w fun e w'=>∃ (Γ':Gho) (v':Value) (ns:List ByteArray) (code:Int),Γ.le Γ'∧e=.returned (.tuple #[v',.int .i64 code])∧NearPost H id ns code∧Wd Γ' (.own v' 9 1 (ns.map strR)::S) w':=by
 have hhw:=hh
 obtain ⟨a1,n1,c1,a2,n2,c2,a3,n3,c3,a4,n4,c4,a5,n5,c5,cs',rfl,hcs,hok,hsz,r1,r2,r3,r4,r5⟩:=hh.h
 obtain ⟨hn4,hm4,hx4⟩:=rep_facts r4
 simp only [List.length_map] at hn4
 refine calls_of_W Tryz.func10 rfl rfl ?_
 repeat (first | refine byW ?_ | (refine byV ?_;intro w hw))
 refine lBox ?_
 intro b2 w hw
 have hw:Wd Γ (.blk b2 (hwC H a1 n1 c1 a2 n2 c2 a3 n3 c3 a4 n4 c4 a5 n5 c5)::S) w:=hw
 repeat (first | refine byW ?_ | (refine byV ?_;intro w hw))
 refine W_cond rfl (fun h=>?_) (fun h=>?_)
 ·have h:validS H≠0:=of_decide_eq_true h
  repeat (first | refine byW ?_ | (refine byV ?_;intro w hw))
  exact ⟨_,rfl,Γ,_,[],validS H,Gho.le.refl _,rfl,by unfold NearPost;rw [if_pos h];exact ⟨rfl,rfl⟩,Wd.addNil hw.drop⟩
 have hv:validS H=0:=by
  by_cases e:validS H=0
  ·exact e
  ·exact absurd (decide_eq_true (show validS H≠0 from e)) (by simp [h])
 clear h
 have hv2:¬ validS H≠0:=fun e=>e hv
 repeat (first | refine byW ?_ | (refine byV ?_;intro w hw))
 refine lAlloc ?_
 intro b7 w hw
 refine lStore ?_
 intro w hw
 have hw:Wd Γ (.blk b7 (.cells (enc (findC H.Cores id).1).toArray 54)::.blk b2 (hwC H a1 n1 c1 a2 n2 c2 a3 n3 c3 a4 n4 c4 a5 n5 c5)::S) w:=hw
 repeat (first | refine byW ?_ | (refine byV ?_;intro w hw))
 refine W_cond rfl (fun h=>?_) (fun h=>?_)
 ·have h:(findC H.Cores id).2=false:=by simpa using h
  repeat (first | refine byW ?_ | (refine byV ?_;intro w hw))
  exact ⟨_,rfl,Γ,_,[],57,Gho.le.refl _,rfl,by unfold NearPost;rw [if_neg hv2,if_pos h];exact ⟨rfl,rfl⟩,Wd.addNil (hw.ds [0,0])⟩
 have hf:(findC H.Cores id).2=true:=by simpa using h
 clear h
 have hf2:¬ (findC H.Cores id).2=false:=fun e=>by rw [hf] at e;cases e
 obtain ⟨c,hcE⟩:∃ c,c=(findC H.Cores id).1:=⟨_,rfl⟩
 have hcm:c∈H.Cores:=by rw [hcE];exact (findC_in hf).1
 rw [← hcE] at hw
 have hnm:(H.Mems.map (·.Name)).Nodup:=mem_names hv
 repeat (first | refine byW ?_ | (refine byV ?_;intro w hw))
 refine lCall ((cloneM_any (xs:=H.Mems) r4 (by omega) hw).mono fun e w hq=>?_)
 clear hw
 obtain ⟨vl,rfl,hw⟩:=hq
 refine ⟨_,rfl,?_⟩
 obtain ⟨al,nl,cl,rfl,hnl, -, -⟩:=hw.own_shape (i:=0) rfl
 simp only [List.length_map] at hnl
 repeat (first | refine byW ?_ | (refine byV ?_;intro w hw))
 refine lMakeMapS (fun n:Int=>Value.int .i64 n) ?_
 intro bm w hw
 repeat (first | refine byW ?_ | (refine byV ?_;intro w hw))
 refine lAlloc ?_
 intro b10 w hw
 refine lStore ?_
 intro w hw
 have hw:Wd Γ (.blk b10 (.cells #[.map (some bm)] 83)::Res.ms (fun n:Int=>Value.int .i64 n) bm []::.own (.slice al nl cl) 61 5 (H.Mems.map enc)::.blk b7 (.cells (enc c).toArray 54)::.blk b2 (hwC H a1 n1 c1 a2 n2 c2 a3 n3 c3 a4 n4 c4 a5 n5 c5)::S) w:=hw
 repeat (first | refine byW ?_ | (refine byV ?_;intro w hw))
 refine lCall ((measure_any (hh:=hhw) hv hw).mono fun e w hq=>?_)
 clear hw
 obtain ⟨b11,rfl,hw⟩:=hq
 refine ⟨_,rfl,?_⟩
 obtain ⟨Γ1,hle1,hD,hw1⟩:=hw.freezeB
 clear hw
 have hw:=hw1
 clear hw1
 haveI hTab:Tab Γ1 b11 (dstF H):=⟨hD⟩
 repeat (first | refine byW ?_ | (refine byV ?_;intro w hw))
 refine W_loop (fun μ ρ w=>∃ (k:Nat) (l:List (ByteArray × Int)),μ+k=nl∧MapC (dstF H) c H.Mems k l∧Has ρ [(2,.pointer (some ⟨b2,0,none⟩)),(7,.pointer (some ⟨b7,0,none⟩)),(9,.slice al nl cl),(10,.pointer (some ⟨b10,0,none⟩)),(11,.pointer (some ⟨b11,0,none⟩)),(36,.slice al nl cl),(37,.int .i64 nl),(38,.int .i64 k)]∧Wd Γ1 (.blk b10 (.cells #[.map (some bm)] 83)::Res.ms (fun n:Int=>Value.int .i64 n) bm l::.own (.slice al nl cl) 61 5 (H.Mems.map enc)::.blk b7 (.cells (enc c).toArray 54)::.blk b2 (hwC H a1 n1 c1 a2 n2 c2 a3 n3 c3 a4 n4 c4 a5 n5 c5)::S) w) nl ⟨0,[],by omega,fun j x h=>by omega,⟨rfl,rfl,rfl,rfl,rfl,rfl,rfl,rfl,trivial⟩,hw⟩ ?_
 clear hw
 rintro μ ρ w ⟨k,l,hμ,hMC,hρ,hw⟩
 rw [hρ.eq]
 clear hρ
 repeat (first | refine byW ?_ | (refine byV ?_;intro w hw))
 refine W_cond rfl (fun h=>?_) (fun h=>?_)
 ·have hkn:k < nl:=by have:=of_decide_eq_true h;omega
  clear h
  obtain ⟨m,hm⟩:=get_lt (l:=H.Mems) (k:=k) (by omega)
  have hmm:=List.mem_of_getElem? hm
  haveI pmm:=pg_memory (hT:=hTab) (can_of hv hcm hmm)
  repeat (first | refine byW ?_ | (refine byV ?_;intro w hw))
  refine lAlloc ?_
  intro b13 w hw
  refine lStore ?_
  intro w hw
  have hw:Wd Γ1 ([.blk b13 (.cells (enc m).toArray 61),.blk b10 (.cells #[.map (some bm)] 83),.blk b7 (.cells (enc c).toArray 54)]++(Res.ms (fun n:Int=>Value.int .i64 n) bm l::.own (.slice al nl cl) 61 5 (H.Mems.map enc)::.blk b2 (hwC H a1 n1 c1 a2 n2 c2 a3 n3 c3 a4 n4 c4 a5 n5 c5)::S)) w:=Wd.ps (S:=.blk b13 (.cells (enc m).toArray 61)::.blk b10 (.cells #[.map (some bm)] 83)::Res.ms (fun n:Int=>Value.int .i64 n) bm l::.own (.slice al nl cl) 61 5 (H.Mems.map enc)::.blk b7 (.cells (enc c).toArray 54)::.blk b2 (hwC H a1 n1 c1 a2 n2 c2 a3 n3 c3 a4 n4 c4 a5 n5 c5)::S) [4,2,2] hw
  repeat (first | refine byW ?_ | (refine byV ?_;intro w hw))
  refine W_mix1 [.blk b13 (.cells (enc m).toArray 61),.blk b10 (.cells #[.map (some bm)] 83),.blk b7 (.cells (enc c).toArray 54)] (Res.ms (fun n:Int=>Value.int .i64 n) bm l::.own (.slice al nl cl) 61 5 (H.Mems.map enc)::.blk b2 (hwC H a1 n1 c1 a2 n2 c2 a3 n3 c3 a4 n4 c4 a5 n5 c5)::S) [[],[],[],[],[],[],[],[0]] [[],[],[],[],[],[],[],[0]] hw ?_
  repeat (first | refine mY ?_ | refine mP ?_ | refine mPg ?_)
  refine mPutS (j:=0) (v:=costM (dstF H) c m) ?_
  refine mEnd fun w g hw=>?_
  have hw:Wd Γ1 (([.blk b13 (.cells (enc m).toArray 61),.blk b10 (.cells #[.map (some bm)] 83),.blk b7 (.cells (enc c).toArray 54)]++(Res.ms (fun n:Int=>Value.int .i64 n) bm (aSet l m.Name (costM (dstF H) c m))::.own (.slice al nl cl) 61 5 (H.Mems.map enc)::.blk b2 (hwC H a1 n1 c1 a2 n2 c2 a3 n3 c3 a4 n4 c4 a5 n5 c5)::S))++[]) w:=hw
  rw [List.append_nil] at hw
  have hw:Wd Γ1 (.blk b10 (.cells #[.map (some bm)] 83)::Res.ms (fun n:Int=>Value.int .i64 n) bm (aSet l m.Name (costM (dstF H) c m))::.own (.slice al nl cl) 61 5 (H.Mems.map enc)::.blk b7 (.cells (enc c).toArray 54)::.blk b2 (hwC H a1 n1 c1 a2 n2 c2 a3 n3 c3 a4 n4 c4 a5 n5 c5)::S) w:=(Wd.drop hw).ps [3,3,2]
  repeat (first | refine byW ?_ | (refine byV ?_;intro w hw))
  exact ⟨nl - k - 1,by omega,k+1,_,by omega,mapC_step hMC hnm hm,⟨rfl,rfl,rfl,rfl,rfl,rfl,rfl,rfl,trivial⟩,hw⟩
 have hkn:k=nl:=by have:=of_decide_eq_false h;omega
 clear h
 have hkey:∀ x∈H.Mems,keyN l x.Name=costM (dstF H) c x:=fun x hx=>by
  obtain ⟨j,hj⟩:=List.mem_iff_getElem?.1 hx
  unfold keyN
  rw [hMC j x (by have:=(List.getElem?_eq_some_iff.1 hj).1;omega) hj];rfl
 repeat (first | refine byW ?_ | (refine byV ?_;intro w hw))
 refine lCall (vs:=[.slice al nl cl,.func (.func 36) #[] #[.pointer (some ⟨b10,0,none⟩)]]) ((SortFunc_K lay_mms (ordN l) 36 [.pointer (some ⟨b10,0,none⟩)] H.Mems _ hw (i:=2) rfl (fun _=>rfl) (fun x u hu=>List.all_eq_true.1 (enc_one x) u hu) (inferInstanceAs (TA Tryz.prog 61 5)) (swo_on (cI_ord.prod cI_ord) fun x:MemT=>(keyN l x.Name,x.Base)) (by omega) (fun dk w' hw' x y=>near1_any hw' (j:=0) (i:=1) rfl rfl x y)).mono fun e w hq=>?_)
 obtain ⟨rfl,ys,hyp,hys,hw2⟩:=hq
 refine ⟨_,rfl,?_⟩
 clear hw
 have hw:Wd Γ1 (.blk b10 (.cells #[.map (some bm)] 83)::Res.ms (fun n:Int=>Value.int .i64 n) bm l::.own (.slice al nl cl) 61 5 (ys.map enc)::.blk b7 (.cells (enc c).toArray 54)::.blk b2 (hwC H a1 n1 c1 a2 n2 c2 a3 n3 c3 a4 n4 c4 a5 n5 c5)::S) w:=hw2
 clear hw2
 have hyl:ys.length=nl:=by rw [hyp.length_eq];exact hnl.symm
 obtain ⟨Γ2,hle2,rY,hw1⟩:=(hw.ps [2]).freeze
 clear hw
 have hw:Wd Γ2 S w:=hw1.ds [0,0,0,0]
 clear hw1
 have hw:=Wd.addNil (a:=none) (E:=9) (sz:=1) hw
 repeat (first | refine byW ?_ | (refine byV ?_;intro w hw))
 refine W_loop (fun μ ρ w=>∃ (k:Nat) (rq:Option Addr) (rm rd:Nat),μ+k=nl∧Has ρ [(14,.slice rq rm rd),(53,.slice al nl cl),(54,.int .i64 nl),(55,.int .i64 k)]∧Wd Γ2 (.own (.slice rq rm rd) 9 1 (((ys.take k).map (·.Name)).map strR)::S) w) nl ⟨0,none,0,0,by omega,⟨rfl,rfl,rfl,rfl,trivial⟩,hw⟩ ?_
 clear hw
 rintro μ ρ w ⟨k,rq,rm,rd,hμ,hρ,hw⟩
 rw [hρ.eq]
 clear hρ
 repeat (first | refine byW ?_ | (refine byV ?_;intro w hw))
 refine W_cond rfl (fun h=>?_) (fun h=>?_)
 ·have hkn:k < nl:=by have:=of_decide_eq_true h;omega
  clear h
  obtain ⟨m,hm⟩:=get_lt (l:=ys) (k:=k) (by omega)
  have hrm:rm=k:=by
   obtain ⟨p1,p2,p3,hp,hp2, -, -⟩:=hw.own_shape (i:=0) rfl
   cases hp
   simp at hp2;omega
  repeat (first | refine byW ?_ | (refine byV ?_;intro w hw))
  refine lAlloc ?_
  intro b16 w hw
  refine lStore ?_
  intro w hw
  have hw:Wd Γ2 (.blk b16 (.cells (enc m).toArray 61)::.own (.slice rq rm rd) 9 1 (((ys.take k).map (·.Name)).map strR)::S) w:=hw
  repeat (first | refine byW ?_ | (refine byV ?_;intro w hw))
  refine lBuildSlice [strR m.Name] ?_
  intro a62 w hw
  repeat (first | refine byW ?_ | (refine byV ?_;intro w hw))
  refine lApp (i:=2) (rows2:=[strR m.Name]) ?_ (hw.own_rd (i:=0) rfl) rfl rfl hw rfl rfl rfl
  intro v1 w hw
  obtain ⟨rq',rm',rd',rfl, -, -, -⟩:=hw.own_shape (i:=2) rfl
  have hw:Wd Γ2 (.own (.slice rq' rm' rd') 9 1 (((ys.take (k+1)).map (·.Name)).map strR)::S) w:=by
   have h1:=hw.ds [0,0]
   have e:((ys.take (k+1)).map (·.Name)).map strR=((ys.take k).map (·.Name)).map strR++[strR m.Name]:=by
    rw [take_succ_of hm,List.map_append,List.map_append];rfl
   rw [e];exact h1
  repeat (first | refine byW ?_ | (refine byV ?_;intro w hw))
  exact ⟨nl - k - 1,by omega,k+1,rq',rm',rd',by omega,⟨rfl,rfl,rfl,rfl,trivial⟩,hw⟩
 have hkn2:k=nl:=by have:=of_decide_eq_false h;omega
 rw [hkn2,List.take_of_length_le (by omega)] at hw
 repeat (first | refine byW ?_ | (refine byV ?_;intro w hw))
 have hpost:NearPost H id (ys.map (·.Name)) 0:=by
  unfold NearPost
  rw [if_neg hv2,if_neg hf2,← hcE]
  exact ⟨ys,hyp,near_sorted hv hyp hkey hys,rfl,rfl⟩
 exact ⟨_,rfl,Γ2,_,_,0,hle1.trans hle2,rfl,hpost,hw⟩
end Go.Proofs.YthgighljhoneeaaGreatDoor
end
section
open Go Mk
namespace Go.Proofs.YthgighljhoneeaaGreatDoor
set_option maxHeartbeats 64000000
attribute [local irreducible] Calls
attribute [local irreducible] matL
def NL (cst:MemT→Int) (a b:MemT):Prop:=cst a < cst b∨(cst a=cst b∧a.Base < b.Base)
theorem isF_stable {lt:MemT→MemT→Bool} {cst:MemT→Int} (hlt:∀ x y,lt x y=decide (cst x < cst y)):∀ (m:Nat) (A B:List MemT),B.length=m→A.Pairwise (NL cst)→(∀ a∈A,∀ b∈B,a.Base < b.Base)→(B.Pairwise fun a b=>a.Base < b.Base)→(isF lt m A.length (A++B)).Pairwise (NL cst)
  | 0,A,B,hB,hA,_,_=>by
    rw [List.eq_nil_of_length_eq_zero hB,List.append_nil];exact hA
  | m+1,A,[],hB,_,_,_=>by simp at hB
  | m+1,A,x::B,hB,hA,hAB,hBB=>by
    obtain ⟨C,D,hCD,hb,hD,hC⟩:=bubC_spec (lt:=lt) A x B
    show (isF lt m (A.length+1) (bubC lt A.length (A++x::B))).Pairwise (NL cst)
    rw [List.pairwise_cons] at hBB
    have hl:A.length+1=(C++x::D).length:=by rw [hCD];simp;omega
    rw [hb,show C++x::(D++B)=(C++x::D)++B by simp,hl]
    subst hCD
    rw [List.pairwise_append] at hA
    obtain ⟨hA1,hA2,hA3⟩:=hA
    refine isF_stable hlt m (C++x::D) B (by simpa using hB) ?_ ?_ hBB.2
    · rw [List.pairwise_append,List.pairwise_cons]
      refine ⟨hA1,⟨fun d hd=>.inl ?_,hA2⟩,fun a ha b hb2=>?_⟩
      · have:=hD d hd;rw [hlt] at this;exact of_decide_eq_true this
      · rcases List.mem_cons.1 hb2 with rfl | hb3
        · have hne:C≠[]:=fun e=>by rw [e] at ha;simp at ha
          obtain ⟨c0,hc0⟩:∃ c0,C.getLast? = some c0:=⟨_,List.getLast?_eq_some_getLast hne⟩
          have h1:=hC c0 hc0
          rw [hlt] at h1
          have h1:=of_decide_eq_false h1
          have h2:cst a≤cst c0:=by
            have hsp:C=C.dropLast++[c0]:=by
              rw [List.getLast?_eq_some_getLast hne] at hc0
              rw [← Option.some.inj hc0,List.dropLast_concat_getLast]
            rw [hsp] at ha hA1
            rcases List.mem_append.1 ha with h3 | h3
            · have:=(List.pairwise_append.1 hA1).2.2 a h3 c0 (by simp)
              rcases this with h4 | h4 <;> omega
            · rw [List.mem_singleton.1 h3];exact Int.le_refl _
          have h3:=hAB a (List.mem_append_left _ ha) b (by simp)
          by_cases e:cst a=cst b
          · exact .inr ⟨e,h3⟩
          · exact .inl (by omega)
        · exact hA3 a ha b hb3
    · intro a ha b hb2
      rcases List.mem_append.1 ha with h1 | h1
      · exact hAB a (List.mem_append_left _ h1) b (by simp [hb2])
      · rcases List.mem_cons.1 h1 with rfl | h1
        · exact hBB.1 b hb2
        · exact hAB a (List.mem_append_right _ h1) b (by simp [hb2])
theorem mems_norm {H:HwT} (hv:validS H=0):(normS H).Mems.Perm H.Mems∧(normS H).Mems.Pairwise fun a b=>a.Base < b.Base:=by
 obtain ⟨h1,h2⟩:=isort_spec cMem_lt3 H.Mems
 refine ⟨h1,?_⟩
 have hnd:(isort (ltC cMem) H.Mems).Nodup:=by
  have h3:((isort (ltC cMem) H.Mems).map (·.Name)).Nodup:=(h1.map _).nodup_iff.2 (mem_names hv)
  exact List.Pairwise.of_map (·.Name) (fun a b h e=>h (by rw [e])) h3
 refine (h2.and hnd).imp_of_mem fun {a b} ha hb h=>?_
 have h3:=h.1
 rw [lt_MemT] at h3
 have h3:=of_decide_eq_false h3
 have h4:a.Base≠b.Base:=fun e=>h.2 (base_inj hv (h1.mem_iff.1 ha) (h1.mem_iff.1 hb) e)
 omega
abbrev NLb (cst:MemT→Int) (a b:MemT):Prop:=cst a < cst b∨(cst a=cst b∧a.Base < b.Base)
theorem NLb_asym {cst:MemT→Int} {a b:MemT} (h:NLb cst a b) (h2:NLb cst b a):False:=by
 rcases h with h | h <;> rcases h2 with h2 | h2 <;> omega
theorem NLb_tot {cst:MemT→Int} {a b:MemT} (h:¬ NLb cst a b) (h2:¬ NLb cst b a):a.Base=b.Base:=by
 unfold NLb at h h2;omega
theorem nearPost_uniq {H:HwT} {id code code':Int} {ns ns':List ByteArray} (h:NearPost H id ns code) (h':NearPost H id ns' code'):ns'=ns∧code'=code:=by
 unfold NearPost at h h'
 by_cases h1:validS H≠0
 ·rw [if_pos h1] at h h'
  obtain ⟨rfl,rfl⟩:=h;exact h'
 ·rw [if_neg h1] at h h'
  by_cases h2:(findC H.Cores id).2=false
  ·rw [if_pos h2] at h h'
   obtain ⟨rfl,rfl⟩:=h;exact h'
  ·rw [if_neg h2] at h h'
   obtain ⟨ys,p1,p2,rfl,rfl⟩:=h
   obtain ⟨zs,q1,q2,rfl,rfl⟩:=h'
   generalize costM (dstF H) (findC H.Cores id).1=cst at *
   have e:zs=ys:=sorted_uniq (lt:=fun x y=>decide (NLb cst x y)) (fun x hx y hy e1 e2=>base_inj (Decidable.of_not_not h1) (p1.mem_iff.1 hx) (p1.mem_iff.1 hy) (NLb_tot (of_decide_eq_false e1) (of_decide_eq_false e2))) (p2.imp fun {a b} h=>decide_eq_false fun h3=>NLb_asym h h3) (q2.imp fun {a b} h=>decide_eq_false fun h3=>NLb_asym h h3) (q1.trans p1.symm)
   subst e
   exact ⟨rfl,rfl⟩
set_option maxRecDepth 8000 in
theorem rnearestW {Γ : Gho} {u : Value} {H : HwT} [hh : HwR Γ u H] [hwd : WideH H] (id : Int) (hLe : HwLe H) {S : List Res} {w : World} (hw : Wd Γ S w) :
    Calls Tryz.prog 11 #[u,.int .i64 id] w fun e w'=>∃ (Γ':Gho) (v':Value) (ns:List ByteArray) (code:Int),Γ.le Γ'∧e=.returned (.tuple #[v',.int .i64 code])∧NearPost H id ns code∧Wd Γ' (.own v' 9 1 (ns.map strR)::S) w':=by
  have hhw:=hh
  obtain ⟨a1,n1,c1,a2,n2,c2,a3,n3,c3,a4,n4,c4,a5,n5,c5,cs',rfl,hcs,hok,hsz,r1,r2,r3,r4,r5⟩:=hh.h
  refine calls_of_W Tryz.func11 rfl rfl ?_
  repeat (first | refine byW ?_ | (refine byV ?_;intro w hw))
  refine lBox ?_
  intro b2 w hw
  have hw:Wd Γ (.blk b2 (hwC H a1 n1 c1 a2 n2 c2 a3 n3 c3 a4 n4 c4 a5 n5 c5)::S) w:=hw
  repeat (first | refine byW ?_ | (refine byV ?_;intro w hw))
  refine W_cond rfl (fun h=>?_) (fun h=>?_)
  · have h:validS H≠0:=of_decide_eq_true h
    repeat (first | refine byW ?_ | (refine byV ?_;intro w hw))
    exact ⟨_,rfl,Γ,_,[],validS H,Gho.le.refl _,rfl,by unfold NearPost;rw [if_pos h];exact ⟨rfl,rfl⟩,Wd.addNil hw.drop⟩
  have hv:validS H=0:=by
    by_cases e:validS H=0
    · exact e
    · exact absurd (decide_eq_true (show validS H≠0 from e)) (by simp [h])
  clear h
  have hv2:¬ validS H≠0:=fun e=>e hv
  repeat (first | refine byW ?_ | (refine byV ?_;intro w hw))
  refine W_cond rfl (fun h=>?_) (fun h=>?_)
  · have h:=coreAt_neg2.1 (of_decide_eq_true h)
    repeat (first | refine byW ?_ | (refine byV ?_;intro w hw))
    exact ⟨_,rfl,Γ,_,[],57,Gho.le.refl _,rfl,by unfold NearPost;rw [if_neg hv2,if_pos h];exact ⟨rfl,rfl⟩,Wd.addNil hw.drop⟩
  have hf:(findC H.Cores id).2=true:=by
    have h1:=of_decide_eq_false h
    rw [coreAt_neg2] at h1
    simpa using h1
  clear h
  have hf2:¬ (findC H.Cores id).2=false:=fun e=>by rw [hf] at e;cases e
  obtain ⟨c,hcE⟩:∃ c,c=(findC H.Cores id).1:=⟨_,rfl⟩
  have hfc:findC H.Cores id=(c,true):=Prod.ext hcE.symm hf
  have hcm:c∈H.Cores:=by rw [hcE];exact (findC_in hf).1
  repeat (first | refine byW ?_ | (refine byV ?_;intro w hw))
  refine lCall ((Matrix_any (hh:=hhw) hv hw).mono fun e w hq=>?_)
  clear hw
  obtain ⟨rfl,hw⟩:=hq
  refine ⟨_,rfl,?_⟩
  repeat (first | refine byW ?_ | (refine byV ?_;intro w hw))
  refine lAlloc ?_
  intro b7 w hw
  rw [matL_zero] at hw
  have hw:Wd Γ (.blk b7 (.cells (matL (fun _ _=>0)).toArray 80)::.blk b2 (hwC H a1 n1 c1 a2 n2 c2 a3 n3 c3 a4 n4 c4 a5 n5 c5)::S) w:=hw
  refine lStore (i:=0) (vs:=matL (dstM H)) ?_ (hl:=matL_len _) (h1:=by rw [List.all_eq_true];exact matL_one _) (ho:=by simp [matL_len]) (hv:=by simp [Value.cells])
  intro w hw
  have hw:Wd Γ (.blk b7 (.cells (putCells (matL (fun _ _=>0)).toArray 0 (matL (dstM H))) 80)::.blk b2 (hwC H a1 n1 c1 a2 n2 c2 a3 n3 c3 a4 n4 c4 a5 n5 c5)::S) w:=hw
  rw [show putCells (matL (fun _ _=>0)).toArray 0 (matL (dstM H))=(matL (dstM H)).toArray from by unfold putCells;simp [matL_len]] at hw
  obtain ⟨Γ1,hle1,hD,hw1⟩:=hw.freezeB
  clear hw
  have hw:=hw1
  clear hw1
  have hR1:=hhw.mono hle1
  repeat (first | refine byW ?_ | (refine byV ?_;intro w hw))
  refine lCall ((RNormalize_any (hh:=hR1) hLe hw).mono fun e w hq=>?_)
  clear hw
  obtain ⟨Γ2,u8,hle2,rfl,v1,v2,v3,v4,v5,cs2, -, -,rfl,hw⟩:=hq
  refine ⟨_,rfl,?_⟩
  obtain ⟨q,n,d,rfl,hn, -, -⟩:=hw.own_shape (i:=3) rfl
  simp only [List.length_map] at hn
  obtain ⟨hnp,hnb⟩:=mems_norm hv
  generalize hXE:(normS H).Mems=X at *
  have hw:Wd Γ2 (.own (.slice q n d) 61 5 (X.map enc)::.blk b2 (hwC H a1 n1 c1 a2 n2 c2 a3 n3 c3 a4 n4 c4 a5 n5 c5)::S) w:=(hw.ds [0,0,0]).dropAt 1
  have hR2:=hR1.mono hle2
  have hD2:=hD.mono hle2
  have hle:Γ.le Γ2:=hle1.trans hle2
  have hnl:n≤10000:=by rw [hn,hnp.length_eq];exact hLe.m
  clear hR1 hD hle1 hle2
  have hcost:∀ m∈H.Mems,PG Tryz.prog Γ2 32 [.agg #[.string H.Name,.slice a1 n1 c1,.slice a2 n2 c2,.slice a3 n3 c3,.slice a4 n4 c4,.slice a5 n5 c5],.agg (matL (dstM H)).toArray,.int .i64 id,.agg (enc m).toArray] (.int .i64 (costM (dstF H) c m)):=fun m hm=>rcost_pg (hh:=hR2) hv hfc hm
  obtain ⟨lt,hlt⟩:∃ lt:MemT→MemT→Bool,∀ x y,lt x y=decide (costM (dstF H) c x < costM (dstF H) c y):=⟨_,fun _ _=>rfl⟩
  repeat (first | refine byW ?_ | (refine byV ?_;intro w hw))
  refine lY (v:=.slice q n d) ?_ (hy:=y_fldS (Tryz.underlying28) rfl rfl (by kernel_rfl) rfl)
  repeat (first | refine byW ?_ | (refine byV ?_;intro w hw))
  refine W_loop (fun μ ρ w=>∃ (i:Nat) (Y:List MemT),1≤i∧(n≤i+μ)∧Y.length=n∧(∀ y∈Y,y∈H.Mems)∧isort lt X=isF lt (n - i) i Y∧Has ρ [(1,.int .i64 id),(2,.pointer (some ⟨b2,0,none⟩)),(7,.pointer (some ⟨b7,0,none⟩)),(8,.slice q n d),(9,.int .i64 i)]∧Wd Γ2 (.own (.slice q n d) 61 5 (Y.map enc)::.blk b2 (hwC H a1 n1 c1 a2 n2 c2 a3 n3 c3 a4 n4 c4 a5 n5 c5)::S) w) n ⟨1,X,by omega,by omega,hn.symm,fun y hy=>hnp.mem_iff.1 hy,by unfold isort;rw [← hn],⟨rfl,rfl,rfl,rfl,rfl,trivial⟩,hw⟩ ?_
  clear hw
  rintro μ ρ w ⟨i,Y,hi,hμ,hY,hYm,hB,hρ,hw⟩
  rw [hρ.eq]
  clear hρ
  repeat (first | refine byW ?_ | (refine byV ?_;intro w hw))
  refine W_cond rfl (fun h=>?_) (fun h=>?_)
  · have him:i < n:=by have:=of_decide_eq_true h;omega
    clear h
    have hB2:isort lt X=isF lt (n - (i+1)) (i+1) (bubC lt i Y):=by
      rw [hB,show n - i=(n - (i+1))+1 by omega];rfl
    repeat (first | refine byW ?_ | (refine byV ?_;intro w hw))
    refine W_loop (fun μ2 ρ w=>∃ (k:Nat) (Z:List MemT),μ2=k∧k≤i∧Z.length=n∧(∀ z∈Z,z∈H.Mems)∧bubC lt i Y=bubC lt k Z∧Has ρ [(1,.int .i64 id),(2,.pointer (some ⟨b2,0,none⟩)),(7,.pointer (some ⟨b7,0,none⟩)),(8,.slice q n d),(9,.int .i64 i),(10,.int .i64 k)]∧Wd Γ2 (.own (.slice q n d) 61 5 (Z.map enc)::.blk b2 (hwC H a1 n1 c1 a2 n2 c2 a3 n3 c3 a4 n4 c4 a5 n5 c5)::S) w) i ⟨i,Y,rfl,Nat.le_refl _,hY,hYm,rfl,⟨rfl,rfl,rfl,rfl,rfl,rfl,trivial⟩,hw⟩ ?_
    clear hw
    rintro μ2 ρ w ⟨k,Z,rfl,hk,hZ,hZm,hC,hρ,hw⟩
    rw [hρ.eq]
    clear hρ
    refine W_seq ?_
    refine W_seq ?_
    cases μ2 with
    | zero=>
      refine W_quiet (by kernel_rfl) (by kernel_rfl) hw ?_
      iterate 3 (first | refine Q_nil ?_ | (apply Q_plain;first | (apply Q_go;first | refine qP ?_ | refine qPg ?_) | refine qY ?_) | (apply Q_guarded;first | (apply Q_go;first | refine qPG ?_ | refine qPgG ?_) | refine qG ?_))
      iterate 18 (refine qG (v:=.bool true) ?_ (hy:=fun h=>by have h2:true=false:=h.symm.trans rfl;cases h2))
      refine qY (v:=.bool false) ?_ (hy:=fun w hw=>y_pickF rfl rfl)
      refine Q_nil ?_
      clear hw
      intro w hw
      refine W_cond rfl (fun h=>by cases h) (fun _=>?_)
      repeat (first | refine byW ?_ | (refine byV ?_;intro w hw))
      have hC:bubC lt i Y=Z:=hC
      exact ⟨μ - 1,by omega,i+1,Z,by omega,by omega,hZ,hZm,by rw [hB2,hC],⟨rfl,rfl,rfl,rfl,rfl,trivial⟩,hw⟩
    | succ k=>
      obtain ⟨x,hx⟩:=get_lt (l:=Z) (k:=k+1) (by omega)
      obtain ⟨y,hy⟩:=get_lt (l:=Z) (k:=k) (by omega)
      have hxm:=hZm x (List.mem_of_getElem? hx)
      have hym:=hZm y (List.mem_of_getElem? hy)
      haveI px:=hcost x hxm
      haveI py:=hcost y hym
      have e1:(((k+1:Nat):Int) - 1)=(k:Int):=by omega
      have hx':Z[((k+1:Nat):Int).toNat]? = some x:=hx
      have hy':Z[(((k+1:Nat):Int) - 1).toNat]? = some y:=by rw [e1];exact hy
      refine W_quiet (by kernel_rfl) (by kernel_rfl) hw ?_
      iterate 1 (first | refine Q_nil ?_ | (apply Q_plain;first | (apply Q_go;first | refine qP ?_ | refine qPg ?_) | refine qY ?_) | (apply Q_guarded;first | (apply Q_go;first | refine qPG ?_ | refine qPgG ?_) | refine qG ?_))
      refine qT (b:=decide ((0:Int) < ((k+1:Nat):Int))) (decide_eq_true (by omega)) ?_
      repeat (first | refine Q_nil ?_ | (apply Q_plain;first | (apply Q_go;first | refine qP ?_ | refine qPg ?_) | refine qY ?_) | (apply Q_guarded;first | (apply Q_go;first | refine qPG ?_ | refine qPgG ?_) | refine qG ?_))
      refine qG (v:=.agg (matL (dstM H)).toArray) ?_ (hy:=fun hg w hw=>y_lpm (hB:=hD2) (m:=4096) hw rfl (by rw [List.drop_zero];exact List.take_of_length_le (by simp [matL_len])) (matL_len _))
      repeat (first | refine Q_nil ?_ | (apply Q_plain;first | (apply Q_go;first | refine qP ?_ | refine qPg ?_) | refine qY ?_) | (apply Q_guarded;first | (apply Q_go;first | refine qPG ?_ | refine qPgG ?_) | refine qG ?_))
      refine qG (v:=.agg (matL (dstM H)).toArray) ?_ (hy:=fun hg w hw=>y_lpm (hB:=hD2) (m:=4096) hw rfl (by rw [List.drop_zero];exact List.take_of_length_le (by simp [matL_len])) (matL_len _))
      repeat (first | refine Q_nil ?_ | (apply Q_plain;first | (apply Q_go;first | refine qP ?_ | refine qPg ?_) | refine qY ?_) | (apply Q_guarded;first | (apply Q_go;first | refine qPG ?_ | refine qPgG ?_) | refine qG ?_))
      clear hw
      intro w hw
      refine W_cond rfl (fun h2=>?_) (fun h2=>?_)
      · have h2:lt x y=true:=by rw [hlt];simpa using h2
        have hst:=bubC_step hx hy h2
        rw [hst] at hC
        clear hst
        repeat (first | refine byW ?_ | (refine byV ?_;intro w hw))
        refine lAlloc ?_
        intro bh w hw
        refine lStore ?_
        intro w hw
        have hw:Wd Γ2 (.blk bh (.cells (enc x).toArray 61)::.own (.slice q n d) 61 5 (Z.map enc)::.blk b2 (hwC H a1 n1 c1 a2 n2 c2 a3 n3 c3 a4 n4 c4 a5 n5 c5)::S) w:=hw
        repeat (first | refine byW ?_ | (refine byV ?_;intro w hw))
        refine lStoreE (k:=k+1) (i:=1) (r:=enc y) ?_
        intro w hw
        have hw:Wd Γ2 (.blk bh (.cells (enc x).toArray 61)::.own (.slice q n d) 61 5 ((Z.map enc).set (k+1) (enc y))::.blk b2 (hwC H a1 n1 c1 a2 n2 c2 a3 n3 c3 a4 n4 c4 a5 n5 c5)::S) w:=hw
        repeat (first | refine byW ?_ | (refine byV ?_;intro w hw))
        refine lStoreE (k:=k) (i:=1) (r:=enc x) ?_ (hx:=by show Value.pointer _=_;rw [show (((k+1:Nat):Int) - 1).toNat=k by omega])
        intro w hw
        have hw:Wd Γ2 (.blk bh (.cells (enc x).toArray 61)::.own (.slice q n d) 61 5 (((Z.map enc).set (k+1) (enc y)).set k (enc x))::.blk b2 (hwC H a1 n1 c1 a2 n2 c2 a3 n3 c3 a4 n4 c4 a5 n5 c5)::S) w:=hw
        rw [← List.map_set,← List.map_set] at hw
        have hw:=hw.drop
        repeat (first | refine byW ?_ | (refine byV ?_;intro w hw))
        refine ⟨k,by omega,k,_,rfl,by omega,by simp;omega,fun z hz=>?_,hC,⟨rfl,rfl,rfl,rfl,rfl,by show Value.int .i64 (((k+1:Nat):Int) - 1)=_;rw [e1],trivial⟩,hw⟩
        rcases List.mem_or_eq_of_mem_set hz with h1 | h1
        · rcases List.mem_or_eq_of_mem_set h1 with h3 | h3
          · exact hZm z h3
          · rw [h3];exact hym
        · rw [h1];exact hxm
      · have h2:lt x y=false:=by rw [hlt];simpa using h2
        rw [bubC_stop hx hy h2] at hC
        repeat (first | refine byW ?_ | (refine byV ?_;intro w hw))
        exact ⟨μ - 1,by omega,i+1,Z,by omega,by omega,hZ,hZm,by rw [hB2,hC],⟨rfl,rfl,rfl,rfl,rfl,trivial⟩,hw⟩
  have him:¬ i < n:=by have:=of_decide_eq_false h;omega
  clear h
  rw [show n - i=0 by omega] at hB
  have hB:isort lt X=Y:=hB
  have hsort:Y.Pairwise (NL (costM (dstF H) c)):=by
    rw [← hB,isort_zero]
    exact isF_stable hlt X.length [] X rfl List.Pairwise.nil (fun a ha=>by simp at ha) hnb
  have hYp:Y.Perm H.Mems:=by
    rw [← hB]
    refine (isort_spec ⟨fun x y h=>?_,fun x y z h1 h2=>?_⟩ X).1.trans hnp
    · rw [hlt] at h ⊢;have:=of_decide_eq_true h;exact decide_eq_false (by omega)
    · rw [hlt] at h1 h2 ⊢;have:=of_decide_eq_false h1;have:=of_decide_eq_false h2;exact decide_eq_false (by omega)
  clear hB hμ hi him hXE
  obtain ⟨Γ3,hle3,rY,hw1⟩:=hw.freeze
  clear hw
  have hle:Γ.le Γ3:=hle.trans hle3
  have hw:Wd Γ3 S w:=hw1.drop
  clear hw1
  have hw:=Wd.addNil (a:=none) (E:=9) (sz:=1) hw
  repeat (first | refine byW ?_ | (refine byV ?_;intro w hw))
  refine W_loop (fun μ ρ w=>∃ (k:Nat) (rq:Option Addr) (rm rd:Nat),μ+k=n∧Has ρ [(8,.slice q n d),(12,.slice rq rm rd),(13,.int .i64 k)]∧Wd Γ3 (.own (.slice rq rm rd) 9 1 (((Y.take k).map (·.Name)).map strR)::S) w) n ⟨0,none,0,0,by omega,⟨rfl,rfl,rfl,trivial⟩,hw⟩ ?_
  clear hw
  rintro μ ρ w ⟨k,rq,rm,rd,hμ,hρ,hw⟩
  rw [hρ.eq]
  clear hρ
  repeat (first | refine byW ?_ | (refine byV ?_;intro w hw))
  refine W_cond rfl (fun h=>?_) (fun h=>?_)
  · have hkn:k < n:=by have:=of_decide_eq_true h;omega
    clear h
    obtain ⟨m,hm⟩:=get_lt (l:=Y) (k:=k) (by omega)
    have hrm:rm=k:=by
      obtain ⟨p1,p2,p3,hp,hp2, -, -⟩:=hw.own_shape (i:=0) rfl
      cases hp
      simp at hp2;omega
    repeat (first | refine byW ?_ | (refine byV ?_;intro w hw))
    refine lBuildSlice [strR m.Name] ?_
    intro a62 w hw
    repeat (first | refine byW ?_ | (refine byV ?_;intro w hw))
    refine lApp (i:=1) (rows2:=[strR m.Name]) ?_ (hw.own_rd (i:=0) rfl) rfl rfl hw rfl rfl rfl
    intro v1 w hw
    obtain ⟨rq',rm',rd',rfl, -, -, -⟩:=hw.own_shape (i:=1) rfl
    have hw:Wd Γ3 (.own (.slice rq' rm' rd') 9 1 (((Y.take (k+1)).map (·.Name)).map strR)::S) w:=by
      have h1:=hw.drop
      have e:((Y.take (k+1)).map (·.Name)).map strR=((Y.take k).map (·.Name)).map strR++[strR m.Name]:=by
        rw [take_succ_of hm,List.map_append,List.map_append];rfl
      rw [e];exact h1
    repeat (first | refine byW ?_ | (refine byV ?_;intro w hw))
    exact ⟨n - k - 1,by omega,k+1,rq',rm',rd',by omega,⟨rfl,rfl,rfl,trivial⟩,hw⟩
  have hkn2:k=n:=by have:=of_decide_eq_false h;omega
  rw [hkn2,List.take_of_length_le (by omega)] at hw
  repeat (first | refine byW ?_ | (refine byV ?_;intro w hw))
  have hpost:NearPost H id (Y.map (·.Name)) 0:=by
    unfold NearPost
    rw [if_neg hv2,if_neg hf2,← hcE]
    exact ⟨Y,hYp,hsort,rfl,rfl⟩
  exact ⟨_,rfl,Γ3,_,_,0,hle,rfl,hpost,hw⟩
end Go.Proofs.YthgighljhoneeaaGreatDoor
end
section
open Go Mk
namespace Go.Proofs.YthgighljhoneeaaGreatDoor
set_option maxHeartbeats 16000000
attribute [local irreducible] Calls
attribute [local irreducible] matL
section
variable {D:Mx} {cs:List CoreT} {H:HwT}
theorem blk_bases {m:MemT} {e:Nat} (hm:MemP m e):(blkOf D cs m).Pairwise fun p q=>p.2.Base < q.2.Base:=by
 obtain ⟨j,hj,hb⟩:=blk_shape (D:=D) (cs:=cs) hm
 rw [hb,List.pairwise_map]
 refine List.pairwise_lt_range.imp fun {a b} h=>?_
 show ((blkN m.Base.toNat e j a:Nat):Int) < ((blkN m.Base.toNat e j b:Nat):Int)
 unfold blkN
 have h1:0 < 2 ^ (e - j):=Nat.pow_pos (by omega)
 have h2:a * 2 ^ (e - j) < b * 2 ^ (e - j):=Nat.mul_lt_mul_of_pos_right h h1
 omega
theorem flat_bases (hv:validS H=0) (hp:∀ m∈H.Mems,∃ e,MemP m e) {X:List MemT} (hX:X.Perm H.Mems) (hB:X.Pairwise fun a b=>a.Base < b.Base):(X.flatMap (blkOf D cs)).Pairwise fun p q=>p.2.Base < q.2.Base:=by
 rw [List.pairwise_flatMap]
 refine ⟨fun m hm=>?_,?_⟩
 ·obtain ⟨e,he⟩:=hp m (hX.mem_iff.1 hm)
  exact blk_bases he
 ·refine hB.imp_of_mem fun {a b} ha hb hab p hpa q hqb=>?_
  obtain ⟨ea,hea⟩:=hp a (hX.mem_iff.1 ha)
  obtain ⟨eb,heb⟩:=hp b (hX.mem_iff.1 hb)
  have h1:=(blkOf_in (D:=D) (cs:=cs) hea hpa).2
  have h2:=(blkOf_in (D:=D) (cs:=cs) heb hqb).2
  have hne:a≠b:=fun e=>by rw [e] at hab;omega
  have h3:=pw_mem (R:=fun a b=>(∃ e,MemP a e)→(∃ e,MemP b e)→a.Base+a.Size≤b.Base∨b.Base+b.Size≤a.Base) (fun x y h q1 q2=>(h q2 q1).symm) (mems_sep hv) a (hX.mem_iff.1 ha) b (hX.mem_iff.1 hb) hne ⟨ea,hea⟩ ⟨eb,heb⟩
  have h4:=szR_pos p.2
  have h5:=szR_pos q.2
  unfold inM endR at h1 h2
  have h6:0≤b.Size:=by rw [heb.size];exact Int.natCast_nonneg _
  omega
theorem ofC_pw {R:RangeT→RangeT→Prop} {l:List Blk} (h:l.Pairwise fun p q=>R p.2 q.2) (k:Nat):(ofC k l).Pairwise R:=by
 unfold ofC
 rw [List.pairwise_map]
 exact h.filter _
theorem ref_sorted (hv:validS H=0) (hp:∀ m∈H.Mems,∃ e,MemP m e) {X:List MemT} (hX:X.Perm H.Mems) (hB:X.Pairwise fun a b=>a.Base < b.Base) (n:Nat):Sorted n (H.Mems.flatMap (blkOf D cs)) (bls n (X.flatMap (blkOf D cs))):=by
 refine ⟨by unfold bls;simp,fun k b hb=>?_,fun k b hb=>?_⟩
 ·unfold bls at hb
  rw [List.getElem?_map] at hb
  by_cases hk:k < n
  ·rw [List.getElem?_range hk] at hb
   cases hb
   unfold ofC
   exact (((hX.flatMap_right _).filter _).map _)
  ·rw [List.getElem?_eq_none (by simp;omega)] at hb;cases hb
 ·unfold bls at hb
  rw [List.getElem?_map] at hb
  by_cases hk:k < n
  ·rw [List.getElem?_range hk] at hb
   cases hb
   exact (ofC_pw (R:=fun x y=>x.Base < y.Base) (flat_bases hv hp hX hB) k).imp fun {a b} h=>by omega
  ·rw [List.getElem?_eq_none (by simp;omega)] at hb;cases hb
theorem sorted_pools (hv:validS H=0) (hp:∀ m∈H.Mems,∃ e,MemP m e) {n:Nat} {B B':List (List RangeT)} (h:Sorted n (H.Mems.flatMap (blkOf D cs)) B) (h':Sorted n (H.Mems.flatMap (blkOf D cs)) B'):B'=B:=by
 refine List.ext_getElem? fun k=>?_
 by_cases hk:k < n
 ·obtain ⟨b,hb⟩:=get_lt (l:=B) (k:=k) (by rw [h.len];exact hk)
  obtain ⟨b',hb'⟩:=get_lt (l:=B') (k:=k) (by rw [h'.len];exact hk)
  rw [hb,hb']
  have hpm:=(h'.perm k b' hb').trans (h.perm k b hb).symm
  have hap:=ofC_pw (R:=apR) (all_apart (D:=D) (cs:=cs) hv hp) k
  have hinj:∀ x∈b,∀ y∈b,x.Base=y.Base→x=y:=fun x hx y hy e=>by
   by_cases hne:x=y
   ·exact hne
   ·have h1:=pw_mem (R:=apR) (fun x y h=>apR_symm h) hap x ((h.perm k b hb).mem_iff.1 hx) y ((h.perm k b hb).mem_iff.1 hy) hne
    exfalso
    apply h1
    have h4:=szR_pos x
    have h5:=szR_pos y
    unfold endR
    omega
  exact congrArg some (sorted_uniq (lt:=fun x y:RangeT=>decide (x.Base < y.Base)) (fun x hx y hy e1 e2=>hinj x hx y hy (by have:=of_decide_eq_false e1;have:=of_decide_eq_false e2;omega)) ((h.asc k b hb).imp fun {a b} h=>decide_eq_false (by omega)) ((h'.asc k b' hb').imp fun {a b} h=>decide_eq_false (by omega)) hpm)
 ·rw [List.getElem?_eq_none (by rw [h'.len];omega),List.getElem?_eq_none (by rw [h.len];omega)]
end
theorem pg_log2 {Γ:Gho} {k:Nat} (hk:k < 63):PG Tryz.prog Γ 47 [.int .u64 ((2 ^ k:Nat):Int)] (.int .i64 k):=⟨fun S w hw=>by
 refine calls_of_W Tryz.func47 rfl rfl ?_
 repeat (first | refine byW ?_ | (refine byV ?_;intro w hw))
 refine W_loop (fun μ ρ w=>∃ (j:Nat),μ+j=k∧Has ρ [(0,.int .u64 ((2 ^ (k - j):Nat):Int)),(3,.int .i64 j)]∧Wd Γ S w) k ⟨0,by omega,⟨rfl,rfl,trivial⟩,hw⟩ ?_
 clear hw
 rintro μ ρ w ⟨j,hj,hρ,hw⟩
 rw [hρ.eq]
 clear hρ
 obtain ⟨x,hx⟩:∃ x:Int,x=((2 ^ (k - j):Nat):Int):=⟨_,rfl⟩
 rw [← hx]
 repeat (first | refine byW ?_ | (refine byV ?_;intro w hw))
 refine W_cond rfl (fun h=>?_) (fun h=>?_)
 ·have h:(1:Int) < x:=of_decide_eq_true h
  have hjk:j < k:=by
   by_cases e:j < k
   ·exact e
   ·rw [show k - j=0 by omega] at hx
    rw [hx] at h
    exact absurd h (by decide)
  have hd:Int.fdiv x (2 ^ (min (1:Int).toNat IntKind.u64.bits))=((2 ^ (k - (j+1)):Nat):Int):=by
   rw [hx,show k - j=(k - (j+1))+1 by omega,Nat.pow_succ]
   show Int.fdiv _ 2=_
   rw [Int.fdiv_eq_ediv_of_nonneg _ (by decide)]
   omega
  repeat (first | refine byW ?_ | (refine byV ?_;intro w hw))
  exact ⟨k - j - 1,by omega,j+1,by omega,⟨by rw [← hd];rfl,rfl,trivial⟩,hw⟩
 ·have h:¬ (1:Int) < x:=of_decide_eq_false h
  have hjk:j=k:=by
   by_cases e:j=k
   ·exact e
   ·exfalso
    apply h
    rw [hx,show k - j=(k - j - 1)+1 by omega,Nat.pow_succ]
    have:0 < 2 ^ (k - j - 1):=Nat.pow_pos (by omega)
    omega
  repeat (first | refine byW ?_ | (refine byV ?_;intro w hw))
  rw [hjk]
  exact ⟨_,rfl,rfl,hw⟩⟩
set_option maxRecDepth 8000 in
theorem samePools_pg {Γ:Gho} {a a2:Option Addr} {n c n2 c2:Nat} {cs:List CoreT} {vs vs2:List Value} {B:List (List RangeT)} (hn:n=cs.length) (hl:vs.length=cs.length) (hl2:vs2.length=cs.length) (hB:B.length=cs.length) (hF:PoolsF Γ (.slice a n c) cs vs B) (hF2:PoolsF Γ (.slice a2 n2 c2) cs vs2 B) :
  PG Tryz.prog Γ 15 [.slice a n c,.slice a2 n2 c2] (.bool true):=⟨fun S w hw=>by
 have rp:=hF.out
 have rp2:=hF2.out
 obtain ⟨g1,g2,g3⟩:=rep_facts rp
 obtain ⟨k1,k2,k3⟩:=rep_facts rp2
 have e2:n2=n:=by
  rw [k1,g1];unfold poolsR;simp [List.length_zip];omega
 subst e2
 refine calls_of_W Tryz.func15 rfl rfl ?_
 repeat (first | refine byW ?_ | (refine byV ?_;intro w hw))
 refine W_cond rfl (fun h=>?_) (fun h=>?_)
 ·exact absurd h (by simp)
 clear h
 repeat (first | refine byW ?_ | (refine byV ?_;intro w hw))
 refine W_loop (fun μ ρ w=>∃ (i:Nat),μ+i=n2∧Has ρ [(0,.slice a n2 c),(1,.slice a2 n2 c2),(5,.int .i64 i)]∧Wd Γ S w) n2 ⟨0,by omega,⟨rfl,rfl,rfl,trivial⟩,hw⟩ ?_
 clear hw
 rintro μ ρ w ⟨i,hi,hρ,hw⟩
 rw [hρ.eq]
 clear hρ
 repeat (first | refine byW ?_ | (refine byV ?_;intro w hw))
 refine W_cond rfl (fun h=>?_) (fun h=>?_)
 ·have hin:i < n2:=by have:=of_decide_eq_true h;omega
  clear h
  obtain ⟨ci,hci⟩:=get_lt (l:=cs) (k:=i) (by omega)
  obtain ⟨vi,hvi⟩:=get_lt (l:=vs) (k:=i) (by omega)
  obtain ⟨wi,hwi⟩:=get_lt (l:=vs2) (k:=i) (by omega)
  obtain ⟨bi,hbi⟩:=get_lt (l:=B) (k:=i) (by omega)
  have hrb:=hF.inn i vi bi hvi hbi
  have hrb2:=hF2.inn i wi bi hwi hbi
  obtain ⟨ab,nb,cb,rfl,hnb,hnbc,hcb⟩:=hrb.shape
  obtain ⟨ad,nd,cd,rfl,hnd,hndc,hcd⟩:=hrb2.shape
  simp only [List.length_map] at hnb hnd
  have e3:nd=nb:=by omega
  subst e3
  repeat (first | refine byW ?_ | (refine byV ?_;intro w hw))
  refine W_quiet (by kernel_rfl) (by kernel_rfl) hw ?_
  repeat (first | refine Q_nil ?_ | (apply Q_plain;first | (apply Q_go;first | refine qP ?_ | refine qPg ?_) | refine qY ?_) | (apply Q_guarded;first | (apply Q_go;first | refine qPG ?_ | refine qPgG ?_) | refine qG ?_))
  refine qY (v:=.int .i64 ci.ID) ?_ (hy:=fun w hw=>y_loadEf rfl (rp.rd hw) (poolsR_get hci hvi) rfl)
  repeat (first | refine Q_nil ?_ | (apply Q_plain;first | (apply Q_go;first | refine qP ?_ | refine qPg ?_) | refine qY ?_) | (apply Q_guarded;first | (apply Q_go;first | refine qPG ?_ | refine qPgG ?_) | refine qG ?_))
  refine qY (v:=.int .i64 ci.ID) ?_ (hy:=fun w hw=>y_loadEf rfl (rp2.rd hw) (poolsR_get hci hwi) rfl)
  repeat (first | refine Q_nil ?_ | (apply Q_plain;first | (apply Q_go;first | refine qP ?_ | refine qPg ?_) | refine qY ?_) | (apply Q_guarded;first | (apply Q_go;first | refine qPG ?_ | refine qPgG ?_) | refine qG ?_))
  refine qG (v:=.pointer (some ⟨aB a,aO a+i * 2,none⟩)) ?_ (hy:=fun hg w hw=>y_idxI (i:=(i:Int)) hw rp (gvT hg rfl) (gvT hg rfl) (by omega) (by omega))
  repeat (first | refine Q_nil ?_ | (apply Q_plain;first | (apply Q_go;first | refine qP ?_ | refine qPg ?_) | refine qY ?_) | (apply Q_guarded;first | (apply Q_go;first | refine qPG ?_ | refine qPgG ?_) | refine qG ?_))
  refine qG (v:=.slice ab nd cb) ?_ (hy:=fun hg w hw=>y_loadEf (gvT hg rfl) (rp.rd hw) (poolsR_get hci hvi) rfl)
  repeat (first | refine Q_nil ?_ | (apply Q_plain;first | (apply Q_go;first | refine qP ?_ | refine qPg ?_) | refine qY ?_) | (apply Q_guarded;first | (apply Q_go;first | refine qPG ?_ | refine qPgG ?_) | refine qG ?_))
  refine qG (v:=.pointer (some ⟨aB a2,aO a2+i * 2,none⟩)) ?_ (hy:=fun hg w hw=>y_idxI (i:=(i:Int)) hw rp2 (gvT hg rfl) (gvT hg rfl) (by omega) (by omega))
  repeat (first | refine Q_nil ?_ | (apply Q_plain;first | (apply Q_go;first | refine qP ?_ | refine qPg ?_) | refine qY ?_) | (apply Q_guarded;first | (apply Q_go;first | refine qPG ?_ | refine qPgG ?_) | refine qG ?_))
  refine qG (v:=.slice ad nd cd) ?_ (hy:=fun hg w hw=>y_loadEf (gvT hg rfl) (rp2.rd hw) (poolsR_get hci hwi) rfl)
  repeat (first | refine Q_nil ?_ | (apply Q_plain;first | (apply Q_go;first | refine qP ?_ | refine qPg ?_) | refine qY ?_) | (apply Q_guarded;first | (apply Q_go;first | refine qPG ?_ | refine qPgG ?_) | refine qG ?_))
  intro w hw
  refine W_cond rfl (fun h=>?_) (fun h=>?_)
  ·exact absurd h (by simp)
  clear h
  repeat (first | refine byW ?_ | (refine byV ?_;intro w hw))
  refine W_loop (fun μ2 ρ w=>∃ (k:Nat),μ2+k=nd∧Has ρ [(0,.slice a n2 c),(1,.slice a2 n2 c2),(5,.int .i64 i),(6,.int .i64 k)]∧Wd Γ S w) nd ⟨0,by omega,⟨rfl,rfl,rfl,rfl,trivial⟩,hw⟩ ?_
  clear hw
  rintro μ2 ρ w ⟨k,hk,hρ,hw⟩
  rw [hρ.eq]
  clear hρ
  repeat (first | refine byW ?_ | (refine byV ?_;intro w hw))
  refine lY (v:=.slice ab nd cb) ?_ (hy:=y_loadEf rfl (rp.rd hw) (poolsR_get hci hvi) rfl)
  repeat (first | refine byW ?_ | (refine byV ?_;intro w hw))
  refine W_cond rfl (fun h=>?_) (fun h=>?_)
  ·have hkn:k < nd:=by have:=of_decide_eq_true h;omega
   clear h
   obtain ⟨x,hx⟩:=get_lt (l:=bi) (k:=k) (by omega)
   repeat (first | refine byW ?_ | (refine byV ?_;intro w hw))
   refine W_quiet (by kernel_rfl) (by kernel_rfl) hw ?_
   repeat (first | refine Q_nil ?_ | (apply Q_plain;first | (apply Q_go;first | refine qP ?_ | refine qPg ?_) | refine qY ?_) | (apply Q_guarded;first | (apply Q_go;first | refine qPG ?_ | refine qPgG ?_) | refine qG ?_))
   refine qY (v:=.slice ab nd cb) ?_ (hy:=fun w hw=>y_loadEf rfl (rp.rd hw) (poolsR_get hci hvi) rfl)
   repeat (first | refine Q_nil ?_ | (apply Q_plain;first | (apply Q_go;first | refine qP ?_ | refine qPg ?_) | refine qY ?_) | (apply Q_guarded;first | (apply Q_go;first | refine qPG ?_ | refine qPgG ?_) | refine qG ?_))
   refine qY (v:=.slice ad nd cd) ?_ (hy:=fun w hw=>y_loadEf rfl (rp2.rd hw) (poolsR_get hci hwi) rfl)
   repeat (first | refine Q_nil ?_ | (apply Q_plain;first | (apply Q_go;first | refine qP ?_ | refine qPg ?_) | refine qY ?_) | (apply Q_guarded;first | (apply Q_go;first | refine qPG ?_ | refine qPgG ?_) | refine qG ?_))
   intro w hw
   refine W_cond rfl (fun h=>?_) (fun h=>?_)
   ·exact absurd h (by simp)
   clear h
   repeat (first | refine byW ?_ | (refine byV ?_;intro w hw))
   exact ⟨μ2 - 1,by omega,k+1,by omega,⟨rfl,rfl,rfl,rfl,trivial⟩,hw⟩
  clear h
  repeat (first | refine byW ?_ | (refine byV ?_;intro w hw))
  exact ⟨μ - 1,by omega,i+1,by omega,⟨rfl,rfl,rfl,trivial⟩,hw⟩
 ·repeat (first | refine byW ?_ | (refine byV ?_;intro w hw))
  exact ⟨_,rfl,rfl,hw⟩⟩
end Go.Proofs.YthgighljhoneeaaGreatDoor
end
section
open Go Mk
namespace Go.Proofs.YthgighljhoneeaaGreatDoor
set_option maxHeartbeats 64000000
attribute [local irreducible] Calls
attribute [local irreducible] matL
set_option maxRecDepth 8000 in
theorem rpools_core {Γ : Gho} {u : Value} {H : HwT} [hh : HwR Γ u H] [hwd : WideH H] {S : List Res} {w : World} {v : Value} {L : List Int} (hr : RepS Γ v 1 (intRows L)) (hN : L.length ≤ 1000) (hLen : (liveS H L).1.length ≤ 64) (hLe : HwLe H) (hw : Wd Γ S w) :
    Calls Tryz.prog 13 #[u,v] w fun e w'=>∃ Γ' v',Γ.le Γ'∧e=.returned (.tuple #[v',.int .i64 (liveS H L).2])∧(((liveS H L).2≠0∧v'=.slice none 0 0∧Wd Γ' S w')∨((liveS H L).2=0 ∧
      ∃ (n:Nat) (a9:Addr) (vs:List Value) (B:List (List RangeT)),v'=.slice (some a9) n n∧n=(liveS H L).1.length∧vs.length=n∧Sorted n (H.Mems.flatMap (blkOf (dstF H) (liveS H L).1)) B∧Wd Γ' (.own (.slice (some a9) n n) 66 2 (poolsR (liveS H L).1 vs)::(inn 68 2 (poolsI vs B)++S)) w')):=by
  have hhw:=hh
  obtain ⟨a1,n1,c1,a2,n2,c2,a3,n3,c3,a4,n4,c4,a5,n5,c5,cs',rfl,hcs,hok,hsz,r1,r2,r3,r4,r5⟩:=hh.h
  obtain ⟨av,nv,cv,rfl,hnv,hncv,hccv⟩:=hr.shape
  have hnv:nv=L.length:=by simpa [intRows] using hnv
  haveI plv:PG Tryz.prog Γ 45 [.agg #[.string H.Name,.slice a1 n1 c1,.slice a2 n2 c2,.slice a3 n3 c3,.slice a4 n4 c4,.slice a5 n5 c5],.slice av nv cv] (.int .i64 (liveS H L).2):=⟨fun S w hw=>lives_any (hh:=hhw) hr hw⟩
  refine calls_of_W Tryz.func13 rfl rfl ?_
  repeat (first | refine byW ?_ | (refine byV ?_;intro w hw))
  refine lBox ?_
  intro b2 w hw
  have hw:Wd Γ (.blk b2 (hwC H a1 n1 c1 a2 n2 c2 a3 n3 c3 a4 n4 c4 a5 n5 c5)::S) w:=hw
  repeat (first | refine byW ?_ | (refine byV ?_;intro w hw))
  refine W_cond rfl (fun h=>?_) (fun h=>?_)
  · have h:(liveS H L).2≠0:=of_decide_eq_true h
    repeat (first | refine byW ?_ | (refine byV ?_;intro w hw))
    exact ⟨_,rfl,Γ,.slice none 0 0,.refl _,rfl,.inl ⟨h,rfl,hw.drop⟩⟩
  have hcode:(liveS H L).2=0:=by
    by_cases e:(liveS H L).2=0
    · exact e
    · exact absurd (decide_eq_true (show (liveS H L).2≠0 from e)) (by simp [h])
  clear h
  obtain ⟨hv,hknown,hnod,hLne,hl1⟩:=liveS_zero hcode
  have hl1n:(liveS H L).1.length=nv:=by rw [hl1,List.length_map,(sortZ_perm L).length_eq,hnv]
  rw [hcode]
  repeat (first | refine byW ?_ | (refine byV ?_;intro w hw))
  refine lCall ((SortInts_any (RepS.rdS hr) (by omega) hw).mono fun e w hq=>?_)
  clear hw
  obtain ⟨vs,rfl,hw⟩:=hq
  refine ⟨_,rfl,?_⟩
  have hLSs:=bsortI_sorted hnod
  have hLSz:=bsortI_sortZ hnod
  have hLSp:=bsortI_perm L
  generalize bsort ltI L=LS at *
  rw [← hLSz] at hl1
  obtain ⟨al,n,cl,rfl,hn, -, -⟩:=hw.own_shape (i:=0) rfl
  have hn:n=LS.length:=by simpa [intRows] using hn
  obtain ⟨Γ1,hle1,rl,hw1⟩:=hw.freeze
  clear hw
  have hw:Wd Γ1 (.blk b2 (hwC H a1 n1 c1 a2 n2 c2 a3 n3 c3 a4 n4 c4 a5 n5 c5)::S) w:=hw1
  clear hw1
  have hR1:=hhw.mono hle1
  obtain ⟨cs,hcsE⟩:∃ cs,cs=(liveS H L).1:=⟨_,rfl⟩
  have hcl:cs.length=n:=by rw [hcsE,hl1,List.length_map,hn]
  have hn64:n≤64:=by rw [← hcl,hcsE];exact hLen
  have hnnv:n=nv:=by rw [← hcl,hcsE];exact hl1n
  have hidf:∀ (k:Nat) (c:CoreT),cs[k]? = some c→LS[k]? = some c.ID∧c∈H.Cores∧(findC H.Cores c.ID).2=true∧coreN H c.ID=c.Node:=fun k c hc=>by
    rw [hcsE,hl1,List.getElem?_map] at hc
    cases hq:LS[k]? with
    | none=>rw [hq] at hc;cases hc
    | some id=>
      rw [hq] at hc
      simp only [Option.map_some,Option.some.injEq] at hc
      have hid:=hknown id (hLSp.mem_iff.1 (List.mem_of_getElem? hq))
      obtain ⟨g1,g2⟩:=findC_in hid
      rw [hc] at g1 g2
      exact ⟨by rw [g2],g1,by rw [g2];exact hid,by unfold coreN;rw [g2,hc]⟩
  have hcm:∀ c∈cs,c∈H.Cores:=fun c hc=>by
    obtain ⟨k,hk⟩:=List.mem_iff_getElem?.1 hc
    exact (hidf k c hk).2.1
  have hmC:∀ (k:Nat) (c:CoreT),cs[k]? = some c→findC H.Cores c.ID=(c,true):=fun k c hc=>by
    obtain ⟨-,h1,h2, -⟩:=hidf k c hc
    obtain ⟨h3,h4⟩:=findC_in h2
    exact Prod.ext (nodup_key (coreIds_nodup hv) _ h3 _ h1 h4) h2
  have hne:0 < n:=by rw [hnnv,hnv];exact Nat.pos_of_ne_zero fun e=>hLne (List.eq_nil_of_length_eq_zero e)
  rw [← hcsE]
  have hpow:∀ m∈H.Mems,∃ e,MemP m e:=fun m hm=>mem_pow hv hwd.h hm
  have hcan:∀ c∈cs,∀ m∈H.Mems,Can (dstF H) c m:=fun c hc m hm=>can_of hv (hcm c hc) hm
  repeat (first | refine byW ?_ | (refine byV ?_;intro w hw))
  refine lCall ((Matrix_any (hh:=hR1) hv hw).mono fun e w hq=>?_)
  clear hw
  obtain ⟨rfl,hw⟩:=hq
  refine ⟨_,rfl,?_⟩
  repeat (first | refine byW ?_ | (refine byV ?_;intro w hw))
  refine lAlloc ?_
  intro b8 w hw
  rw [matL_zero] at hw
  have hw:Wd Γ1 (.blk b8 (.cells (matL (fun _ _=>0)).toArray 80)::.blk b2 (hwC H a1 n1 c1 a2 n2 c2 a3 n3 c3 a4 n4 c4 a5 n5 c5)::S) w:=hw
  refine lStore (i:=0) (vs:=matL (dstM H)) ?_ (hl:=matL_len _) (h1:=by rw [List.all_eq_true];exact matL_one _) (ho:=by simp [matL_len]) (hv:=by simp [Value.cells])
  intro w hw
  have hw:Wd Γ1 (.blk b8 (.cells (putCells (matL (fun _ _=>0)).toArray 0 (matL (dstM H))) 80)::.blk b2 (hwC H a1 n1 c1 a2 n2 c2 a3 n3 c3 a4 n4 c4 a5 n5 c5)::S) w:=hw
  rw [show putCells (matL (fun _ _=>0)).toArray 0 (matL (dstM H))=(matL (dstM H)).toArray from by unfold putCells;simp [matL_len]] at hw
  obtain ⟨Γ2,hle2,hD,hw1⟩:=hw.freezeB
  clear hw
  have hw:=hw1
  clear hw1
  have hR2:=hR1.mono hle2
  have rl:=rl.mono hle2
  repeat (first | refine byW ?_ | (refine byV ?_;intro w hw))
  refine lMakeSlice (len:=n) ?_
  intro a9 w hw
  have hw:Wd Γ2 (.own (.slice (some a9) n n) 66 2 (firstR cs 0)::.blk b2 (hwC H a1 n1 c1 a2 n2 c2 a3 n3 c3 a4 n4 c4 a5 n5 c5)::S) w:=by
    have:firstR cs 0=List.replicate n [.int .i64 0,.slice none 0 0]:=by unfold firstR;simp [hcl]
    rw [this];exact hw
  repeat (first | refine byW ?_ | (refine byV ?_;intro w hw))
  refine W_loop (fun μ ρ w=>∃ (k:Nat),μ+k=n∧Has ρ [(2,.pointer (some ⟨b2,0,none⟩)),(7,.slice al n cl),(8,.pointer (some ⟨b8,0,none⟩)),(9,.slice (some a9) n n),(10,.int .i64 k)]∧Wd Γ2 (.own (.slice (some a9) n n) 66 2 (firstR cs k)::.blk b2 (hwC H a1 n1 c1 a2 n2 c2 a3 n3 c3 a4 n4 c4 a5 n5 c5)::S) w) n ⟨0,by omega,⟨rfl,rfl,rfl,rfl,rfl,trivial⟩,hw⟩ ?_
  clear hw
  rintro μ ρ w ⟨k,hk,hρ,hw⟩
  rw [hρ.eq]
  clear hρ
  repeat (first | refine byW ?_ | (refine byV ?_;intro w hw))
  refine W_cond rfl (fun h=>?_) (fun h=>?_)
  · have hkn:k < n:=by have:=of_decide_eq_true h;omega
    clear h
    obtain ⟨c,hc⟩:=get_lt (l:=cs) (k:=k) (by omega)
    have hLk:=(hidf k c hc).1
    repeat (first | refine byW ?_ | (refine byV ?_;intro w hw))
    refine lStoreEf (i:=0) (k:=k) (f:=0) (row:=[.int .i64 0,.slice none 0 0]) ?_ (firstR_get (cs:=cs) (k:=k) (by omega))
    intro w hw
    have hw:Wd Γ2 (.own (.slice (some a9) n n) 66 2 ((firstR cs k).set k [.int .i64 c.ID,.slice none 0 0])::.blk b2 (hwC H a1 n1 c1 a2 n2 c2 a3 n3 c3 a4 n4 c4 a5 n5 c5)::S) w:=hw
    rw [firstR_set hc] at hw
    repeat (first | refine byW ?_ | (refine byV ?_;intro w hw))
    exact ⟨n - k - 1,by omega,k+1,by omega,⟨rfl,rfl,rfl,rfl,rfl,trivial⟩,hw⟩
  have hkn:k=n:=by have:=of_decide_eq_false h;omega
  clear h
  rw [hkn,← hcl,firstR_end,hcl] at hw
  have hw:Wd Γ2 (.own (.slice (some a9) n n) 66 2 (poolsR cs (List.replicate n (.slice none 0 0)))::.blk b2 (hwC H a1 n1 c1 a2 n2 c2 a3 n3 c3 a4 n4 c4 a5 n5 c5)::(inn 68 2 (poolsI (List.replicate n (.slice none 0 0)) (bls n []))++S)) w:=by
    rw [poolsI_nil]
    have h1:=inn_nil (E:=68) (sz:=2) n hw
    exact (h1.unrot.ps [0]).perm (List.Perm.cons _ List.perm_middle)
  clear hkn hk
  repeat (first | refine byW ?_ | (refine byV ?_;intro w hw))
  refine lCall ((RNormalize_any (hh:=hR2) hLe hw).mono fun e w hq=>?_)
  clear hw
  obtain ⟨Γ8,u8,hle8,rfl,ho⟩:=hq
  refine ⟨_,rfl,?_⟩
  obtain ⟨Γ9,hle9,hNm,hw⟩:=ho.freeze (norm_sz hsz)
  clear ho
  obtain ⟨b1',m1',d1',b2',m2',d2',b3',m3',d3',b4',m4',d4',b5',m5',d5',cs'',rfl, -, -, -, -, -, -,rN, -⟩:=hNm.h
  obtain ⟨hnp,hnb⟩:=mems_norm hv
  generalize (normS H).Mems=X at *
  have hle29:=hle8.trans hle9
  have hR9:=hR2.mono hle29
  have rl:=rl.mono hle29
  have hD:=hD.mono hle29
  have hle:Γ.le Γ9:=hle1.trans (hle2.trans hle29)
  obtain ⟨hnN,hncN, -⟩:=rep_facts rN
  simp only [List.length_map] at hnN
  have hmem:X.length≤64:=by
    rw [hnp.length_eq]
    obtain ⟨-,h2, -⟩:=valid_all hv
    unfold countsB at h2
    simp only [Bool.and_eq_true,decide_eq_true_eq] at h2
    omega
  clear hle1 hle2 hle8 hle9 hle29 hR1 hR2 hNm
  have hcost:∀ m∈H.Mems,∀ (k:Nat) (c:CoreT),cs[k]? = some c→PG Tryz.prog Γ9 32 [.agg #[.string H.Name,.slice a1 n1 c1,.slice a2 n2 c2,.slice a3 n3 c3,.slice a4 n4 c4,.slice a5 n5 c5],.agg (matL (dstM H)).toArray,.int .i64 c.ID,.agg (enc m).toArray] (.int .i64 (costM (dstF H) c m)):=fun m hm k c hc=>rcost_pg (hh:=hR9) hv (hmC k c hc) hm
  repeat (first | refine byW ?_ | (refine byV ?_;intro w hw))
  refine lY (v:=.slice b4' m4' d4') ?_ (hy:=y_fldS (Tryz.underlying28) rfl rfl (by kernel_rfl) rfl)
  repeat (first | refine byW ?_ | (refine byV ?_;intro w hw))
  refine W_loop (fun μ ρ w=>∃ (j:Nat) (vs:List Value),μ+j=m4'∧vs.length=n∧Has ρ [(2,.pointer (some ⟨b2,0,none⟩)),(7,.slice al n cl),(8,.pointer (some ⟨b8,0,none⟩)),(9,.slice (some a9) n n),(11,.slice b4' m4' d4'),(12,.int .i64 j)]∧Wd Γ9 (.own (.slice (some a9) n n) 66 2 (poolsR cs vs)::.blk b2 (hwC H a1 n1 c1 a2 n2 c2 a3 n3 c3 a4 n4 c4 a5 n5 c5)::(inn 68 2 (poolsI vs (bls n ((X.take j).flatMap (blkOf (dstF H) cs))))++S)) w) m4' ⟨0,List.replicate n (.slice none 0 0),by omega,by simp,⟨rfl,rfl,rfl,rfl,rfl,rfl,trivial⟩,hw⟩ ?_
  clear hw
  rintro μ ρ w ⟨j,vs,hj,hvs,hρ,hw⟩
  rw [hρ.eq]
  clear hρ
  repeat (first | refine byW ?_ | (refine byV ?_;intro w hw))
  refine W_cond rfl (fun h=>?_) (fun h=>?_)
  · have hjn:j < m4':=by have:=of_decide_eq_true h;omega
    clear h
    obtain ⟨m,hm⟩:=get_lt (l:=X) (k:=j) (by omega)
    have hmm:=hnp.mem_iff.1 (List.mem_of_getElem? hm)
    obtain ⟨e,he⟩:=hpow m hmm
    have hcm2:∀ c∈cs,Can (dstF H) c m:=fun c hc=>hcan c hc m hmm
    generalize hl:(X.take j).flatMap (blkOf (dstF H) cs)=l at *
    have hl':(X.take (j+1)).flatMap (blkOf (dstF H) cs)=l++blkOf (dstF H) cs m:=by rw [take_succ_of hm,List.flatMap_append,hl];simp
    have hcI:∀ (k:Nat) (c:CoreT),cs[k]? = some c→costI (dstF H) cs m k=costM (dstF H) c m:=fun k c hc=>by unfold costI;simp [hc]
    have hcI0:∀ k,k < n→0≤costI (dstF H) cs m k:=fun k hk=>by
      obtain ⟨c,hc⟩:=get_lt (l:=cs) (k:=k) (by omega)
      rw [hcI k c hc]
      have h1:=(hcm2 c (List.mem_of_getElem? hc)).d
      have h2:=(hcm2 c (List.mem_of_getElem? hc)).l
      unfold costM;omega
    repeat (first | refine byW ?_ | (refine byV ?_;intro w hw))
    refine lAlloc ?_
    intro b13 w hw
    refine lStore ?_
    intro w hw
    obtain ⟨S1,hS1⟩:∃ S1,S1=.own (.slice (some a9) n n) 66 2 (poolsR cs vs)::(inn 68 2 (poolsI vs (bls n l))++S):=⟨_,rfl⟩
    have hw:Wd Γ9 (.blk b13 (.cells (enc m).toArray 61)::.blk b2 (hwC H a1 n1 c1 a2 n2 c2 a3 n3 c3 a4 n4 c4 a5 n5 c5)::S1) w:=by
      rw [hS1]
      exact Wd.ps (S:=.blk b13 (.cells (enc m).toArray 61)::.own (.slice (some a9) n n) 66 2 (poolsR cs vs)::.blk b2 (hwC H a1 n1 c1 a2 n2 c2 a3 n3 c3 a4 n4 c4 a5 n5 c5)::(inn 68 2 (poolsI vs (bls n l))++S)) [2,1] hw
    obtain ⟨c0,hc0⟩:=get_lt (l:=cs) (k:=0) (by omega)
    have hL0:=(hidf 0 c0 hc0).1
    haveI p0:=hcost m hmm 0 c0 hc0
    repeat (first | refine byW ?_ | (refine byV ?_;intro w hw))
    refine W_quiet (by kernel_rfl) (by kernel_rfl) hw ?_
    repeat (first | refine Q_nil ?_ | (apply Q_plain;first | (apply Q_go;first | refine qP ?_ | refine qPg ?_) | refine qY ?_) | (apply Q_guarded;first | (apply Q_go;first | refine qPG ?_ | refine qPgG ?_) | refine qG ?_))
    refine qY (v:=.agg (matL (dstM H)).toArray) ?_ (hy:=fun w hw=>y_lpm (hB:=hD) (m:=4096) hw rfl (by rw [List.drop_zero];exact List.take_of_length_le (by simp [matL_len])) (matL_len _))
    repeat (first | refine Q_nil ?_ | (apply Q_plain;first | (apply Q_go;first | refine qP ?_ | refine qPg ?_) | refine qY ?_) | (apply Q_guarded;first | (apply Q_go;first | refine qPG ?_ | refine qPgG ?_) | refine qG ?_))
    intro w hw
    repeat (first | refine byW ?_ | (refine byV ?_;intro w hw))
    refine W_loop (fun μ2 ρ w=>∃ (k:Nat) (b:Int),μ2+k=n∧1≤k∧(∃ i,i < k∧costI (dstF H) cs m i=b)∧(∀ i,i < k→b≤costI (dstF H) cs m i)∧Has ρ [(2,.pointer (some ⟨b2,0,none⟩)),(7,.slice al n cl),(8,.pointer (some ⟨b8,0,none⟩)),(9,.slice (some a9) n n),(11,.slice b4' m4' d4'),(12,.int .i64 j),(13,.pointer (some ⟨b13,0,none⟩)),(14,.int .i64 b),(15,.int .i64 k)]∧Wd Γ9 (.blk b13 (.cells (enc m).toArray 61)::.blk b2 (hwC H a1 n1 c1 a2 n2 c2 a3 n3 c3 a4 n4 c4 a5 n5 c5)::S1) w) (n - 1) ⟨1,costM (dstF H) c0 m,by omega,by omega,⟨0,by omega,hcI 0 c0 hc0⟩,fun i hi=>by rw [show i=0 by omega,hcI 0 c0 hc0];exact Int.le_refl _,⟨rfl,rfl,rfl,rfl,rfl,rfl,rfl,rfl,rfl,trivial⟩,hw⟩ ?_
    clear hw p0
    rintro μ2 ρ w ⟨k,b,hμ2,hk1,hbe,hbl,hρ,hw⟩
    rw [hρ.eq]
    clear hρ
    repeat (first | refine byW ?_ | (refine byV ?_;intro w hw))
    refine W_cond rfl (fun h=>?_) (fun h=>?_)
    · have hkn:k < n:=by have:=of_decide_eq_true h;omega
      clear h
      obtain ⟨c,hc⟩:=get_lt (l:=cs) (k:=k) (by omega)
      have hLk:=(hidf k c hc).1
      haveI pk:=hcost m hmm k c hc
      have hck:=hcI k c hc
      generalize hce:costM (dstF H) c m=ce at *
      repeat (first | refine byW ?_ | (refine byV ?_;intro w hw))
      refine W_quiet (by kernel_rfl) (by kernel_rfl) hw ?_
      repeat (first | refine Q_nil ?_ | (apply Q_plain;first | (apply Q_go;first | refine qP ?_ | refine qPg ?_) | refine qY ?_) | (apply Q_guarded;first | (apply Q_go;first | refine qPG ?_ | refine qPgG ?_) | refine qG ?_))
      refine qY (v:=.agg (matL (dstM H)).toArray) ?_ (hy:=fun w hw=>y_lpm (hB:=hD) (m:=4096) hw rfl (by rw [List.drop_zero];exact List.take_of_length_le (by simp [matL_len])) (matL_len _))
      repeat (first | refine Q_nil ?_ | (apply Q_plain;first | (apply Q_go;first | refine qP ?_ | refine qPg ?_) | refine qY ?_) | (apply Q_guarded;first | (apply Q_go;first | refine qPG ?_ | refine qPgG ?_) | refine qG ?_))
      intro w hw
      repeat (first | refine byW ?_ | (refine byV ?_;intro w hw))
      refine ⟨n - k - 1,by omega,k+1,if ce < b then ce else b,by omega,by omega,?_,fun i hi=>?_,⟨rfl,rfl,rfl,rfl,rfl,rfl,rfl,rfl,rfl,trivial⟩,hw⟩
      · by_cases e2:ce < b
        · exact ⟨k,by omega,by rw [if_pos e2];exact hck⟩
        · obtain ⟨i,hi,hib⟩:=hbe
          exact ⟨i,by omega,by rw [if_neg e2];exact hib⟩
      · by_cases e3:i=k
        · subst e3;rw [hck];split <;> omega
        · have:=hbl i (by omega)
          split <;> omega
    have hkn:k=n:=by have:=of_decide_eq_false h;omega
    clear h
    rw [hkn] at hbe hbl
    clear hkn hk1 hμ2
    have hnear:nearL (dstF H) cs m=(List.range n).filter (fun i=>decide (costI (dstF H) cs m i=b))∧0 < (nearL (dstF H) cs m).length:=by
      rcases candR_ok (f:=costI (dstF H) cs m) cs.length (fun i hi=>hcI0 i (by omega)) with ⟨h1, -⟩ | ⟨-,h2,h3,h4, -⟩
      · omega
      · have hb : (candR (costI (dstF H) cs m) cs.length).1 = b := by
          obtain ⟨i0,hi0,hib⟩:=hbe
          have g1:=h2 i0 (by omega)
          obtain ⟨x,hx⟩:=get_lt (l:=(candR (costI (dstF H) cs m) cs.length).2) (k:=0) h4
          have hxm:=List.mem_of_getElem? hx
          rw [h3] at hxm
          have g2:=List.mem_filter.1 hxm
          have g3:=of_decide_eq_true g2.2
          have g4:=hbl x (by have:=List.mem_range.1 g2.1;omega)
          omega
        unfold nearL
        rw [h3,hb,hcl]
        refine ⟨rfl,?_⟩
        rw [h3,hb,hcl] at h4
        exact h4
    obtain ⟨hnE,hnpos⟩:=hnear
    have hw:=Wd.addNil (a:=none) (E:=3) (sz:=1) hw
    repeat (first | refine byW ?_ | (refine byV ?_;intro w hw))
    refine W_loop (fun μ2 ρ w=>∃ (i:Nat) (v16:Value),μ2+i=n∧Has ρ [(2,.pointer (some ⟨b2,0,none⟩)),(7,.slice al n cl),(8,.pointer (some ⟨b8,0,none⟩)),(9,.slice (some a9) n n),(11,.slice b4' m4' d4'),(12,.int .i64 j),(13,.pointer (some ⟨b13,0,none⟩)),(14,.int .i64 b),(16,v16),(17,.int .i64 i)]∧Wd Γ9 (.own v16 3 1 (intRows (((List.range i).filter fun x=>decide (costI (dstF H) cs m x=b)).map fun x:Nat=>(x:Int)))::.blk b13 (.cells (enc m).toArray 61)::.blk b2 (hwC H a1 n1 c1 a2 n2 c2 a3 n3 c3 a4 n4 c4 a5 n5 c5)::S1) w) n ⟨0,.slice none 0 0,by omega,⟨rfl,rfl,rfl,rfl,rfl,rfl,rfl,rfl,rfl,rfl,trivial⟩,hw⟩ ?_
    clear hw
    rintro μ2 ρ w ⟨i,v16,hi,hρ,hw⟩
    rw [hρ.eq]
    clear hρ
    obtain ⟨a16,n16,c16,rfl,hn16,hnc16, -⟩:=hw.own_shape (i:=0) rfl
    simp only [intRows,List.length_map] at hn16
    repeat (first | refine byW ?_ | (refine byV ?_;intro w hw))
    refine W_cond rfl (fun h=>?_) (fun h=>?_)
    · have hin:i < n:=by have:=of_decide_eq_true h;omega
      clear h
      obtain ⟨c,hc⟩:=get_lt (l:=cs) (k:=i) (by omega)
      have hLi:=(hidf i c hc).1
      haveI pk:=hcost m hmm i c hc
      have hck:=hcI i c hc
      have hrg:(List.range (i+1)).filter (fun x=>decide (costI (dstF H) cs m x=b))=(List.range i).filter (fun x=>decide (costI (dstF H) cs m x=b))++if costM (dstF H) c m=b then [i] else []:=by
        rw [List.range_succ,List.filter_append,← hck]
        by_cases e2:costI (dstF H) cs m i=b
        · rw [if_pos e2,List.filter_cons_of_pos (by exact decide_eq_true e2)];rfl
        · rw [if_neg e2,List.filter_cons_of_neg (by simp [e2])];rfl
      have hlen16:n16≤i:=by
        rw [hn16]
        have:=List.length_filter_le (fun x=>decide (costI (dstF H) cs m x=b)) (List.range i)
        simpa using this
      repeat (first | refine byW ?_ | (refine byV ?_;intro w hw))
      refine W_quiet (by kernel_rfl) (by kernel_rfl) hw ?_
      repeat (first | refine Q_nil ?_ | (apply Q_plain;first | (apply Q_go;first | refine qP ?_ | refine qPg ?_) | refine qY ?_) | (apply Q_guarded;first | (apply Q_go;first | refine qPG ?_ | refine qPgG ?_) | refine qG ?_))
      refine qY (v:=.agg (matL (dstM H)).toArray) ?_ (hy:=fun w hw=>y_lpm (hB:=hD) (m:=4096) hw rfl (by rw [List.drop_zero];exact List.take_of_length_le (by simp [matL_len])) (matL_len _))
      repeat (first | refine Q_nil ?_ | (apply Q_plain;first | (apply Q_go;first | refine qP ?_ | refine qPg ?_) | refine qY ?_) | (apply Q_guarded;first | (apply Q_go;first | refine qPG ?_ | refine qPgG ?_) | refine qG ?_))
      intro w hw
      repeat (first | refine byW ?_ | (refine byV ?_;intro w hw))
      refine W_cond rfl (fun h=>?_) (fun h=>?_)
      · have h:costM (dstF H) c m=b:=of_decide_eq_true h
        rw [if_pos h] at hrg
        repeat (first | refine byW ?_ | (refine byV ?_;intro w hw))
        refine lBuildSlice [[.int .i64 (i:Int)]] ?_
        intro a87 w hw
        refine lApp (i:=1) (rows2:=[[.int .i64 (i:Int)]]) ?_ (hw.own_rd (i:=0) rfl) rfl rfl hw rfl (by simp [Value.oneCell']) rfl
        intro v16 w hw
        have hw:Wd Γ9 (.own v16 3 1 (intRows (((List.range (i+1)).filter fun x=>decide (costI (dstF H) cs m x=b)).map fun x:Nat=>(x:Int)))::.blk b13 (.cells (enc m).toArray 61)::.blk b2 (hwC H a1 n1 c1 a2 n2 c2 a3 n3 c3 a4 n4 c4 a5 n5 c5)::S1) w:=by
          rw [hrg,List.map_append,intRows_app]
          exact hw.drop
        repeat (first | refine byW ?_ | (refine byV ?_;intro w hw))
        exact ⟨n - i - 1,by omega,i+1,v16,by omega,⟨rfl,rfl,rfl,rfl,rfl,rfl,rfl,rfl,rfl,rfl,trivial⟩,hw⟩
      · have h:¬ costM (dstF H) c m=b:=of_decide_eq_false h
        rw [if_neg h,List.append_nil] at hrg
        repeat (first | refine byW ?_ | (refine byV ?_;intro w hw))
        exact ⟨n - i - 1,by omega,i+1,_,by omega,⟨rfl,rfl,rfl,rfl,rfl,rfl,rfl,rfl,rfl,rfl,trivial⟩,by rw [hrg];exact hw⟩
    have hin:i=n:=by have:=of_decide_eq_false h;omega
    clear h
    rw [hin,← hnE] at hw hn16
    clear hin hi hbe hbl
    have hnlt:∀ x∈nearL (dstF H) cs m,x < n:=fun x hx=>by rw [← hcl];exact candR_lt _ x hx
    have hnlen:(nearL (dstF H) cs m).length≤n:=by rw [← hcl];exact candR_len _
    have hsz0:=he.size
    have hpk:2 ^ e≤1099511627776:=Nat.le_trans (Nat.pow_le_pow_right (n:=2) (by omega) he.hi) (by decide)
    have hsz1:0≤m.Size∧m.Size≤1099511627776:=by
      rw [hsz0]
      generalize 2 ^ e=E at hpk ⊢
      omega
    have hP:IntKind.u64.wrap (m.Size.tdiv 4096)=((m.Size.toNat / 4096:Nat):Int):=by
      rw [Int.tdiv_eq_ediv_of_nonneg hsz1.1]
      simp [IntKind.wrap,IntKind.bits,IntKind.signed];omega
    have hu64:∀ z:Int,0≤z→z < 18446744073709551616→IntKind.u64.wrap z=z:=fun z h1 h2=>by simp [IntKind.wrap,IntKind.bits,IntKind.signed];omega
    have hn16w:IntKind.u64.wrap (n16:Int)=n16:=hu64 _ (by omega) (by omega)
    repeat (first | refine byW ?_ | (refine byV ?_;intro w hw))
    refine W_loop (fun μ2 ρ w=>∃ q:Nat,18446744073709551616≤q * 2 ^ μ2∧q≤2000∧dblN (nearL (dstF H) cs m).length (m.Size.toNat / 4096) μ2 q=cutN m (nearL (dstF H) cs m).length∧Has ρ [(2,.pointer (some ⟨b2,0,none⟩)),(7,.slice al n cl),(8,.pointer (some ⟨b8,0,none⟩)),(9,.slice (some a9) n n),(11,.slice b4' m4' d4'),(12,.int .i64 j),(13,.pointer (some ⟨b13,0,none⟩)),(16,.slice a16 n16 c16),(18,.int .u64 q)]∧Wd Γ9 (.own (.slice a16 n16 c16) 3 1 (intRows ((nearL (dstF H) cs m).map fun x:Nat=>(x:Int)))::.blk b13 (.cells (enc m).toArray 61)::.blk b2 (hwC H a1 n1 c1 a2 n2 c2 a3 n3 c3 a4 n4 c4 a5 n5 c5)::S1) w) 64 ⟨1,by decide,by omega,rfl,⟨rfl,rfl,rfl,rfl,rfl,rfl,rfl,rfl,rfl,trivial⟩,hw⟩ ?_
    clear hw
    rintro μ2 ρ w ⟨q,hq1,hq2,hq3,hρ,hw⟩
    rw [hρ.eq]
    clear hρ
    generalize hPg:m.Size.toNat / 4096=PP at *
    have hlg:(nearL (dstF H) cs m).length=n16:=by rw [hn16]
    repeat (first | refine byW ?_ | (refine byV ?_;intro w hw))
    refine W_cond rfl (fun h=>?_) (fun h=>?_)
    · have h:(q:Int) < IntKind.u64.wrap (n16:Int)∧(q:Int) < IntKind.u64.wrap (m.Size.tdiv 4096):=by simpa using h
      rw [hn16w,hP] at h
      obtain ⟨f,rfl⟩:∃ f,μ2=f+1:=by
        cases μ2 with
        | zero=>simp at hq1;omega
        | succ f=>exact ⟨f,rfl⟩
      have hst:dblN (nearL (dstF H) cs m).length PP f (2 * q)=cutN m (nearL (dstF H) cs m).length:=by
        rw [← hq3,dblN,if_pos (by omega)]
      repeat (first | refine byW ?_ | (refine byV ?_;intro w hw))
      exact ⟨f,by omega,2 * q,by rw [Nat.pow_succ] at hq1;rw [Nat.mul_comm 2 q,Nat.mul_assoc,Nat.mul_comm 2];exact hq1,by omega,hst,⟨rfl,rfl,rfl,rfl,rfl,rfl,rfl,rfl,by show Value.int .u64 (IntKind.u64.wrap (2 * (q:Int)))=_;rw [hu64 _ (by omega) (by omega),show ((2 * q:Nat):Int)=2 * (q:Int) by omega],trivial⟩,hw⟩
    have h:¬ ((q:Int) < IntKind.u64.wrap (n16:Int)∧(q:Int) < IntKind.u64.wrap (m.Size.tdiv 4096)):=by
      intro hh
      simp [hh.1,hh.2] at h
    rw [hn16w,hP] at h
    have hst:q=cutN m (nearL (dstF H) cs m).length:=by rw [← hq3,dbl_stop (by omega)]
    clear h hq1 hq2 hq3
    subst hPg
    obtain ⟨jj,hj1,hj2,hj3⟩:=cut_pow he (nearL (dstF H) cs m).length
    have hLl:cs.length≤1000:=by omega
    have hq2000:=cut_lt (D:=dstF H) he hLl
    have hblk:blkOf (dstF H) cs m=(List.range (cutN m (nearL (dstF H) cs m).length)).map fun i=>((nearL (dstF H) cs m).getD (i % (nearL (dstF H) cs m).length) 0,⟨m.Base+i * ((m.Size.toNat / cutN m (nearL (dstF H) cs m).length:Nat):Int),((m.Size.toNat / cutN m (nearL (dstF H) cs m).length).log2:Nat)⟩):=rfl
    have hqpos:0 < cutN m (nearL (dstF H) cs m).length:=by rw [hj2];exact Nat.pow_pos (by omega)
    rw [← hst] at hblk hqpos hq2000 hj3
    clear hj2 hst
    obtain ⟨sz,hsz⟩:∃ sz,sz=m.Size.toNat / q:=⟨_,rfl⟩
    rw [← hsz] at hblk hj3
    haveI htz:PG Tryz.prog Γ9 47 [.int .u64 ((sz:Nat):Int)] (.int .i64 ((sz.log2:Nat):Int)):=by
      rw [hj3,Nat.log2_two_pow]
      exact pg_log2 (by have:=he.hi;omega)
    have hsq:sz * q≤m.Size.toNat:=by rw [hsz];exact Nat.div_mul_le_self _ _
    have hszl:sz≤m.Size.toNat:=Nat.le_trans (Nat.le_mul_of_pos_right _ hqpos) hsq
    have hszq:IntKind.u64.wrap (m.Size.tdiv (q:Int))=(sz:Int):=by
      rw [Int.tdiv_eq_ediv_of_nonneg hsz1.1]
      have e1:m.Size / (q:Int)=((m.Size.toNat / q:Nat):Int):=by
        rw [Int.natCast_ediv,Int.toNat_of_nonneg hsz1.1]
      rw [e1,← hsz]
      exact hu64 _ (by omega) (by omega)
    have hlenl:l.length≤200000:=by
      rw [← hl]
      have h1:∀ x∈X.take j,(blkOf (dstF H) cs x).length≤2000:=fun x hx=>by
        obtain ⟨e',he'⟩:=hpow x (hnp.mem_iff.1 (List.mem_of_mem_take hx))
        have:=cut_lt (D:=dstF H) he' hLl
        unfold blkOf;simpa using this
      have h2:∀ ms:List MemT,(∀ x∈ms,(blkOf (dstF H) cs x).length≤2000)→(ms.flatMap (blkOf (dstF H) cs)).length≤2000 * ms.length:=fun ms=>by
        induction ms with
        | nil=>intro _;simp
        | cons y ys ih=>
          intro h
          have a1:=h y (by simp)
          have a2:=ih fun x hx=>h x (by simp [hx])
          rw [List.flatMap_cons,List.length_append,List.length_cons];omega
      have h3:=h2 _ h1
      have h4:=List.length_take_le j X
      omega
    have hw:Wd Γ9 (.own (.slice a16 n16 c16) 3 1 (intRows ((nearL (dstF H) cs m).map fun x:Nat=>(x:Int)))::.blk b13 (.cells (enc m).toArray 61)::.blk b2 (hwC H a1 n1 c1 a2 n2 c2 a3 n3 c3 a4 n4 c4 a5 n5 c5)::.own (.slice (some a9) n n) 66 2 (poolsR cs vs)::(inn 68 2 (poolsI vs (bls n (l++(blkOf (dstF H) cs m).take 0)))++S)) w:=by
      rw [hS1] at hw;simpa using hw
    clear hS1
    repeat (first | refine byW ?_ | (refine byV ?_;intro w hw))
    refine W_loop (fun μ2 ρ w=>∃ (i:Nat) (vs:List Value),μ2+i=q∧vs.length=n∧Has ρ [(2,.pointer (some ⟨b2,0,none⟩)),(7,.slice al n cl),(8,.pointer (some ⟨b8,0,none⟩)),(9,.slice (some a9) n n),(11,.slice b4' m4' d4'),(12,.int .i64 j),(13,.pointer (some ⟨b13,0,none⟩)),(16,.slice a16 n16 c16),(18,.int .u64 q),(19,.int .u64 i)]∧Wd Γ9 (.own (.slice a16 n16 c16) 3 1 (intRows ((nearL (dstF H) cs m).map fun x:Nat=>(x:Int)))::.blk b13 (.cells (enc m).toArray 61)::.blk b2 (hwC H a1 n1 c1 a2 n2 c2 a3 n3 c3 a4 n4 c4 a5 n5 c5)::.own (.slice (some a9) n n) 66 2 (poolsR cs vs)::(inn 68 2 (poolsI vs (bls n (l++(blkOf (dstF H) cs m).take i)))++S)) w) q ⟨0,vs,by omega,hvs,⟨rfl,rfl,rfl,rfl,rfl,rfl,rfl,rfl,rfl,rfl,trivial⟩,hw⟩ ?_
    clear hw hvs
    rintro μ2 ρ w ⟨i,vs,hi,hvs,hρ,hw⟩
    rw [hρ.eq]
    clear hρ
    repeat (first | refine byW ?_ | (refine byV ?_;intro w hw))
    refine W_cond rfl (fun h=>?_) (fun h=>?_)
    · have hin:i < q:=by have:=of_decide_eq_true h;omega
      clear h
      have hrl:i % (nearL (dstF H) cs m).length < (nearL (dstF H) cs m).length:=Nat.mod_lt _ hnpos
      obtain ⟨k,hk⟩:=get_lt (l:=nearL (dstF H) cs m) (k:=i % (nearL (dstF H) cs m).length) hrl
      have hkn:k < n:=hnlt k (List.mem_of_getElem? hk)
      have hbi:(blkOf (dstF H) cs m)[i]? = some (k,⟨m.Base+i * (sz:Int),(sz.log2:Nat)⟩):=by
        rw [hblk,List.getElem?_map,List.getElem?_range hin]
        simp [List.getD_eq_getElem?_getD,hk]
      have htm:(i:Int).tmod (n16:Int)=((i % (nearL (dstF H) cs m).length:Nat):Int):=by
        rw [hn16,Int.tmod_eq_emod_of_nonneg (by omega)];rfl
      have hid:((nearL (dstF H) cs m).map fun x:Nat=>(x:Int))[((i:Int).tmod (n16:Int)).toNat]? = some (k:Int):=by
        rw [htm,Int.toNat_natCast,List.getElem?_map,hk];rfl
      have htm2:0≤(i:Int).tmod (n16:Int)∧(i:Int).tmod (n16:Int) < n16:=by rw [htm];omega
      have hiwi:IntKind.i64.wrap (i:Int)=i:=wrap_i64 (by omega) (by omega)
      have htm3:0≤(IntKind.i64.wrap (i:Int)).tmod (n16:Int)∧(IntKind.i64.wrap (i:Int)).tmod (n16:Int) < n16:=by rw [hiwi];exact htm2
      have hid3:((nearL (dstF H) cs m).map fun x:Nat=>(x:Int))[((IntKind.i64.wrap (i:Int)).tmod (n16:Int)).toNat]? = some (k:Int):=by rw [hiwi];exact hid
      clear htm hk hrl
      obtain ⟨c,hc⟩:=get_lt (l:=cs) (k:=k) (by omega)
      obtain ⟨vk,hvk⟩:=get_lt (l:=vs) (k:=k) (by omega)
      have ha9:(some a9:Option Addr)=some ⟨aB (some a9),aO (some a9),none⟩:=(hw.own_rd (i:=3) rfl).at_ (by unfold poolsR;simp [List.length_zip];omega)
      repeat (first | refine byW ?_ | (refine byV ?_;intro w hw))
      have hl2:(l++(blkOf (dstF H) cs m).take i).length≤210000:=by
        rw [List.length_append]
        have h1:=List.length_take_le i (blkOf (dstF H) cs m)
        omega
      have hl3:(l++(blkOf (dstF H) cs m).take i)++[(k,(⟨m.Base+i * (sz:Int),(sz.log2:Nat)⟩:RangeT))]=l++(blkOf (dstF H) cs m).take (i+1):=by
        rw [take_succ_of hbi,List.append_assoc]
      have hbl:=bls_set (n:=n) (k:=k) (l:=l++(blkOf (dstF H) cs m).take i) (r:=⟨m.Base+i * (sz:Int),(sz.log2:Nat)⟩)
      rw [hl3] at hbl
      have hB:(bls n (l++(blkOf (dstF H) cs m).take i))[k]? = some (ofC k (l++(blkOf (dstF H) cs m).take i)):=by unfold bls;rw [List.getElem?_map,List.getElem?_range hkn];rfl
      have hoC:(ofC k (l++(blkOf (dstF H) cs m).take i)).length≤210000:=by
        unfold ofC
        rw [List.length_map]
        exact Nat.le_trans (List.length_filter_le _ _) hl2
      clear hl2 hl3
      generalize l++(blkOf (dstF H) cs m).take i=l' at *
      generalize ofC k l'=bk at *
      have hop:=inn_openA (A:=[.own (.slice a16 n16 c16) 3 1 (intRows ((nearL (dstF H) cs m).map fun x:Nat=>(x:Int))),.blk b13 (.cells (enc m).toArray 61),.blk b2 (hwC H a1 n1 c1 a2 n2 c2 a3 n3 c3 a4 n4 c4 a5 n5 c5),.own (.slice (some a9) n n) 66 2 (poolsR cs vs)]) (poolsI_get hvk hB) hw
      clear hw
      have hw:Wd Γ9 ([.blk b13 (.cells (enc m).toArray 61)]++(.own (.slice (some a9) n n) 66 2 (poolsR cs vs)::.own vk 68 2 (bk.map enc)::.blk b2 (hwC H a1 n1 c1 a2 n2 c2 a3 n3 c3 a4 n4 c4 a5 n5 c5)::.own (.slice a16 n16 c16) 3 1 (intRows ((nearL (dstF H) cs m).map fun x:Nat=>(x:Int)))::(inn 68 2 ((poolsI vs (bls n l')).eraseIdx k)++S))) w:=hop.ps [1,3,2,4,4]
      clear hop
      have hpl:k < (poolsI vs (bls n l')).length:=(List.getElem?_eq_some_iff.1 (poolsI_get hvk hB)).1
      obtain ⟨ak,mk,ck,rfl,hmk,hmck, -⟩:=hw.own_shape (i:=2) rfl
      simp only [List.length_map] at hmk
      have hisz:(i:Int) * (sz:Int)≤m.Size:=by
        have h1:i * sz≤q * sz:=Nat.mul_le_mul_right _ (by omega)
        have h2:((i * sz:Nat):Int)=(i:Int) * sz:=by push_cast;rfl
        rw [Nat.mul_comm q sz] at h1
        omega
      have hisz0:0≤(i:Int) * (sz:Int):=Int.mul_nonneg (by omega) (by omega)
      have hbase:=he.base
      have hfin:=he.fin
      have hrr:IntKind.i64.wrap (IntKind.u64.wrap (m.Base+IntKind.u64.wrap ((i:Int) * IntKind.u64.wrap (m.Size.tdiv (q:Int)))))=m.Base+i * (sz:Int):=by
        rw [hszq,hu64 _ hisz0 (by omega),hu64 _ (by omega) (by omega),wrap_i64 (by omega) (by omega)]
      obtain ⟨rr,hr1⟩:∃ rr:RangeT,rr=⟨IntKind.i64.wrap (IntKind.u64.wrap (m.Base+IntKind.u64.wrap ((i:Int) * IntKind.u64.wrap (m.Size.tdiv (q:Int))))),(sz.log2:Nat)⟩:=⟨_,rfl⟩
      have hr2:rr=⟨m.Base+i * (sz:Int),(sz.log2:Nat)⟩:=by rw [hr1,hrr]
      rw [← hr2] at hbl
      haveI htz2:PG Tryz.prog Γ9 47 [.int .u64 (IntKind.u64.wrap (m.Size.tdiv (q:Int)))] (.int .i64 ((sz.log2:Nat):Int)):=by rw [hszq];exact htz
      refine W_mix2 [.blk b13 (.cells (enc m).toArray 61)] _ [[],[],[],[],[],[],[],[],[],[],[],[],[],[],[],[],[],[],[],[],[],[],[],[1],[0],[],[],[0]] [[],[],[],[],[],[],[0],[],[],[],[],[],[],[],[],[],[],[],[],[],[],[],[],[1],[0,1],[],[],[0]] [[155],[154]] hw ?_
      repeat (first | refine mY ?_ | refine mP ?_ | refine mPg ?_)
      refine mY (v:=.pointer (some ⟨aB (some a9),aO (some a9)+k * 2,none⟩)) ?_ (hy:=fun Y w g hw=>y_indexAddr (i:=(k:Int)) rfl rfl (by omega) (by omega) ha9)
      repeat (first | refine mY ?_ | refine mP ?_ | refine mPg ?_)
      refine mY (v:=.slice ak mk ck) ?_ (hy:=fun Y w g hw=>y_loadEf rfl (hw.own_rd (i:=1) rfl) (poolsR_get hc hvk) rfl)
      repeat (first | refine mY ?_ | refine mP ?_ | refine mPg ?_)
      refine mY (v:=.agg (enc rr).toArray) ?_ (hy:=fun Y w g hw=>by rw [hr1];exact y_build rfl)
      refine mBuild [enc rr] ?_
      refine mApp (j:=1) ?_
      refine mY (v:=.pointer (some ⟨aB (some a9),aO (some a9)+k * 2,none⟩)) ?_ (hy:=fun Y w g hw=>y_indexAddr (i:=(k:Int)) rfl rfl (by omega) (by omega) ha9)
      repeat (first | refine mY ?_ | refine mP ?_ | refine mPg ?_)
      refine mS (c:=0) (v:=undef) (F:=fun g=>.own (.slice (some a9) n n) 66 2 (poolsR cs vs)::.own (g 155) 68 2 (bk.map enc++[enc rr])::.blk b2 (hwC H a1 n1 c1 a2 n2 c2 a3 n3 c3 a4 n4 c4 a5 n5 c5)::.own (.slice a16 n16 c16) 3 1 (intRows ((nearL (dstF H) cs m).map fun x:Nat=>(x:Int)))::(inn 68 2 ((poolsI vs (bls n l')).eraseIdx k)++S))
        (fun g=>.own (.slice (some a9) n n) 66 2 ((poolsR cs vs).set k [.int .i64 c.ID,g 155])::.own (g 155) 68 2 (bk.map enc++[enc rr])::.blk b2 (hwC H a1 n1 c1 a2 n2 c2 a3 n3 c3 a4 n4 c4 a5 n5 c5)::.own (.slice a16 n16 c16) 3 1 (intRows ((nearL (dstF H) cs m).map fun x:Nat=>(x:Int)))::(inn 68 2 ((poolsI vs (bls n l')).eraseIdx k)++S)) (fun g w Y hw=>?_) ?_ (hM:=rfl)
      · obtain ⟨a',n',c',hg, -, -, -⟩:=hw.own_shape (i:=1) rfl
        have hg:g 155=.slice a' n' c':=hg
        exact s_storeEf (E:=66) (k:=k) (f:=1) (m:=1) (i:=0) (n:=n) (c:=n) (row:=[.int .i64 c.ID,.slice ak mk ck]) (r:=[g 155]) (TSz.h (P:=Tryz.prog) (T:=64)) hw rfl rfl (by show (g 155).cells.toList=[g 155];rw [hg];rfl) rfl (by rw [hg];rfl) rfl hkn (poolsR_get hc hvk) (by decide) (fun w' hw'=>⟨fun _=>rfl,hw'⟩)
      refine mEnd fun w g hw=>?_
      have hw:=Wd.dropEnd hw
      have hw:Wd Γ9 ([.blk b13 (.cells (enc m).toArray 61)]++(.own (.slice (some a9) n n) 66 2 ((poolsR cs vs).set k [.int .i64 c.ID,g 155])::.own (g 155) 68 2 (bk.map enc++[enc rr])::.blk b2 (hwC H a1 n1 c1 a2 n2 c2 a3 n3 c3 a4 n4 c4 a5 n5 c5)::.own (.slice a16 n16 c16) 3 1 (intRows ((nearL (dstF H) cs m).map fun x:Nat=>(x:Int)))::(inn 68 2 ((poolsI vs (bls n l')).eraseIdx k)++S))) w:=hw
      rw [poolsR_set hc,show bk.map enc++[enc rr]=(bk++[rr]).map enc by simp] at hw
      have hw:=inn_closeA (A:=[.own (.slice a16 n16 c16) 3 1 (intRows ((nearL (dstF H) cs m).map fun x:Nat=>(x:Int))),.blk b13 (.cells (enc m).toArray 61),.blk b2 (hwC H a1 n1 c1 a2 n2 c2 a3 n3 c3 a4 n4 c4 a5 n5 c5),.own (.slice (some a9) n n) 66 2 (poolsR cs (vs.set k (g 155)))]) (q:=(g 155,(bk++[rr]).map enc)) hpl (hw.ps [1,3,2,4,4])
      rw [poolsI_set,hbl] at hw
      repeat (first | refine byW ?_ | (refine byV ?_;intro w hw))
      exact ⟨μ2 - 1,by omega,i+1,vs.set k (g 155),by omega,by simpa using hvs,⟨rfl,rfl,rfl,rfl,rfl,rfl,rfl,rfl,rfl,by show Value.int .u64 (IntKind.u64.wrap ((i:Int)+1))=_;rw [hu64 _ (by omega) (by omega)];rfl,trivial⟩,hw⟩
    have hin:q=i:=by have:=of_decide_eq_false h;omega
    subst hin
    clear h hi
    rw [List.take_of_length_le (by rw [hblk];simp),← hl'] at hw
    have hw:Wd Γ9 (.own (.slice (some a9) n n) 66 2 (poolsR cs vs)::.blk b2 (hwC H a1 n1 c1 a2 n2 c2 a3 n3 c3 a4 n4 c4 a5 n5 c5)::(inn 68 2 (poolsI vs (bls n ((X.take (j+1)).flatMap (blkOf (dstF H) cs))))++S)) w:=(hw.ds [0,0]).ps [1]
    repeat (first | refine byW ?_ | (refine byV ?_;intro w hw))
    exact ⟨m4' - j - 1,by omega,j+1,vs,by omega,hvs,⟨rfl,rfl,rfl,rfl,rfl,rfl,trivial⟩,hw⟩
  have hjn:j=m4':=by have:=of_decide_eq_false h;omega
  clear h
  rw [hjn,List.take_of_length_le (by omega)] at hw
  repeat (first | refine byW ?_ | (refine byV ?_;intro w hw))
  have hw:Wd Γ9 (.own (.slice (some a9) n n) 66 2 (poolsR cs vs)::(inn 68 2 (poolsI vs (bls n (X.flatMap (blkOf (dstF H) cs))))++S)) w:=hw.dropAt 1
  exact ⟨_,rfl,Γ9,_,hle,rfl,.inr ⟨rfl,n,a9,vs,_,rfl,hcl.symm,hvs,ref_sorted hv hpow hnp hnb n,hw⟩⟩
end Go.Proofs.YthgighljhoneeaaGreatDoor
end
section
open Go Mk
namespace Go.Proofs.YthgighljhoneeaaGreatDoor
set_option maxHeartbeats 64000000
attribute [local irreducible] Calls
attribute [local irreducible] matL
theorem intPost_ex (H:HwT) (L:List Int) (per:Int):∃ (rs:List (Int × Int)) (tot code:Int),IntPost H L per rs tot code:=by
 unfold IntPost
 by_cases h1:(liveS H L).2≠0
 ·exact ⟨[],0,(liveS H L).2,by rw [if_pos h1];exact ⟨rfl,rfl,rfl⟩⟩
 ·simp only [if_neg h1]
  obtain ⟨hv,hknown, -, -,hl1⟩:=liveS_zero (Decidable.of_not_not h1)
  by_cases h2:per < 1∨256 < per
  ·exact ⟨[],0,6,by rw [if_pos h2];exact ⟨rfl,rfl,rfl⟩⟩
  ·simp only [if_neg h2]
   by_cases h3:per * (liveS H L).1.length < H.Devs.length
   ·exact ⟨[],0,64,by rw [if_pos h3];exact ⟨rfl,rfl,rfl⟩⟩
   ·simp only [if_neg h3]
    have hcm:∀ c∈(liveS H L).1,c∈H.Cores:=fun c hc=>by
     rw [hl1] at hc
     obtain ⟨id,hid,rfl⟩:=List.mem_map.1 hc
     exact (findC_in (hknown id ((sortZ_perm L).mem_iff.1 hid))).1
    have hyp:(normS H).Devs.Perm H.Devs:=(isort_spec cDev_lt3 _).1
    have hys:(normS H).Devs.Pairwise fun a b=>a.IRQ≤b.IRQ:=(isort_spec cDev_lt3 H.Devs).2.imp fun {a b} h=>by rw [lt_DevT] at h;have:=of_decide_eq_false h;omega
    generalize (normS H).Devs=ys at *
    generalize (liveS H L).1=cs at *
    obtain ⟨cap,rfl⟩:∃ cap:Nat,per=cap:=⟨per.toNat,by omega⟩
    have hAl:(costsA H cs ys).length=ys.length:=by unfold costsA;rw [List.length_map]
    have hCM:CostM cs.length (costsA H cs ys):=costsA_ok hv hcm (fun d hd=>hyp.mem_iff.1 hd)
    have hroom:ys.length≤cs.length * cap:=by
     rw [Nat.mul_comm,hyp.length_eq]
     have h5:((cap * cs.length:Nat):Int)=(cap:Int) * (cs.length:Int):=by push_cast;rfl
     omega
    obtain ⟨y,hyl,hyF⟩:=full_ex (n:=cs.length) (cap:=cap) ys.length hroom
    obtain ⟨x,hx,hb, -⟩:=tryL_best (a:=aF (costsA H cs ys)) (fun i c hc=>by
     by_cases hi:i < (costsA H cs ys).length
     ·obtain ⟨r, -, -,h2⟩:=hCM.get hi
      exact (h2 c hc).2.1
     ·unfold aF
      rw [List.getD_eq_getElem?_getD (l:=costsA H cs ys),List.getElem?_eq_none (by omega)]
      exact Int.le_refl _) hyF hyl
    exact ⟨_,_,_,ys,x,hyp,hys,hx,hb,rfl,rfl,rfl⟩
section
variable {P:Program} {n:Nat} {ops:List Oper} {Γ:Gho} {K:List Res} {Q:Fr→World→Prop} {ρ:Fr} {rest:List Oper} {wr tc stab:List (List Nat)} {i:Nat} {M:Nat→Fr→List Res} {o:Oper} {v:Value}
theorem mM3 {c c2 c3:Nat} (m m2 m3:Fr→List Res) (hs:∀ Y w g,Wd Γ (K++(cellsAt tc stab i M g++Y)) w→Step P o (ovr stab.flatten g ρ) w fun u w'=>Wd Γ (K++(cellsAt tc stab i (setC (setC (setC M c m) c2 m2) c3 m3) (putO g o.dst u)++Y)) w'∧(freeD stab o.dst=false→u=v))
  (h:MSw (mV P n ops Γ K wr tc stab) Q (i+1) rest ⟨putO ρ o.dst v,setC (setC (setC M c m) c2 m2) c3 m3⟩) (hw0:wr.getD i []=[c,c2,c3]) (hg:o.guard=none):MSw (mV P n ops Γ K wr tc stab) Q i (o::rest) ⟨ρ,M⟩:=by
 have hn:Mt.nxt (mV P n ops Γ K wr tc stab) i ⟨ρ,M⟩ ⟨v,setC (setC (setC M c m) c2 m2) c3 m3⟩=setC (setC (setC M c m) c2 m2) c3 m3:=by
  funext y
  simp only [Mt.nxt,MEnv.w,hw0]
  unfold setC
  by_cases h1:y=c <;> by_cases h2:y=c2 <;> by_cases h3:y=c3 <;> simp [h1,h2,h3]
 refine ⟨⟨v,setC (setC (setC M c m) c2 m2) c3 m3⟩,⟨fun Γ' Y w g hr hw=>?_⟩,?_⟩
 ·have hΓ:Γ'=Γ:=hr
  subst hΓ
  rw [hn]
  refine ⟨fun _=>(hs Y w g hw).mono fun u w' ⟨h1,h2⟩=>⟨Γ',rfl,h1,h2⟩,fun hf=>?_⟩
  rw [wantF_none hg] at hf;cases hf
 ·simp only [Mt.next,hn];exact h
end
theorem perm3 {A B C K Y:List Res}:(A++(B++(C++(K++Y)))).Perm (K++((A++(B++(C++[])))++Y)):=by
 simp only [List.append_nil,List.append_assoc]
 exact (List.Perm.append_left A (List.Perm.append_left B (List.perm_append_comm_assoc C K Y))).trans ((List.Perm.append_left A (List.perm_append_comm_assoc B K _)).trans (List.perm_append_comm_assoc A K _))
theorem perm1 {B K Y:List Res}:(K++((B++[])++Y)).Perm (B++(K++Y)):=by
 rw [List.append_nil];exact List.perm_append_comm_assoc _ _ _
theorem perm4 {A B X K:List Res}:(X++(A++(B++K))).Perm (A++(B++(K++X))):=(List.perm_append_comm_assoc X A _).trans (List.Perm.append_left A ((List.perm_append_comm_assoc X B K).trans (List.Perm.append_left B List.perm_append_comm)))
theorem perm6 {A B C K Y:List Res}:(C++(B++(([]++([]++(K++Y)))++A))).Perm (K++((A++(B++(C++[])))++Y)):=by
 have h:(C++(B++(([]++([]++(K++Y)))++A))).Perm (A++(B++(C++(K++Y)))):=by
  simp only [List.nil_append]
  refine (List.perm_append_comm_assoc C B _).trans ?_
  refine (List.Perm.append_left B ((List.Perm.append_left C List.perm_append_comm).trans (List.perm_append_comm_assoc C A _))).trans ?_
  exact List.perm_append_comm_assoc B A _
 exact h.trans perm3
theorem samePools_nil {Γ:Gho}:PG Tryz.prog Γ 15 [.slice none 0 0,.slice none 0 0] (.bool true):=⟨fun S w hw=>by
 refine calls_of_W Tryz.func15 rfl rfl ?_
 repeat (first | refine byW ?_ | (refine byV ?_;intro w hw))
 refine W_cond_false rfl ?_
 repeat (first | refine byW ?_ | (refine byV ?_;intro w hw))
 refine W_loop (fun μ ρ w=>Has ρ [(0,.slice none 0 0),(1,.slice none 0 0),(5,.int .i64 0)]∧Wd Γ S w) 0 ⟨⟨rfl,rfl,rfl,trivial⟩,hw⟩ ?_
 clear hw
 rintro μ ρ w ⟨hρ,hw⟩
 rw [hρ.eq]
 clear hρ
 repeat (first | refine byW ?_ | (refine byV ?_;intro w hw))
 refine W_cond_false rfl ?_
 repeat (first | refine byW ?_ | (refine byV ?_;intro w hw))
 exact ⟨_,rfl,rfl,hw⟩⟩
end Go.Proofs.YthgighljhoneeaaGreatDoor
end
section
open Go Mk
namespace Go.Proofs.YthgighljhoneeaaGreatDoor
set_option maxHeartbeats 64000000
attribute [local irreducible] Calls
attribute [local irreducible] matL
theorem rCost_pg {Γ:Gho} {u:Value} {H:HwT} [hh:HwR Γ u H] [hwd:WideH H] (id:Int) (s:ByteArray):PG Tryz.prog Γ 9 [u,.int .i64 id,.string s] (.tuple #[.int .i64 (costS H id s).1,.int .i64 (costS H id s).2]):=⟨fun S w hw=>by
 have hhw:=hh
 obtain ⟨a1,n1,c1,a2,n2,c2,a3,n3,c3,a4,n4,c4,a5,n5,c5,cs',rfl,hcs,hok,hsz,r1,r2,r3,r4,r5⟩:=hh.h
 obtain ⟨hn4,hm4,hx4⟩:=rep_facts r4
 simp only [List.length_map] at hn4
 refine calls_of_W Tryz.func9 rfl rfl ?_
 repeat (first | refine byW ?_ | (refine byV ?_;intro w hw))
 refine lBox ?_
 intro b3 w hw
 have hw:Wd Γ (.blk b3 (hwC H a1 n1 c1 a2 n2 c2 a3 n3 c3 a4 n4 c4 a5 n5 c5)::S) w:=hw
 repeat (first | refine byW ?_ | (refine byV ?_;intro w hw))
 refine W_cond rfl (fun h=>?_) (fun h=>?_)
 ·have h:validS H≠0:=of_decide_eq_true h
  repeat (first | refine byW ?_ | (refine byV ?_;intro w hw))
  exact ⟨_,rfl,by unfold costS;rw [if_pos h];rfl,hw.drop⟩
 have hv:validS H=0:=by
  by_cases e:validS H=0
  ·exact e
  ·exact absurd (decide_eq_true (show validS H≠0 from e)) (by simp [h])
 clear h
 have hv2:¬ validS H≠0:=fun e=>e hv
 haveI pm:PG Tryz.prog Γ 33 [.agg #[.string H.Name,.slice a1 n1 c1,.slice a2 n2 c2,.slice a3 n3 c3,.slice a4 n4 c4,.slice a5 n5 c5]] (.agg (matL (dstM H)).toArray):=⟨fun S w hw=>Matrix_any (hh:=hhw) hv hw⟩
 have key:(findC H.Cores id).2=false→costS H id s=(0,57):=fun e=>by unfold costS;rw [if_neg hv2,if_pos (.inl e)]
 have key2:(∀ y∈H.Mems,y.Name≠s)→costS H id s=(0,57):=fun e=>by
  unfold costS;rw [if_neg hv2,if_pos (.inr (by
   rcases memIx_cases H.Mems s with ⟨h3, -⟩ | ⟨k,x,h3,hx,hn, -⟩
   ·omega
   ·exact absurd hn (e x (List.mem_of_getElem? hx))))]
 repeat (first | refine byW ?_ | (refine byV ?_;intro w hw))
 refine W_loop (fun μ ρ w=>∃ (i:Nat),μ+i=n4∧(∀ j x,j < i→H.Mems[j]? = some x→x.Name=s→(findC H.Cores id).2=false)∧Has ρ [(1,.int .i64 id),(2,.string s),(3,.pointer (some ⟨b3,0,none⟩)),(9,.int .i64 i)]∧Wd Γ (.blk b3 (hwC H a1 n1 c1 a2 n2 c2 a3 n3 c3 a4 n4 c4 a5 n5 c5)::S) w) n4 ⟨0,by omega,fun j x h=>by omega,⟨rfl,rfl,rfl,rfl,trivial⟩,hw⟩ ?_
 clear hw
 rintro μ ρ w ⟨i,hμ,hb,hρ,hw⟩
 rw [hρ.eq]
 clear hρ
 repeat (first | refine byW ?_ | (refine byV ?_;intro w hw))
 refine W_cond rfl (fun h=>?_) (fun h=>?_)
 ·have hin:i < n4:=by have:=of_decide_eq_true h;omega
  clear h
  obtain ⟨x,hx⟩:=get_lt (l:=H.Mems) (k:=i) (by omega)
  repeat (first | refine byW ?_ | (refine byV ?_;intro w hw))
  refine W_cond rfl (fun h=>?_) (fun h=>?_)
  ·have h:decide (x.Name=s)=true∧decide (0≤coreAt H.Cores id)=true:=by simpa using h
   have h1:x.Name=s:=of_decide_eq_true h.1
   have h2:0≤coreAt H.Cores id:=of_decide_eq_true h.2
   have hf:(findC H.Cores id).2=true:=by
    cases hq:(findC H.Cores id).2 with
    | true=>rfl
    | false=>exact absurd (coreAt_neg2.2 hq) (by omega)
   obtain ⟨c,hcE⟩:∃ c,c=(findC H.Cores id).1:=⟨_,rfl⟩
   have hfc:findC H.Cores id=(c,true):=Prod.ext hcE.symm hf
   haveI pc:=rcost_pg (hh:=hhw) hv hfc (List.mem_of_getElem? hx)
   have hcs:costS H id s=(costM (dstF H) c x,0):=by
    unfold costS
    rcases memIx_cases H.Mems s with ⟨h3,h4⟩ | ⟨k,y,h3,hy,hn,h5⟩
    ·exact absurd h1 (h4 x (List.mem_of_getElem? hx))
    ·have hki:k=i:=by
      rcases Nat.lt_trichotomy k i with e | e | e
      ·have:=hb k y e hy hn
       rw [hf] at this;cases this
      ·exact e
      ·exact absurd h1 (h5 i x e hx)
     subst hki
     rw [if_neg hv2,if_neg (by rw [hf,h3];simp),h3,hcE]
     simp [hx]
   repeat (first | refine byW ?_ | (refine byV ?_;intro w hw))
   refine W_quiet (by kernel_rfl) (by kernel_rfl) hw ?_
   repeat (first | refine Q_nil ?_ | (apply Q_plain;first | (apply Q_go;first | refine qP ?_ | refine qPg ?_) | refine qY ?_) | (apply Q_guarded;first | (apply Q_go;first | refine qPG ?_ | refine qPgG ?_) | refine qG ?_))
   intro w hw
   repeat (first | refine byW ?_ | (refine byV ?_;intro w hw))
   exact ⟨_,rfl,by rw [hcs];rfl,hw.drop⟩
  ·have h:¬ (x.Name=s∧0≤coreAt H.Cores id):=fun ⟨e1,e2⟩=>by
    simp [e1,e2] at h
   repeat (first | refine byW ?_ | (refine byV ?_;intro w hw))
   refine ⟨n4 - i - 1,by omega,i+1,by omega,fun j y hj hy hn=>?_,⟨rfl,rfl,rfl,rfl,trivial⟩,hw⟩
   by_cases e:j=i
   ·subst e
    obtain rfl:x=y:=by rw [hx] at hy;exact Option.some.inj hy
    exact coreAt_neg2.1 (by
     by_cases e2:0≤coreAt H.Cores id
     ·exact absurd ⟨hn,e2⟩ h
     ·omega)
   ·exact hb j y (by omega) hy hn
 have hin:n4≤i:=by have:=of_decide_eq_false h;omega
 clear h
 have hcs:costS H id s=(0,57):=by
  by_cases e:∀ y∈H.Mems,y.Name≠s
  ·exact key2 e
  ·obtain ⟨y,hy⟩:=Classical.not_forall.1 e
   obtain ⟨hy,hn⟩:=Classical.not_imp.1 hy
   obtain ⟨j,hj⟩:=List.getElem?_of_mem hy
   have:=(List.getElem?_eq_some_iff.1 hj).1
   exact key (hb j y (by omega) hj (Decidable.of_not_not hn))
 repeat (first | refine byW ?_ | (refine byV ?_;intro w hw))
 exact ⟨_,rfl,by rw [hcs];rfl,hw.drop⟩⟩
end Go.Proofs.YthgighljhoneeaaGreatDoor
end
section
open Go Mk
namespace Go.Proofs.YthgighljhoneeaaGreatDoor
set_option maxHeartbeats 16000000
attribute [local irreducible] Calls
structure HwSm (H:HwT):Prop where
 n:H.Name.size≤60
 c:H.Cores.length≤40
 h:H.Caches.length≤70
 l:H.Links.length≤260
 m:H.Mems.length≤70
 d:H.Devs.length≤40
 hs:∀ x∈H.Caches,x.Name.size≤60∧x.Cores.length≤40
 ms:∀ x∈H.Mems,x.Name.size≤60
 ds:∀ x∈H.Devs,x.Name.size≤60
theorem drop_get {α:Type} {l:List α} {k:Nat} {x:α} (h:l[k]? = some x):l.drop k=x::l.drop (k+1):=by
 obtain ⟨hk,rfl⟩:=List.getElem?_eq_some_iff.1 h
 exact List.drop_eq_getElem_cons hk
theorem all_drop {α:Type} {p:α→Bool} {l:List α} {k:Nat} {x:α} (h:l[k]? = some x):(l.drop k).all p=(p x && (l.drop (k+1)).all p):=by rw [drop_get h,List.all_cons]
theorem all_fin {α:Type} {p:α→Bool} {l:List α} {k:Nat} (h:l.length≤k):(l.drop k).all p=true:=by rw [List.drop_eq_nil_of_le h];rfl
def hsB (c:CacheT):Bool:=decide (c.Name.size≤60) && decide (c.Cores.length≤40)
def smallHB (H:HwT):Bool:=((((((decide (H.Name.size≤60) && decide (H.Cores.length≤40)) && decide (H.Caches.length≤70)) && decide (H.Links.length≤260)) && decide (H.Mems.length≤70)) && decide (H.Devs.length≤40))) && (H.Caches.all hsB && (H.Mems.all (fun x=>decide (x.Name.size≤60)) && H.Devs.all (fun x=>decide (x.Name.size≤60))))
theorem smallHB_iff {H:HwT}:smallHB H=true↔HwSm H:=by
 unfold smallHB hsB
 simp only [Bool.and_eq_true,List.all_eq_true,decide_eq_true_eq]
 exact ⟨fun ⟨⟨⟨⟨⟨⟨h1,h2⟩,h3⟩,h4⟩,h5⟩,h6⟩,h7,h8,h9⟩=>⟨h1,h2,h3,h4,h5,h6,h7,h8,h9⟩,fun h=>⟨⟨⟨⟨⟨⟨h.n,h.c⟩,h.h⟩,h.l⟩,h.m⟩,h.d⟩,h.hs,h.ms,h.ds⟩⟩
instance pg_Small {Γ:Gho} {u:Value} {H:HwT} [hh:HwQ Γ u H]:PG Tryz.prog Γ 5 [u] (.bool (smallHB H)):=⟨fun S w hw=>by
  obtain ⟨a1,n1,c1,a2,n2,c2,a3,n3,c3,a4,n4,c4,a5,n5,c5,cs,rfl,hcs,hok,r1,r2,r3,r4,r5⟩:=hh.h
  obtain ⟨f1, -, -⟩:=rep_facts r1
  obtain ⟨f2, -, -⟩:=rep_facts r2
  obtain ⟨f3, -, -⟩:=rep_facts r3
  obtain ⟨f4, -, -⟩:=rep_facts r4
  obtain ⟨f5, -, -⟩:=rep_facts r5
  simp only [List.length_map] at f1 f2 f3 f4 f5
  have hcl:cs.length=H.Caches.length:=by rw [← hcs,List.length_map]
  refine calls_of_W Tryz.func5 rfl rfl ?_
  repeat (first | refine byW ?_ | (refine byV ?_;intro w hw))
  refine lBox ?_
  intro b1 w hw
  have hw:Wd Γ (.blk b1 (hwC H a1 n1 c1 a2 n2 c2 a3 n3 c3 a4 n4 c4 a5 n5 c5)::S) w:=hw
  repeat (first | refine byW ?_ | (refine byV ?_;intro w hw))
  refine W_cond rfl (fun h=>?_) (fun h=>?_)
  · have h:(((((decide ((60:Int) < (H.Name.size:Nat)) || decide ((40:Int) < (n1:Nat))) || decide ((70:Int) < (n2:Nat))) || decide ((260:Int) < (n3:Nat))) || decide ((70:Int) < (n4:Nat))) || decide ((40:Int) < (n5:Nat)))=true:=h
    repeat (first | refine byW ?_ | (refine byV ?_;intro w hw))
    refine ⟨_,rfl,ret_b rfl ?_,hw.drop⟩
    symm
    rw [Bool.eq_false_iff]
    intro q
    have q:=smallHB_iff.1 q
    have q1:=q.n
    have q2:=q.c
    have q3:=q.h
    have q4:=q.l
    have q5:=q.m
    have q6:=q.d
    simp only [Bool.or_eq_true,decide_eq_true_eq] at h
    omega
  have h:(((((decide ((60:Int) < (H.Name.size:Nat)) || decide ((40:Int) < (n1:Nat))) || decide ((70:Int) < (n2:Nat))) || decide ((260:Int) < (n3:Nat))) || decide ((70:Int) < (n4:Nat))) || decide ((40:Int) < (n5:Nat)))=false:=h
  simp only [Bool.or_eq_false_iff,decide_eq_false_iff_not] at h
  have hB:smallHB H=(H.Caches.all hsB && (H.Mems.all (fun x=>decide (x.Name.size≤60)) && H.Devs.all (fun x=>decide (x.Name.size≤60)))):=by
    unfold smallHB
    rw [decide_eq_true (show H.Name.size≤60 by omega),decide_eq_true (show H.Cores.length≤40 by omega),decide_eq_true (show H.Caches.length≤70 by omega),decide_eq_true (show H.Links.length≤260 by omega),decide_eq_true (show H.Mems.length≤70 by omega),decide_eq_true (show H.Devs.length≤40 by omega)];rfl
  rw [hB]
  clear hB
  repeat (first | refine byW ?_ | (refine byV ?_;intro w hw))
  refine W_loop (fun μ ρ w=>∃ (k:Nat),μ+k=n2∧Has ρ [(1,.pointer (some ⟨b1,0,none⟩)),(3,.int .i64 k)]∧H.Caches.all hsB=(H.Caches.drop k).all hsB∧Wd Γ (.blk b1 (hwC H a1 n1 c1 a2 n2 c2 a3 n3 c3 a4 n4 c4 a5 n5 c5)::S) w) n2 ⟨0,by omega,⟨rfl,rfl,trivial⟩,rfl,hw⟩ ?_
  clear hw
  rintro μ ρ w ⟨k,hk,hρ,hal,hw⟩
  rw [hρ.eq]
  repeat (first | refine byW ?_ | (refine byV ?_;intro w hw))
  refine W_cond rfl (fun h=>?_) (fun h=>?_)
  · have hkn:k < n2:=by have:=of_decide_eq_true h;omega
    obtain ⟨x,hx⟩:=get_lt (l:=cs) (k:=k) (by omega)
    obtain ⟨g1,g2,g3⟩:=(hok x (List.mem_of_getElem? hx)).facts
    have hxT:H.Caches[k]? = some x.T:=by rw [← hcs,List.getElem?_map,hx];rfl
    rw [all_drop hxT] at hal
    have hS:hsB x.T=(decide (x.Name.size≤60) && decide (x.Cores.length≤40)):=rfl
    cases hb1:decide ((x.Name.size:Int) > 60) with
    | true=>
      have h:¬ x.Name.size≤60:=by have:=of_decide_eq_true hb1;omega
      repeat (first | (first | refine W_seq ?_ | refine W_block ?_ | refine W_region ?_ | refine W_skip ?_ | refine W_ret ?_ | refine W_exit ?_) | ((first | apply L_bin | apply L_notop);first | (refine lT ?_ ?_;(first | exact hb1 | exact hb2 | exact hb3 | exact hb4)) | (refine lF ?_ ?_;(first | exact hb1 | exact hb2 | exact hb3 | exact hb4))) | (first | refine L_nil ?_ | (apply L_plain;first | (apply L_go;first | refine lP ?_ | (refine lPg ?_;intro w hw)) | (apply L_mf;refine lMakeFunc ?_) | refine lY ?_) | (apply L_guarded;first | refine lGT ?_ (hct:=rfl) | refine lGF ?_ (hct:=rfl) | (apply L_go;first | refine lPG ?_ | (refine lPgG ?_;intro w hw)) | refine lG ?_)) | (refine lAlloc ?_;intro _ w hw) | (refine lBox ?_;intro _ w hw) | (refine lStore ?_;intro w hw))
      refine W_cond_true rfl ?_
      repeat (first | refine byW ?_ | (refine byV ?_;intro w hw))
      refine ⟨_,rfl,ret_b rfl ?_,hw.drop⟩
      rw [hal,hS,decide_eq_false h];rfl
    | false=>
      have h:x.Name.size≤60:=by have:=of_decide_eq_false hb1;omega
      cases hb2:decide ((x.N:Int) > 40) with
      | true=>
        have h2:¬ x.Cores.length≤40:=by have:=of_decide_eq_true hb2;omega
        repeat (first | (first | refine W_seq ?_ | refine W_block ?_ | refine W_region ?_ | refine W_skip ?_ | refine W_ret ?_ | refine W_exit ?_) | ((first | apply L_bin | apply L_notop);first | (refine lT ?_ ?_;(first | exact hb1 | exact hb2 | exact hb3 | exact hb4)) | (refine lF ?_ ?_;(first | exact hb1 | exact hb2 | exact hb3 | exact hb4))) | (first | refine L_nil ?_ | (apply L_plain;first | (apply L_go;first | refine lP ?_ | (refine lPg ?_;intro w hw)) | (apply L_mf;refine lMakeFunc ?_) | refine lY ?_) | (apply L_guarded;first | refine lGT ?_ (hct:=rfl) | refine lGF ?_ (hct:=rfl) | (apply L_go;first | refine lPG ?_ | (refine lPgG ?_;intro w hw)) | refine lG ?_)) | (refine lAlloc ?_;intro _ w hw) | (refine lBox ?_;intro _ w hw) | (refine lStore ?_;intro w hw))
        refine W_cond_true rfl ?_
        repeat (first | refine byW ?_ | (refine byV ?_;intro w hw))
        refine ⟨_,rfl,ret_b rfl ?_,hw.drop⟩
        rw [hal,hS,decide_eq_true h,decide_eq_false h2];rfl
      | false=>
        have h2:x.Cores.length≤40:=by have:=of_decide_eq_false hb2;omega
        rw [hS,decide_eq_true h,decide_eq_true h2] at hal
        repeat (first | (first | refine W_seq ?_ | refine W_block ?_ | refine W_region ?_ | refine W_skip ?_ | refine W_ret ?_ | refine W_exit ?_) | ((first | apply L_bin | apply L_notop);first | (refine lT ?_ ?_;(first | exact hb1 | exact hb2 | exact hb3 | exact hb4)) | (refine lF ?_ ?_;(first | exact hb1 | exact hb2 | exact hb3 | exact hb4))) | (first | refine L_nil ?_ | (apply L_plain;first | (apply L_go;first | refine lP ?_ | (refine lPg ?_;intro w hw)) | (apply L_mf;refine lMakeFunc ?_) | refine lY ?_) | (apply L_guarded;first | refine lGT ?_ (hct:=rfl) | refine lGF ?_ (hct:=rfl) | (apply L_go;first | refine lPG ?_ | (refine lPgG ?_;intro w hw)) | refine lG ?_)) | (refine lAlloc ?_;intro _ w hw) | (refine lBox ?_;intro _ w hw) | (refine lStore ?_;intro w hw))
        refine W_cond_false rfl ?_
        repeat (first | refine byW ?_ | (refine byV ?_;intro w hw))
        exact ⟨μ - 1,by omega,k+1,by omega,⟨rfl,rfl,trivial⟩,hal,hw⟩
  have hkn:n2≤k:=by have:=of_decide_eq_false h;omega
  rw [all_fin (by omega)] at hal
  rw [hal,Bool.true_and]
  clear hk hρ
  repeat (first | refine byW ?_ | (refine byV ?_;intro w hw))
  refine W_loop (fun μ ρ w=>∃ (k:Nat),μ+k=n4∧Has ρ [(1,.pointer (some ⟨b1,0,none⟩)),(4,.int .i64 k)]∧H.Mems.all (fun x=>decide (x.Name.size≤60))=(H.Mems.drop k).all (fun x=>decide (x.Name.size≤60))∧Wd Γ (.blk b1 (hwC H a1 n1 c1 a2 n2 c2 a3 n3 c3 a4 n4 c4 a5 n5 c5)::S) w) n4 ⟨0,by omega,⟨rfl,rfl,trivial⟩,rfl,hw⟩ ?_
  clear hw hal
  rintro μ ρ w ⟨k,hk,hρ,hal,hw⟩
  rw [hρ.eq]
  repeat (first | refine byW ?_ | (refine byV ?_;intro w hw))
  refine W_cond rfl (fun h=>?_) (fun h=>?_)
  · have hkn:k < n4:=by have:=of_decide_eq_true h;omega
    obtain ⟨x,hx⟩:=get_lt (l:=H.Mems) (k:=k) (by omega)
    rw [all_drop hx] at hal
    repeat (first | refine byW ?_ | (refine byV ?_;intro w hw))
    refine W_cond rfl (fun h=>?_) (fun h=>?_)
    · have h:¬ x.Name.size≤60:=by have:=of_decide_eq_true h;omega
      repeat (first | refine byW ?_ | (refine byV ?_;intro w hw))
      refine ⟨_,rfl,ret_b rfl ?_,hw.drop⟩
      rw [hal,decide_eq_false h];rfl
    · have h:x.Name.size≤60:=by have:=of_decide_eq_false h;omega
      rw [decide_eq_true h,Bool.true_and] at hal
      repeat (first | refine byW ?_ | (refine byV ?_;intro w hw))
      exact ⟨μ - 1,by omega,k+1,by omega,⟨rfl,rfl,trivial⟩,hal,hw⟩
  have hkn:n4≤k:=by have:=of_decide_eq_false h;omega
  rw [all_fin (by omega)] at hal
  rw [hal,Bool.true_and]
  clear hk hρ
  repeat (first | refine byW ?_ | (refine byV ?_;intro w hw))
  refine W_loop (fun μ ρ w=>∃ (k:Nat),μ+k=n5∧Has ρ [(1,.pointer (some ⟨b1,0,none⟩)),(5,.int .i64 k)]∧H.Devs.all (fun x=>decide (x.Name.size≤60))=(H.Devs.drop k).all (fun x=>decide (x.Name.size≤60))∧Wd Γ (.blk b1 (hwC H a1 n1 c1 a2 n2 c2 a3 n3 c3 a4 n4 c4 a5 n5 c5)::S) w) n5 ⟨0,by omega,⟨rfl,rfl,trivial⟩,rfl,hw⟩ ?_
  clear hw hal
  rintro μ ρ w ⟨k,hk,hρ,hal,hw⟩
  rw [hρ.eq]
  repeat (first | refine byW ?_ | (refine byV ?_;intro w hw))
  refine W_cond rfl (fun h=>?_) (fun h=>?_)
  · have hkn:k < n5:=by have:=of_decide_eq_true h;omega
    obtain ⟨x,hx⟩:=get_lt (l:=H.Devs) (k:=k) (by omega)
    rw [all_drop hx] at hal
    repeat (first | refine byW ?_ | (refine byV ?_;intro w hw))
    refine W_cond rfl (fun h=>?_) (fun h=>?_)
    · have h:¬ x.Name.size≤60:=by have:=of_decide_eq_true h;omega
      repeat (first | refine byW ?_ | (refine byV ?_;intro w hw))
      refine ⟨_,rfl,ret_b rfl ?_,hw.drop⟩
      rw [hal,decide_eq_false h];rfl
    · have h:x.Name.size≤60:=by have:=of_decide_eq_false h;omega
      rw [decide_eq_true h,Bool.true_and] at hal
      repeat (first | refine byW ?_ | (refine byV ?_;intro w hw))
      exact ⟨μ - 1,by omega,k+1,by omega,⟨rfl,rfl,trivial⟩,hal,hw⟩
  have hkn:n5≤k:=by have:=of_decide_eq_false h;omega
  rw [all_fin (by omega)] at hal
  rw [hal]
  clear hk hρ
  repeat (first | refine byW ?_ | (refine byV ?_;intro w hw))
  exact ⟨_,rfl,rfl,hw.drop⟩⟩
end Go.Proofs.YthgighljhoneeaaGreatDoor
end
section
open Go Mk
namespace Go.Proofs.YthgighljhoneeaaGreatDoor
set_option maxHeartbeats 64000000
attribute [local irreducible] Calls
attribute [local irreducible] matL
abbrev PoT:=Value × List Value × List (List RangeT)
def PoolsPost (H:HwT) (L:List Int) (t:PoT):Prop:=
 ((liveS H L).2≠0∧t=(.slice none 0 0,[],[]))∨((liveS H L).2=0∧∃ (n:Nat) (a9:Addr),t.1=.slice (some a9) n n∧n=(liveS H L).1.length∧t.2.1.length=n∧Sorted n (H.Mems.flatMap (blkOf (dstF H) (liveS H L).1)) t.2.2)
noncomputable abbrev poRes (H:HwT) (L:List Int) (t:PoT):List Res:=.own t.1 66 2 (poolsR (liveS H L).1 t.2.1)::inn 68 2 (poolsI t.2.1 t.2.2)
theorem poRes_own {H:HwT} {L:List Int} {t:PoT}:∀ r∈poRes H L t,∃ v e sz rows,r=Res.own v e sz rows:=by
 intro r hr
 rcases List.mem_cons.1 hr with rfl | hr
 ·exact ⟨_,_,_,_,rfl⟩
 ·unfold inn at hr
  obtain ⟨p, -,rfl⟩:=List.mem_map.1 hr
  exact ⟨_,_,_,_,rfl⟩
theorem pools_fixO {Γ:Gho} [hBr:BrG Γ] {u:Value} {H:HwT} [hh:HwR Γ u H] (hwd:MemWide H) {S:List Res} {w:World} {v:Value} {L:List Int} {i:Nat} {e:TypeId} (hi:S[i]? = some (.own v e 1 (intRows L))) (hN:L.length≤1000) (hw:Wd Γ S w) :
  Calls Tryz.prog 12 #[u,v] w fun e w'=>∃ t,e=.returned (.tuple #[t.1,.int .i64 (liveS H L).2])∧PoolsPost H L t∧Wd Γ (poRes H L t++S) w':=by
 have hle:=hpG_le hw
 haveI:BrG (hpG Γ w):=hBr.mono hle
 refine (pools_core (Γ:=hpG Γ w) (hh:=hh.mono hle) hwd (S:=[]) (own_repG hw hi) hN (hpG_wd hw)).mono fun e w' hq=>?_
 obtain ⟨Γ',v',hle2,rfl,hq⟩:=hq
 rcases hq with ⟨h1,rfl,hw'⟩ | ⟨h1,n,a9,vs,B,rfl,h3,h4,h5,hw'⟩
 ·refine ⟨(.slice none 0 0,[],[]),rfl,.inl ⟨h1,rfl⟩,wd_keptG hw hle2 (owns_noimm poRes_own) ?_⟩
  have hw2:Wd Γ' (.own (.slice none 0 0) 66 2 []::[]) w':=Wd.addNil hw'
  simpa [poRes,poolsR,poolsI,inn] using hw2
 ·refine ⟨(.slice (some a9) n n,vs,B),rfl,.inr ⟨h1,n,a9,rfl,h3,h4,h5⟩,wd_keptG hw hle2 (owns_noimm poRes_own) ?_⟩
  rw [List.append_nil] at hw'
  exact hw'
theorem int_fixO {Γ:Gho} {u:Value} {H:HwT} [hh:HwR Γ u H] {S:List Res} {w:World} {v:Value} {L:List Int} {per tot code:Int} {rs:List (Int × Int)} {i:Nat} {e:TypeId} (hip:IntPost H L per rs tot code) (hi:S[i]? = some (.own v e 1 (intRows L))) (hN:L.length≤1000) (hLen:(liveS H L).1.length≤64) (hDev:H.Devs.length≤1000) (hcsub:∀ c∈(liveS H L).1,c∈H.Cores) (hw:Wd Γ S w) :
  Calls Tryz.prog 17 #[u,v,.int .i64 per] w fun e w'=>∃ v',e=.returned (.tuple #[v',.int .i64 tot,.int .i64 code])∧Wd Γ (.own v' 107 2 (rs.map prI)::S) w':=by
 have hle:=hpG_le hw
 refine (interruptsW (Γ:=hpG Γ w) (hh:=hh.mono hle) (S:=[]) (own_repG hw hi) hN hLen hDev hcsub (hpG_wd hw)).mono fun e w' hq=>?_
 obtain ⟨Γ',v',rs',tot',code',hle2,rfl,hp,hw'⟩:=hq
 obtain ⟨rfl,rfl,rfl⟩:=intPost_uniq hip hp
 exact ⟨v',rfl,wd_keptG hw hle2 (owns_noimm (by intro r hr;rw [List.mem_singleton.1 hr];exact ⟨_,_,_,_,rfl⟩)) hw'⟩
theorem hw_outM {Γ:Gho} {S:List Res} {w:World} {u:Value} {H:HwT} (hw:Wd Γ (Res.hw u H::S) w):∃ Γ',Γ.le Γ'∧HwOut Γ' H S u w:=by
 obtain ⟨⟨p,hp1,hp2⟩,hwa⟩:=Wd.openEx hw
 have hwb:Wd Γ (([.own p.v1 54 4 (H.Cores.map enc),.own p.v2 59 5 (p.cs.map cC),.own p.v3 98 3 (H.Links.map enc),.own p.v4 61 5 (H.Mems.map enc),.own p.v5 63 5 (H.Devs.map enc)]++p.cs.map ownC)++S) w:=hwa
 rw [List.append_assoc] at hwb
 obtain ⟨Γ1,hle,hok,hw⟩:=freezeC hwb.swapApp
 exact ⟨Γ1,hle,_,_,_,_,_,p.cs,hp2,hok,hp1,hw⟩
theorem small_len {H:HwT} (h:HwSm H):HwLen H:=⟨by have:=h.c;omega,by have:=h.h;omega,by have:=h.l;omega,by have:=h.m;omega,by have:=h.d;omega,fun x hx=>by have:=(h.hs x hx).2;omega⟩
theorem small_le {H:HwT} (h:HwSm H):HwLe H:=⟨by have:=h.c;omega,by have:=h.h;omega,by have:=h.l;omega,by have:=h.m;omega,by have:=h.d;omega,fun x hx=>by have:=(h.hs x hx).2;omega⟩
end Go.Proofs.YthgighljhoneeaaGreatDoor
end
section
open Go Mk
namespace Go.Proofs.YthgighljhoneeaaGreatDoor
set_option maxHeartbeats 64000000
attribute [local irreducible] Calls
attribute [local irreducible] matL
theorem live_sub {H:HwT} {L:List Int}:(liveS H L).1.length≤L.length∧∀ c∈(liveS H L).1,c∈H.Cores:=by
 by_cases e:(liveS H L).2=0
 ·obtain ⟨-,h2, -, -,h5⟩:=liveS_zero e
  rw [h5]
  refine ⟨by rw [List.length_map,(sortZ_perm L).length_eq];exact Nat.le_refl _,fun c hc=>?_⟩
  obtain ⟨x,hx,rfl⟩:=List.mem_map.1 hc
  exact (findC_in (h2 x ((sortZ_perm L).mem_iff.1 hx))).1
 ·have:(liveS H L).1=[]:=by
   unfold liveS at e ⊢
   split
   ·rfl
   ·split
    ·rfl
    ·split
     ·rfl
     ·split
      ·rfl
      ·rename_i q1 q2 q3 q4
       rw [if_neg q1,if_neg q2,if_neg q3,if_neg q4] at e
       exact absurd rfl e
  rw [this]
  exact ⟨Nat.zero_le _,fun c hc=>by cases hc⟩
set_option maxRecDepth 8000 in
theorem AffinityExact_any {Γ : Gho} [hBr : BrG Γ] {S : List Res} {w : World} {u : Value} {H : HwT} [hh : HwR Γ u H] [hwd : WideH H] (hsz : HwSz H) {id cap : Int} {s : ByteArray} {v : Value} {L : List Int} (hr : RepS Γ v 1 (intRows L)) (hw : Wd Γ S w) :
    Calls Tryz.prog 3 #[u,.int .i64 id,.string s,v,.int .i64 cap] w fun e w'=>∃ Γ',Γ.le Γ'∧e=.returned (.bool true)∧Wd Γ' S w':=by
  have hhw:=hh
  obtain ⟨a1,n1,c1,a2,n2,c2,a3,n3,c3,a4,n4,c4,a5,n5,c5,cs',rfl,hcs,hok,hsz,r1,r2,r3,r4,r5⟩:=hh.h
  obtain ⟨al,nl,cl,rfl,hnl,hncl,hccl⟩:=hr.shape
  have hnl:nl=L.length:=by simpa [intRows] using hnl
  obtain ⟨hn5,hnc5,hcc5⟩:=rep_facts r5
  simp only [List.length_map] at hn5
  refine calls_of_W Tryz.func3 rfl rfl ?_
  repeat (first | refine byW ?_ | (refine byV ?_;intro w hw))
  refine lBox ?_
  intro b5 w hw
  have hw:Wd Γ (.blk b5 (hwC H a1 n1 c1 a2 n2 c2 a3 n3 c3 a4 n4 c4 a5 n5 c5)::S) w:=hw
  repeat (first | refine byW ?_ | (refine byV ?_;intro w hw))
  refine W_cond rfl (fun h=>?_) (fun h=>?_)
  · repeat (first | refine byW ?_ | (refine byV ?_;intro w hw))
    exact ⟨_,rfl,Γ,.refl _,rfl,hw.drop⟩
  have hsm:HwSm H∧nl≤40:=by
    have h2:smallHB H=true∧nl≤40:=by
      cases q:smallHB H with
      | false=>simp [q] at h
      | true=>
        simp [q] at h
        exact ⟨rfl,by omega⟩
    exact ⟨smallHB_iff.1 h2.1,h2.2⟩
  clear h
  obtain ⟨hsm,hl40⟩:=hsm
  have hLe:=small_le hsm
  have hm70:=hsm.m
  have hd40:=hsm.d
  repeat (first | refine byW ?_ | (refine byV ?_;intro w hw))
  refine lCall ((Copy_any (hh:=hhw) (small_len hsm) hw).mono fun e w hq=>?_)
  clear hw
  obtain ⟨u',rfl,hw⟩:=hq
  refine ⟨_,rfl,?_⟩
  obtain ⟨Γ1,hle1,ho⟩:=hw_outM hw
  clear hw
  obtain ⟨Γ2,hle2,hC,hw⟩:=ho.freeze hsz
  clear ho
  have hle:=hle1.trans hle2
  have hR2:=hhw.mono hle
  haveI hBr2:BrG Γ2:=hBr.mono hle
  have rl:=hr.mono hle
  have hC2:=hC
  obtain ⟨e1,m1,d1,e2,m2,d2,e3,m3,d3,e4,m4,d4,e5,m5,d5,cs2,rfl, -, -, -, -, -, -, -, -⟩:=hC2.h
  clear hC2 hle1 hle2
  repeat (first | refine byW ?_ | (refine byV ?_;intro w hw))
  refine lAlloc ?_
  intro b11 w hw
  refine lStore ?_
  intro w hw
  have hw:Wd Γ2 (.blk b11 (hwC H e1 m1 d1 e2 m2 d2 e3 m3 d3 e4 m4 d4 e5 m5 d5)::.blk b5 (hwC H a1 n1 c1 a2 n2 c2 a3 n3 c3 a4 n4 c4 a5 n5 c5)::S) w:=hw
  haveI pc1:=pg_Cost (hh:=hC) id s
  haveI pc2:=rCost_pg (hh:=hR2) id s
  repeat (first | refine byW ?_ | (refine byV ?_;intro w hw))
  refine lCall ((nearestW (hh:=hC) id (by omega) hw).mono fun e w hq=>?_)
  clear hw
  obtain ⟨Γ3,v16,ns,cd,hle3,rfl,hn1,hw⟩:=hq
  refine ⟨_,rfl,?_⟩
  repeat (first | refine byW ?_ | (refine byV ?_;intro w hw))
  refine lCall ((rnearestW (hh:=hR2.mono hle3) id hLe hw).mono fun e w hq=>?_)
  clear hw
  obtain ⟨Γ4,v18,ns2,cd2,hle4,rfl,hn2,hw⟩:=hq
  refine ⟨_,rfl,?_⟩
  obtain ⟨rfl,rfl⟩:=nearPost_uniq hn1 hn2
  have hle24:=hle3.trans hle4
  have hR4:=hR2.mono hle24
  have hC4:=hC.mono hle24
  haveI hBr4:BrG Γ4:=hBr2.mono hle24
  have rl:=rl.mono hle24
  have hle:=hle.trans hle24
  clear hle3 hle4 hle24 hn1 hn2 hR2 hC hBr2 pc1 pc2
  have hw:Wd Γ4 (.own v18 9 1 (ns2.map strR)::.own v16 9 1 (ns2.map strR)::.blk b11 (hwC H e1 m1 d1 e2 m2 d2 e3 m3 d3 e4 m4 d4 e5 m5 d5)::.blk b5 (hwC H a1 n1 c1 a2 n2 c2 a3 n3 c3 a4 n4 c4 a5 n5 c5)::S) w:=hw
  have hw:Wd Γ4 (.blk b11 (hwC H e1 m1 d1 e2 m2 d2 e3 m3 d3 e4 m4 d4 e5 m5 d5)::.blk b5 (hwC H a1 n1 c1 a2 n2 c2 a3 n3 c3 a4 n4 c4 a5 n5 c5)::.own v18 9 1 (ns2.map strR)::.own v16 9 1 (ns2.map strR)::S) w:=hw.ps [3,3]
  repeat (first | refine byW ?_ | (refine byV ?_;intro w hw))
  have hwm:Wd Γ4 ((.blk b11 (hwC H e1 m1 d1 e2 m2 d2 e3 m3 d3 e4 m4 d4 e5 m5 d5)::.blk b5 (hwC H a1 n1 c1 a2 n2 c2 a3 n3 c3 a4 n4 c4 a5 n5 c5)::.own v18 9 1 (ns2.map strR)::.own v16 9 1 (ns2.map strR)::S)++[]) w:=by rw [List.append_nil];exact hw
  refine W_mixed (.blk b11 (hwC H e1 m1 d1 e2 m2 d2 e3 m3 d3 e4 m4 d4 e5 m5 d5)::.blk b5 (hwC H a1 n1 c1 a2 n2 c2 a3 n3 c3 a4 n4 c4 a5 n5 c5)::.own v18 9 1 (ns2.map strR)::.own v16 9 1 (ns2.map strR)::S) [fun _=>[],fun _=>[],fun _=>[]] [[],[],[0],[0],[0,1,2],[1],[],[1],[]] [[],[],[0],[0],[0,1,2],[1],[2],[1],[]] [[75,76,72],[72,77,20],[72]] hwm ?_
  clear hwm hw
  repeat (first | refine mY ?_ | refine mP ?_ | refine mPg ?_)
  refine mAppNil (c:=0) (rows2:=intRows L) ?_ (fun Y w hw=>rl.rd hw) (by simp [intRows];omega) (List.all_eq_true.1 (ints_one L))
  refine mS (c:=0) (v:=undef) (F:=fun g=>[.own (g 75) 3 1 (intRows L)]) (exC (T:=PoT) (fun t g=>g 76=.tuple #[t.1,.int .i64 (liveS H L).2]∧PoolsPost H L t) fun t=>poRes H L t) (fun g w Y hw=>?_) ?_
  · refine s_call (vs:=#[.agg #[.string H.Name,.slice e1 m1 d1,.slice e2 m2 d2,.slice e3 m3 d3,.slice e4 m4 d4,.slice e5 m5 d5],g 75]) ?_ ((pools_fixO (hh:=hC4) hwd.h (i:=0) rfl (by omega) hw).mono fun e w' hq=>?_)
    · exact EvL.eqA (xs:=[.tmp 73,.tmp 75]) (vs:=[.agg #[.string H.Name,.slice e1 m1 d1,.slice e2 m2 d2,.slice e3 m3 d3,.slice e4 m4 d4,.slice e5 m5 d5],g 75]) (EvL.cons (by rfl) (EvL.cons (by rfl) EvL.nil))
    obtain ⟨t,rfl,hp,hw2⟩:=hq
    refine ⟨_,rfl,fun h=>(by cases h),?_⟩
    have hw3:Wd Γ4 (poRes H L t++.own (g 75) 3 1 (intRows L)::((.blk b11 (hwC H e1 m1 d1 e2 m2 d2 e3 m3 d3 e4 m4 d4 e5 m5 d5)::.blk b5 (hwC H a1 n1 c1 a2 n2 c2 a3 n3 c3 a4 n4 c4 a5 n5 c5)::.own v18 9 1 (ns2.map strR)::.own v16 9 1 (ns2.map strR)::S)++Y)) w':=hw2
    exact exC_mk (T:=PoT) (φ:=fun t g=>g 76=.tuple #[t.1,.int .i64 (liveS H L).2]∧PoolsPost H L t) (R:=fun t=>poRes H L t) t ⟨rfl,hp⟩ (hw3.perm List.perm_middle).drop
  refine mM3 (c:=0) (c2:=1) (c3:=2) (v:=undef) (exC (T:=PoT) (fun t g=>g 72=.tuple #[t.1,.int .i64 (liveS H L).2]∧PoolsPost H L t) fun t=>poRes H L t) (exC (T:=PoT) (fun t g=>g 72=.tuple #[t.1,.int .i64 (liveS H L).2]) fun _=>[]) (exC (T:=PoT) (fun t g=>g 72=.tuple #[t.1,.int .i64 (liveS H L).2]) fun _=>[]) (fun Y w g hw=>?_) ?_ rfl rfl
  · have hw1:Wd Γ4 ((.blk b11 (hwC H e1 m1 d1 e2 m2 d2 e3 m3 d3 e4 m4 d4 e5 m5 d5)::.blk b5 (hwC H a1 n1 c1 a2 n2 c2 a3 n3 c3 a4 n4 c4 a5 n5 c5)::.own v18 9 1 (ns2.map strR)::.own v16 9 1 (ns2.map strR)::S)++(((exC (T:=PoT) (fun t g=>g 76=.tuple #[t.1,.int .i64 (liveS H L).2]∧PoolsPost H L t) fun t=>poRes H L t) (ovr [75,76,72] g noFr))++([]++([]++[]))++Y)) w:=hw
    obtain ⟨t,⟨ht,hp⟩,hw2⟩:=exC_open (hw1.perm perm3.symm)
    have ht:g 76=.tuple #[t.1,.int .i64 (liveS H L).2]:=ht
    refine Yields.step (y_move (v:=.tuple #[t.1,.int .i64 (liveS H L).2]) ht) ⟨?_,fun h=>(by cases h)⟩
    have hw3:=exC_mk (T:=PoT) (φ:=fun t g=>g 72=.tuple #[t.1,.int .i64 (liveS H L).2]∧PoolsPost H L t) (R:=fun t=>poRes H L t) (g:=ovr [75,76,72] (putO g (some 72) (.tuple #[t.1,.int .i64 (liveS H L).2])) noFr) t ⟨rfl,hp⟩ hw2
    have hw4:=hw3.perm List.perm_append_comm
    have hw5:=exC_mk (T:=PoT) (φ:=fun t g=>g 72=.tuple #[t.1,.int .i64 (liveS H L).2]) (R:=fun _=>[]) (g:=ovr [72,77,20] (putO g (some 72) (.tuple #[t.1,.int .i64 (liveS H L).2])) noFr) t rfl hw4
    have hw6:=exC_mk (T:=PoT) (φ:=fun t g=>g 72=.tuple #[t.1,.int .i64 (liveS H L).2]) (R:=fun _=>[]) (g:=ovr [72] (putO g (some 72) (.tuple #[t.1,.int .i64 (liveS H L).2])) noFr) t rfl hw5
    have hw7:Wd Γ4 (((exC (T:=PoT) (fun t g=>g 72=.tuple #[t.1,.int .i64 (liveS H L).2]) fun _=>[]) (ovr [72] (putO g (some 72) (.tuple #[t.1,.int .i64 (liveS H L).2])) noFr))++(((exC (T:=PoT) (fun t g=>g 72=.tuple #[t.1,.int .i64 (liveS H L).2]) fun _=>[]) (ovr [72,77,20] (putO g (some 72) (.tuple #[t.1,.int .i64 (liveS H L).2])) noFr))++(([]++([]++((.blk b11 (hwC H e1 m1 d1 e2 m2 d2 e3 m3 d3 e4 m4 d4 e5 m5 d5)::.blk b5 (hwC H a1 n1 c1 a2 n2 c2 a3 n3 c3 a4 n4 c4 a5 n5 c5)::.own v18 9 1 (ns2.map strR)::.own v16 9 1 (ns2.map strR)::S)++Y)))++((exC (T:=PoT) (fun t g=>g 72=.tuple #[t.1,.int .i64 (liveS H L).2]∧PoolsPost H L t) fun t=>poRes H L t) (ovr [75,76,72] (putO g (some 72) (.tuple #[t.1,.int .i64 (liveS H L).2])) noFr))))) w:=hw6
    exact hw7.perm perm6
  refine mS (c:=1) (v:=undef) (F:=(exC (T:=PoT) (fun t g=>g 72=.tuple #[t.1,.int .i64 (liveS H L).2]) fun _=>[])) (exC (T:=PoT) (fun t g=>g 72=.tuple #[t.1,.int .i64 (liveS H L).2]∧g 77=t.1) fun _=>[]) (fun g w Y hw=>?_) ?_
  · obtain ⟨t,ht,hw1⟩:=exC_open hw
    have ht:g 72=.tuple #[t.1,.int .i64 (liveS H L).2]:=ht
    refine Yields.step (y_extract (v:=t.1) ht rfl) ⟨fun h=>(by cases h),?_⟩
    exact exC_mk (T:=PoT) (φ:=fun t g=>g 72=.tuple #[t.1,.int .i64 (liveS H L).2]∧g 77=t.1) (R:=fun _=>[]) t ⟨ht,rfl⟩ hw1
  refine mC (v:=.int .i64 (liveS H L).2) (fun Y w g hw=>?_) rfl rfl rfl ?_
  · have hw1:Wd Γ4 ((.blk b11 (hwC H e1 m1 d1 e2 m2 d2 e3 m3 d3 e4 m4 d4 e5 m5 d5)::.blk b5 (hwC H a1 n1 c1 a2 n2 c2 a3 n3 c3 a4 n4 c4 a5 n5 c5)::.own v18 9 1 (ns2.map strR)::.own v16 9 1 (ns2.map strR)::S)++((((exC (T:=PoT) (fun t g=>g 72=.tuple #[t.1,.int .i64 (liveS H L).2]) fun _=>[]) (ovr [72] g noFr))++[])++Y)) w:=hw
    obtain ⟨t,ht, -⟩:=exC_open (hw1.perm perm1)
    exact Yields.step (y_extract (v:=.int .i64 (liveS H L).2) ht rfl) ⟨rfl,hw⟩
  refine mS (c:=1) (v:=undef) (F:=(exC (T:=PoT) (fun t g=>g 72=.tuple #[t.1,.int .i64 (liveS H L).2]∧g 77=t.1) fun _=>[])) (exC (T:=PoT) (fun t g=>g 72=.tuple #[t.1,.int .i64 (liveS H L).2]∧g 20=t.1) fun _=>[]) (fun g w Y hw=>?_) ?_
  · obtain ⟨t,⟨ht,ht2⟩,hw1⟩:=exC_open hw
    have ht:g 72=.tuple #[t.1,.int .i64 (liveS H L).2]:=ht
    have ht2:g 77=t.1:=ht2
    refine Yields.step (y_assign (v:=t.1) ht2) ⟨fun h=>(by cases h),?_⟩
    exact exC_mk (T:=PoT) (φ:=fun t g=>g 72=.tuple #[t.1,.int .i64 (liveS H L).2]∧g 20=t.1) (R:=fun _=>[]) t ⟨ht,rfl⟩ hw1
  repeat (first | refine mY ?_ | refine mP ?_ | refine mPg ?_)
  refine mEnd fun w g hw=>?_
  have hw1:Wd Γ4 ((.blk b11 (hwC H e1 m1 d1 e2 m2 d2 e3 m3 d3 e4 m4 d4 e5 m5 d5)::.blk b5 (hwC H a1 n1 c1 a2 n2 c2 a3 n3 c3 a4 n4 c4 a5 n5 c5)::.own v18 9 1 (ns2.map strR)::.own v16 9 1 (ns2.map strR)::S)++((((exC (T:=PoT) (fun t g=>g 72=.tuple #[t.1,.int .i64 (liveS H L).2]∧PoolsPost H L t) fun t=>poRes H L t) (ovr [75,76,72] g noFr))++(((exC (T:=PoT) (fun t g=>g 72=.tuple #[t.1,.int .i64 (liveS H L).2]∧g 20=t.1) fun _=>[]) (ovr [72,77,20] g noFr))++(((exC (T:=PoT) (fun t g=>g 72=.tuple #[t.1,.int .i64 (liveS H L).2]) fun _=>[]) (ovr [72] g noFr))++[])))++[])) w:=by rw [List.append_nil];exact hw
  obtain ⟨t,⟨ht,hpo⟩,hw2⟩:=exC_open (hw1.perm perm3.symm)
  have ht:g 72=.tuple #[t.1,.int .i64 (liveS H L).2]:=ht
  have hw3:Wd Γ4 (((exC (T:=PoT) (fun t g=>g 72=.tuple #[t.1,.int .i64 (liveS H L).2]∧g 20=t.1) fun _=>[]) (ovr [72,77,20] g noFr))++(((exC (T:=PoT) (fun t g=>g 72=.tuple #[t.1,.int .i64 (liveS H L).2]) fun _=>[]) (ovr [72] g noFr))++(((.blk b11 (hwC H e1 m1 d1 e2 m2 d2 e3 m3 d3 e4 m4 d4 e5 m5 d5)::.blk b5 (hwC H a1 n1 c1 a2 n2 c2 a3 n3 c3 a4 n4 c4 a5 n5 c5)::.own v18 9 1 (ns2.map strR)::.own v16 9 1 (ns2.map strR)::S)++[])++poRes H L t))) w:=hw2.perm perm4
  obtain ⟨t2,⟨ht2,ht3⟩,hw4⟩:=exC_open hw3
  have ht2:g 72=.tuple #[t2.1,.int .i64 (liveS H L).2]:=ht2
  have ht3:g 20=t2.1:=ht3
  have hte:t2.1=t.1:=by
    have:=ht2.symm.trans ht
    simp at this
    exact this
  rw [hte] at ht3
  rw [List.nil_append] at hw4
  obtain ⟨-, -,hw5⟩:=exC_open hw4
  clear hw hw1 hw2 hw3 hw4 ht ht2 hte
  rw [List.append_nil,List.nil_append] at hw5
  have hw:Wd Γ4 (poRes H L t++(.blk b11 (hwC H e1 m1 d1 e2 m2 d2 e3 m3 d3 e4 m4 d4 e5 m5 d5)::.blk b5 (hwC H a1 n1 c1 a2 n2 c2 a3 n3 c3 a4 n4 c4 a5 n5 c5)::.own v18 9 1 (ns2.map strR)::.own v16 9 1 (ns2.map strR)::S)) w:=hw5.perm List.perm_append_comm
  clear hw5
  obtain ⟨Γ5,hle5,hP1,hw⟩:∃ Γ5,Γ4.le Γ5∧(((liveS H L).2≠0∧t.1=.slice none 0 0)∨((liveS H L).2=0∧∃ (n:Nat) (a9:Addr) (vs:List Value) (B:List (List RangeT)),t.1=.slice (some a9) n n∧n=(liveS H L).1.length∧vs.length=n∧Sorted n (H.Mems.flatMap (blkOf (dstF H) (liveS H L).1)) B∧PoolsF Γ5 (.slice (some a9) n n) (liveS H L).1 vs B))∧Wd Γ5 (.blk b11 (hwC H e1 m1 d1 e2 m2 d2 e3 m3 d3 e4 m4 d4 e5 m5 d5)::.blk b5 (hwC H a1 n1 c1 a2 n2 c2 a3 n3 c3 a4 n4 c4 a5 n5 c5)::.own v18 9 1 (ns2.map strR)::.own v16 9 1 (ns2.map strR)::S) w:=by
    rcases hpo with ⟨h1,h2⟩ | ⟨h1,n,a9,h2,h3,h4,h5⟩
    · refine ⟨Γ4,.refl _,.inl ⟨h1,by rw [h2]⟩,?_⟩
      rw [h2] at hw
      have hw2:Wd Γ4 (.own (.slice none 0 0) 66 2 (poolsR (liveS H L).1 [])::(.blk b11 (hwC H e1 m1 d1 e2 m2 d2 e3 m3 d3 e4 m4 d4 e5 m5 d5)::.blk b5 (hwC H a1 n1 c1 a2 n2 c2 a3 n3 c3 a4 n4 c4 a5 n5 c5)::.own v18 9 1 (ns2.map strR)::.own v16 9 1 (ns2.map strR)::S)) w:=hw
      exact hw2.drop
    · rw [show poRes H L t=.own (.slice (some a9) n n) 66 2 (poolsR (liveS H L).1 t.2.1)::inn 68 2 (poolsI t.2.1 t.2.2) from by unfold poRes;rw [h2]] at hw
      obtain ⟨Γ6,h6,h7,h8⟩:=pools_freeze hw
      exact ⟨Γ6,h6,.inr ⟨h1,n,a9,t.2.1,t.2.2,h2,h3,h4,h5,h7⟩,h8⟩
  have hR5:=hR4.mono hle5
  have hC5:=hC4.mono hle5
  haveI hBr5:BrG Γ5:=hBr4.mono hle5
  have rl:=rl.mono hle5
  have hle:=hle.trans hle5
  obtain ⟨v20,hv20⟩:∃ v20,v20=t.1:=⟨_,rfl⟩
  rw [← hv20] at ht3 hP1
  clear hpo hle5 hR4 hC4 hBr4 hv20
  refine W_has (l:=[(1,.int .i64 id),(2,.string s),(3,.slice al nl cl),(4,.int .i64 cap),(5,.pointer (some ⟨b5,0,none⟩)),(11,.pointer (some ⟨b11,0,none⟩)),(12,.int .i64 (costS H id s).1),(13,.int .i64 (costS H id s).2),(14,.int .i64 (costS H id s).1),(15,.int .i64 (costS H id s).2),(16,v16),(17,.int .i64 cd2),(18,v18),(19,.int .i64 cd2),(20,v20),(21,.int .i64 (liveS H L).2)]) ⟨rfl,rfl,rfl,rfl,rfl,rfl,rfl,rfl,rfl,rfl,rfl,rfl,rfl,rfl,ht3,rfl,trivial⟩ fun ρ hρ=>?_
  clear ht3
  rw [hρ.eq]
  clear hρ
  repeat (first | refine byW ?_ | (refine byV ?_;intro w hw))
  obtain ⟨hlv,hcsub⟩:=live_sub (H:=H) (L:=L)
  refine lCall ((rpools_core (hh:=hR5) rl (by omega) (by omega) hLe hw).mono fun e w hq=>?_)
  clear hw
  obtain ⟨Γ7,v22,hle7,rfl,hq1⟩:=hq
  refine ⟨_,rfl,?_⟩
  obtain ⟨Γ8,hle8,hsp,hw⟩:∃ Γ8,Γ7.le Γ8∧(∀ Γ',Γ8.le Γ'→PG Tryz.prog Γ' 15 [v20,v22] (.bool true))∧Wd Γ8 (.blk b11 (hwC H e1 m1 d1 e2 m2 d2 e3 m3 d3 e4 m4 d4 e5 m5 d5)::.blk b5 (hwC H a1 n1 c1 a2 n2 c2 a3 n3 c3 a4 n4 c4 a5 n5 c5)::.own v18 9 1 (ns2.map strR)::.own v16 9 1 (ns2.map strR)::S) w:=by
    rcases hq1 with ⟨h1,h2,hw⟩ | ⟨h1,n,a9,vs,B,h2,h3,h4,h5,hw⟩
    · rcases hP1 with ⟨-,rfl⟩ | ⟨g1, -⟩
      · subst h2;exact ⟨Γ7,.refl _,fun _ _=>samePools_nil,hw⟩
      · exact absurd g1 h1
    · rcases hP1 with ⟨g1, -⟩ | ⟨-,n',a9',vs',B',rfl,g3,g4,g5,g6⟩
      · exact absurd h1 g1
      · obtain ⟨Γ8,h6,h7,h8⟩:=pools_freeze hw
        have hv:=(liveS_zero h1).1
        obtain rfl:n'=n:=by omega
        obtain rfl:B=B':=sorted_pools hv (fun m hm=>mem_pow hv hwd.h hm) g5 h5
        subst h2
        have g7:PoolsF Γ8 (.slice (some a9') n' n') (liveS H L).1 vs' B:=⟨g6.out.mono (hle7.trans h6),fun k v b q1 q2=>(g6.inn k v b q1 q2).mono (hle7.trans h6)⟩
        exact ⟨Γ8,h6,fun Γ' hl=>samePools_pg g3 (by omega) (by omega) (by rw [g5.len];omega) ⟨g7.out.mono hl,fun k v b q1 q2=>(g7.inn k v b q1 q2).mono hl⟩ ⟨h7.out.mono hl,fun k v b q1 q2=>(h7.inn k v b q1 q2).mono hl⟩,h8⟩
  clear hq1 hP1
  obtain ⟨Γ9,hle9,q18,hw⟩:=(hw.ps [2]).freeze
  obtain ⟨Γ10,hle10,q16,hw⟩:=(hw.ps [2]).freeze
  have hw:Wd Γ10 (.blk b11 (hwC H e1 m1 d1 e2 m2 d2 e3 m3 d3 e4 m4 d4 e5 m5 d5)::.blk b5 (hwC H a1 n1 c1 a2 n2 c2 a3 n3 c3 a4 n4 c4 a5 n5 c5)::S) w:=hw
  have hl:=hle7.trans (hle8.trans (hle9.trans hle10))
  have hR10:=hR5.mono hl
  have hC10:=hC5.mono hl
  haveI hBr10:BrG Γ10:=hBr5.mono hl
  have rl:=rl.mono hl
  have hle:=hle.trans hl
  have p1:PG Tryz.prog Γ10 15 [v20,v22] (.bool true):=hsp Γ10 (hle9.trans hle10)
  have p3:=sameNames_pg q16 (q18.mono hle10)
  haveI pq:=pg_REqual (hh:=hwq_r (hh:=hC10)) (hg:=hwq_r (hh:=hR10))
  rw [decide_eq_true (rfl:H=H)] at pq
  clear hle7 hle8 hle9 hle10 hl hsp q16 q18 hR5 hC5 hBr5
  repeat (first | (first | refine W_seq ?_ | refine W_block ?_ | refine W_region ?_ | refine W_skip ?_ | refine W_ret ?_ | refine W_exit ?_) | ((first | apply L_bin | apply L_notop);first | (refine lT ?_ ?_;(first | exact rfl | exact decide_eq_true rfl | exact hb1 | exact hb2 | exact hb3 | exact hb4 | (focus (simp;done)))) | (refine lF ?_ ?_;(first | exact rfl | exact decide_eq_true rfl | exact hb1 | exact hb2 | exact hb3 | exact hb4 | (focus (simp;done))))) | (first | refine L_nil ?_ | (apply L_plain;first | (apply L_go;first | refine lP ?_ | (refine lPg ?_;intro w hw)) | (apply L_mf;refine lMakeFunc ?_) | refine lY ?_) | (apply L_guarded;first | refine lGT ?_ (hct:=rfl) | refine lGF ?_ (hct:=rfl) | (apply L_go;first | refine lPG ?_ | (refine lPgG ?_;intro w hw)) | refine lG ?_)) | (refine lAlloc ?_;intro _ w hw) | (refine lBox ?_;intro _ w hw) | (refine lStore ?_;intro w hw))
  refine lPg (hp:=p3) ?_
  intro w hw
  repeat (first | (first | refine W_seq ?_ | refine W_block ?_ | refine W_region ?_ | refine W_skip ?_ | refine W_ret ?_ | refine W_exit ?_) | ((first | apply L_bin | apply L_notop);first | (refine lT ?_ ?_;(first | exact rfl | exact decide_eq_true rfl | exact hb1 | exact hb2 | exact hb3 | exact hb4 | (focus (simp;done)))) | (refine lF ?_ ?_;(first | exact rfl | exact decide_eq_true rfl | exact hb1 | exact hb2 | exact hb3 | exact hb4 | (focus (simp;done))))) | (first | refine L_nil ?_ | (apply L_plain;first | (apply L_go;first | refine lP ?_ | (refine lPg ?_;intro w hw)) | (apply L_mf;refine lMakeFunc ?_) | refine lY ?_) | (apply L_guarded;first | refine lGT ?_ (hct:=rfl) | refine lGF ?_ (hct:=rfl) | (apply L_go;first | refine lPG ?_ | (refine lPgG ?_;intro w hw)) | refine lG ?_)) | (refine lAlloc ?_;intro _ w hw) | (refine lBox ?_;intro _ w hw) | (refine lStore ?_;intro w hw))
  refine lPg (hp:=p1) ?_
  intro w hw
  repeat (first | (first | refine W_seq ?_ | refine W_block ?_ | refine W_region ?_ | refine W_skip ?_ | refine W_ret ?_ | refine W_exit ?_) | ((first | apply L_bin | apply L_notop);first | (refine lT ?_ ?_;(first | exact rfl | exact decide_eq_true rfl | exact hb1 | exact hb2 | exact hb3 | exact hb4 | (focus (simp;done)))) | (refine lF ?_ ?_;(first | exact rfl | exact decide_eq_true rfl | exact hb1 | exact hb2 | exact hb3 | exact hb4 | (focus (simp;done))))) | (first | refine L_nil ?_ | (apply L_plain;first | (apply L_go;first | refine lP ?_ | (refine lPg ?_;intro w hw)) | (apply L_mf;refine lMakeFunc ?_) | refine lY ?_) | (apply L_guarded;first | refine lGT ?_ (hct:=rfl) | refine lGF ?_ (hct:=rfl) | (apply L_go;first | refine lPG ?_ | (refine lPgG ?_;intro w hw)) | refine lG ?_)) | (refine lAlloc ?_;intro _ w hw) | (refine lBox ?_;intro _ w hw) | (refine lStore ?_;intro w hw))
  refine W_cond_false rfl ?_
  repeat (first | refine byW ?_ | (refine byV ?_;intro w hw))
  refine W_cond rfl (fun h=>?_) (fun h=>?_)
  · repeat (first | refine byW ?_ | (refine byV ?_;intro w hw))
    exact ⟨_,rfl,Γ10,hle,rfl,hw.ds [0,0]⟩
  have h6:H.Devs.length≤6∧nl≤6:=by
    simp at h
    omega
  clear h
  obtain ⟨rs,tot,code,hip⟩:=intPost_ex H L cap
  repeat (first | refine byW ?_ | (refine byV ?_;intro w hw))
  have hwm:Wd Γ10 ((.blk b11 (hwC H e1 m1 d1 e2 m2 d2 e3 m3 d3 e4 m4 d4 e5 m5 d5)::.blk b5 (hwC H a1 n1 c1 a2 n2 c2 a3 n3 c3 a4 n4 c4 a5 n5 c5)::S)++[]) w:=by rw [List.append_nil];exact hw
  refine W_mixed (.blk b11 (hwC H e1 m1 d1 e2 m2 d2 e3 m3 d3 e4 m4 d4 e5 m5 d5)::.blk b5 (hwC H a1 n1 c1 a2 n2 c2 a3 n3 c3 a4 n4 c4 a5 n5 c5)::S) [fun _=>[],fun _=>[],fun _=>[]] [[],[],[0],[],[0],[0,1,2],[1],[],[],[1],[],[]] [[],[],[0],[],[0],[0,1,2],[1],[2],[2],[1],[],[]] [[134,136,131],[131,137,24],[131]] hwm ?_
  clear hwm hw
  repeat (first | refine mY ?_ | refine mP ?_ | refine mPg ?_)
  refine mAppNil (c:=0) (rows2:=intRows L) ?_ (fun Y w hw=>rl.rd hw) (by simp [intRows];omega) (List.all_eq_true.1 (ints_one L))
  repeat (first | refine mY ?_ | refine mP ?_ | refine mPg ?_)
  refine mS (c:=0) (v:=undef) (F:=fun g=>[.own (g 134) 3 1 (intRows L)]) (exC (T:=Value) (fun t g=>g 136=.tuple #[t,.int .i64 tot,.int .i64 code]) fun t=>[.own t 107 2 (rs.map prI)]) (fun g w Y hw=>?_) ?_
  · refine s_call (vs:=#[.agg #[.string H.Name,.slice e1 m1 d1,.slice e2 m2 d2,.slice e3 m3 d3,.slice e4 m4 d4,.slice e5 m5 d5],g 134,.int .i64 cap]) ?_ ((int_fixO (hh:=hC10) hip (i:=0) rfl (by omega) (by omega) (by omega) hcsub hw).mono fun e w' hq=>?_)
    · exact EvL.eqA (xs:=[.tmp 132,.tmp 134,.tmp 135]) (vs:=[.agg #[.string H.Name,.slice e1 m1 d1,.slice e2 m2 d2,.slice e3 m3 d3,.slice e4 m4 d4,.slice e5 m5 d5],g 134,.int .i64 cap]) (EvL.cons (by rfl) (EvL.cons (by rfl) (EvL.cons (by rfl) EvL.nil)))
    obtain ⟨t,rfl,hw2⟩:=hq
    refine ⟨_,rfl,fun h=>(by cases h),?_⟩
    have hw3:Wd Γ10 ([.own t 107 2 (rs.map prI)]++.own (g 134) 3 1 (intRows L)::((.blk b11 (hwC H e1 m1 d1 e2 m2 d2 e3 m3 d3 e4 m4 d4 e5 m5 d5)::.blk b5 (hwC H a1 n1 c1 a2 n2 c2 a3 n3 c3 a4 n4 c4 a5 n5 c5)::S)++Y)) w':=hw2
    exact exC_mk (T:=Value) (φ:=fun t g=>g 136=.tuple #[t,.int .i64 tot,.int .i64 code]) (R:=fun t=>[.own t 107 2 (rs.map prI)]) t rfl (hw3.perm List.perm_middle).drop
  refine mM3 (c:=0) (c2:=1) (c3:=2) (v:=undef) (exC (T:=Value) (fun t g=>g 131=.tuple #[t,.int .i64 tot,.int .i64 code]) fun t=>[.own t 107 2 (rs.map prI)]) (exC (T:=Value) (fun t g=>g 131=.tuple #[t,.int .i64 tot,.int .i64 code]) fun _=>[]) (exC (T:=Value) (fun t g=>g 131=.tuple #[t,.int .i64 tot,.int .i64 code]) fun _=>[]) (fun Y w g hw=>?_) ?_ rfl rfl
  · have hw1:Wd Γ10 ((.blk b11 (hwC H e1 m1 d1 e2 m2 d2 e3 m3 d3 e4 m4 d4 e5 m5 d5)::.blk b5 (hwC H a1 n1 c1 a2 n2 c2 a3 n3 c3 a4 n4 c4 a5 n5 c5)::S)++(((exC (T:=Value) (fun t g=>g 136=.tuple #[t,.int .i64 tot,.int .i64 code]) fun t=>[.own t 107 2 (rs.map prI)]) (ovr [134,136,131] g noFr))++([]++([]++[]))++Y)) w:=hw
    obtain ⟨t,ht,hw2⟩:=exC_open (hw1.perm perm3.symm)
    have ht:g 136=.tuple #[t,.int .i64 tot,.int .i64 code]:=ht
    refine Yields.step (y_move (v:=.tuple #[t,.int .i64 tot,.int .i64 code]) ht) ⟨?_,fun h=>(by cases h)⟩
    have hw3:=exC_mk (T:=Value) (φ:=fun t g=>g 131=.tuple #[t,.int .i64 tot,.int .i64 code]) (R:=fun t=>[.own t 107 2 (rs.map prI)]) (g:=ovr [134,136,131] (putO g (some 131) (.tuple #[t,.int .i64 tot,.int .i64 code])) noFr) t rfl hw2
    have hw4:=hw3.perm List.perm_append_comm
    have hw5:=exC_mk (T:=Value) (φ:=fun t g=>g 131=.tuple #[t,.int .i64 tot,.int .i64 code]) (R:=fun _=>[]) (g:=ovr [131,137,24] (putO g (some 131) (.tuple #[t,.int .i64 tot,.int .i64 code])) noFr) t rfl hw4
    have hw6:=exC_mk (T:=Value) (φ:=fun t g=>g 131=.tuple #[t,.int .i64 tot,.int .i64 code]) (R:=fun _=>[]) (g:=ovr [131] (putO g (some 131) (.tuple #[t,.int .i64 tot,.int .i64 code])) noFr) t rfl hw5
    have hw7:Wd Γ10 (((exC (T:=Value) (fun t g=>g 131=.tuple #[t,.int .i64 tot,.int .i64 code]) fun _=>[]) (ovr [131] (putO g (some 131) (.tuple #[t,.int .i64 tot,.int .i64 code])) noFr))++(((exC (T:=Value) (fun t g=>g 131=.tuple #[t,.int .i64 tot,.int .i64 code]) fun _=>[]) (ovr [131,137,24] (putO g (some 131) (.tuple #[t,.int .i64 tot,.int .i64 code])) noFr))++(([]++([]++((.blk b11 (hwC H e1 m1 d1 e2 m2 d2 e3 m3 d3 e4 m4 d4 e5 m5 d5)::.blk b5 (hwC H a1 n1 c1 a2 n2 c2 a3 n3 c3 a4 n4 c4 a5 n5 c5)::S)++Y)))++((exC (T:=Value) (fun t g=>g 131=.tuple #[t,.int .i64 tot,.int .i64 code]) fun t=>[.own t 107 2 (rs.map prI)]) (ovr [134,136,131] (putO g (some 131) (.tuple #[t,.int .i64 tot,.int .i64 code])) noFr))))) w:=hw6
    exact hw7.perm perm6
  refine mS (c:=1) (v:=undef) (F:=(exC (T:=Value) (fun t g=>g 131=.tuple #[t,.int .i64 tot,.int .i64 code]) fun _=>[])) (exC (T:=Value) (fun t g=>g 131=.tuple #[t,.int .i64 tot,.int .i64 code]∧g 137=t) fun _=>[]) (fun g w Y hw=>?_) ?_
  · obtain ⟨t,ht,hw1⟩:=exC_open hw
    have ht:g 131=.tuple #[t,.int .i64 tot,.int .i64 code]:=ht
    refine Yields.step (y_extract (v:=t) ht rfl) ⟨fun h=>(by cases h),?_⟩
    exact exC_mk (T:=Value) (φ:=fun t g=>g 131=.tuple #[t,.int .i64 tot,.int .i64 code]∧g 137=t) (R:=fun _=>[]) t ⟨ht,rfl⟩ hw1
  refine mC (v:=.int .i64 tot) (fun Y w g hw=>?_) rfl rfl rfl ?_
  · have hw1:Wd Γ10 ((.blk b11 (hwC H e1 m1 d1 e2 m2 d2 e3 m3 d3 e4 m4 d4 e5 m5 d5)::.blk b5 (hwC H a1 n1 c1 a2 n2 c2 a3 n3 c3 a4 n4 c4 a5 n5 c5)::S)++((((exC (T:=Value) (fun t g=>g 131=.tuple #[t,.int .i64 tot,.int .i64 code]) fun _=>[]) (ovr [131] g noFr))++[])++Y)) w:=hw
    obtain ⟨t,ht, -⟩:=exC_open (hw1.perm perm1)
    exact Yields.step (y_extract (v:=.int .i64 tot) ht rfl) ⟨rfl,hw⟩
  refine mC (v:=.int .i64 code) (fun Y w g hw=>?_) rfl rfl rfl ?_
  · have hw1:Wd Γ10 ((.blk b11 (hwC H e1 m1 d1 e2 m2 d2 e3 m3 d3 e4 m4 d4 e5 m5 d5)::.blk b5 (hwC H a1 n1 c1 a2 n2 c2 a3 n3 c3 a4 n4 c4 a5 n5 c5)::S)++((((exC (T:=Value) (fun t g=>g 131=.tuple #[t,.int .i64 tot,.int .i64 code]) fun _=>[]) (ovr [131] g noFr))++[])++Y)) w:=hw
    obtain ⟨t,ht, -⟩:=exC_open (hw1.perm perm1)
    exact Yields.step (y_extract (v:=.int .i64 code) ht rfl) ⟨rfl,hw⟩
  refine mS (c:=1) (v:=undef) (F:=(exC (T:=Value) (fun t g=>g 131=.tuple #[t,.int .i64 tot,.int .i64 code]∧g 137=t) fun _=>[])) (exC (T:=Value) (fun t g=>g 131=.tuple #[t,.int .i64 tot,.int .i64 code]∧g 24=t) fun _=>[]) (fun g w Y hw=>?_) ?_
  · obtain ⟨t,⟨ht,ht2⟩,hw1⟩:=exC_open hw
    have ht:g 131=.tuple #[t,.int .i64 tot,.int .i64 code]:=ht
    have ht2:g 137=t:=ht2
    refine Yields.step (y_assign (v:=t) ht2) ⟨fun h=>(by cases h),?_⟩
    exact exC_mk (T:=Value) (φ:=fun t g=>g 131=.tuple #[t,.int .i64 tot,.int .i64 code]∧g 24=t) (R:=fun _=>[]) t ⟨ht,rfl⟩ hw1
  repeat (first | refine mY ?_ | refine mP ?_ | refine mPg ?_)
  refine mEnd fun w g hw=>?_
  have hw1:Wd Γ10 ((.blk b11 (hwC H e1 m1 d1 e2 m2 d2 e3 m3 d3 e4 m4 d4 e5 m5 d5)::.blk b5 (hwC H a1 n1 c1 a2 n2 c2 a3 n3 c3 a4 n4 c4 a5 n5 c5)::S)++((((exC (T:=Value) (fun t g=>g 131=.tuple #[t,.int .i64 tot,.int .i64 code]) fun t=>[.own t 107 2 (rs.map prI)]) (ovr [134,136,131] g noFr))++(((exC (T:=Value) (fun t g=>g 131=.tuple #[t,.int .i64 tot,.int .i64 code]∧g 24=t) fun _=>[]) (ovr [131,137,24] g noFr))++(((exC (T:=Value) (fun t g=>g 131=.tuple #[t,.int .i64 tot,.int .i64 code]) fun _=>[]) (ovr [131] g noFr))++[])))++[])) w:=by rw [List.append_nil];exact hw
  obtain ⟨t,ht,hw2⟩:=exC_open (hw1.perm perm3.symm)
  have ht:g 131=.tuple #[t,.int .i64 tot,.int .i64 code]:=ht
  have hw3:Wd Γ10 (((exC (T:=Value) (fun t g=>g 131=.tuple #[t,.int .i64 tot,.int .i64 code]∧g 24=t) fun _=>[]) (ovr [131,137,24] g noFr))++(((exC (T:=Value) (fun t g=>g 131=.tuple #[t,.int .i64 tot,.int .i64 code]) fun _=>[]) (ovr [131] g noFr))++(((.blk b11 (hwC H e1 m1 d1 e2 m2 d2 e3 m3 d3 e4 m4 d4 e5 m5 d5)::.blk b5 (hwC H a1 n1 c1 a2 n2 c2 a3 n3 c3 a4 n4 c4 a5 n5 c5)::S)++[])++[.own t 107 2 (rs.map prI)]))) w:=hw2.perm perm4
  obtain ⟨t2,⟨ht2,ht3⟩,hw4⟩:=exC_open hw3
  have ht2:g 131=.tuple #[t2,.int .i64 tot,.int .i64 code]:=ht2
  have ht3:g 24=t2:=ht3
  obtain rfl:t2=t:=by
    have:=ht2.symm.trans ht
    simp at this
    exact this
  rw [List.nil_append] at hw4
  obtain ⟨-, -,hw5⟩:=exC_open hw4
  clear hw hw1 hw2 hw3 hw4
  rw [List.append_nil,List.nil_append] at hw5
  have hw:Wd Γ10 (.own t2 107 2 (rs.map prI)::(.blk b11 (hwC H e1 m1 d1 e2 m2 d2 e3 m3 d3 e4 m4 d4 e5 m5 d5)::.blk b5 (hwC H a1 n1 c1 a2 n2 c2 a3 n3 c3 a4 n4 c4 a5 n5 c5)::S)) w:=hw5.perm List.perm_append_comm
  clear hw5
  refine W_has (l:=[(3,.slice al nl cl),(4,.int .i64 cap),(5,.pointer (some ⟨b5,0,none⟩)),(24,t2),(25,.int .i64 tot),(26,.int .i64 code)]) ⟨rfl,rfl,rfl,ht3,rfl,rfl,trivial⟩ fun ρ hρ=>?_
  clear ht ht2 ht3
  rw [hρ.eq]
  clear hρ
  obtain ⟨Γ11,hle11,q24,hw⟩:=hw.freeze
  have hw:Wd Γ11 (.blk b11 (hwC H e1 m1 d1 e2 m2 d2 e3 m3 d3 e4 m4 d4 e5 m5 d5)::.blk b5 (hwC H a1 n1 c1 a2 n2 c2 a3 n3 c3 a4 n4 c4 a5 n5 c5)::S) w:=hw
  repeat (first | refine byW ?_ | (refine byV ?_;intro w hw))
  refine lCall ((rinterruptsW (hh:=hR10.mono hle11) (rl.mono hle11) (by omega) (by omega) (by omega) hLe hw).mono fun e w hq=>?_)
  clear hw
  obtain ⟨Γ12,v27,rs',tot',code',hle12,rfl,hip2,hwZ⟩:=hq
  refine ⟨_,rfl,?_⟩
  obtain ⟨rfl,rfl,rfl⟩:=intPost_uniq hip hip2
  obtain ⟨Γ13,hle13,q27,hw⟩:=hwZ.freeze
  have hw:Wd Γ13 (.blk b11 (hwC H e1 m1 d1 e2 m2 d2 e3 m3 d3 e4 m4 d4 e5 m5 d5)::.blk b5 (hwC H a1 n1 c1 a2 n2 c2 a3 n3 c3 a4 n4 c4 a5 n5 c5)::S) w:=hw
  have p2:=sameRoutes_pg (q24.mono (hle12.trans hle13)) q27
  haveI hBr13:BrG Γ13:=hBr10.mono (hle11.trans (hle12.trans hle13))
  have hle:=hle.trans (hle11.trans (hle12.trans hle13))
  clear hle11 hle12 hle13 q24 q27 hip hip2
  repeat (first | refine byW ?_ | (refine byV ?_;intro w hw))
  refine lPg (hp:=p2) ?_
  intro w hw
  repeat (first | (first | refine W_seq ?_ | refine W_block ?_ | refine W_region ?_ | refine W_skip ?_ | refine W_ret ?_ | refine W_exit ?_) | ((first | apply L_bin | apply L_notop);first | (refine lT ?_ ?_;(first | exact rfl | exact decide_eq_true rfl | exact hb1 | exact hb2 | exact hb3 | exact hb4 | (focus (simp;done)))) | (refine lF ?_ ?_;(first | exact rfl | exact decide_eq_true rfl | exact hb1 | exact hb2 | exact hb3 | exact hb4 | (focus (simp;done))))) | (first | refine L_nil ?_ | (apply L_plain;first | (apply L_go;first | refine lP ?_ | (refine lPg ?_;intro w hw)) | (apply L_mf;refine lMakeFunc ?_) | refine lY ?_) | (apply L_guarded;first | refine lGT ?_ (hct:=rfl) | refine lGF ?_ (hct:=rfl) | (apply L_go;first | refine lPG ?_ | (refine lPgG ?_;intro w hw)) | refine lG ?_)) | (refine lAlloc ?_;intro _ w hw) | (refine lBox ?_;intro _ w hw) | (refine lStore ?_;intro w hw))
  exact ⟨_,rfl,Γ13,hle,rfl,hw.ds [0,0]⟩
end Go.Proofs.YthgighljhoneeaaGreatDoor
end
section
open Go Mk
namespace Go.Proofs.YthgighljhoneeaaGreatDoor
set_option maxHeartbeats 64000000
attribute [local irreducible] Calls
attribute [local irreducible] matL
theorem sm_sz {H:HwT} (h:HwSm H):HwSz H:=by
 refine ⟨?_,fun c hc=>?_,fun c hc=>?_,fun c hc=>?_⟩
 ·have:=h.n;unfold maxS;omega
 ·have:=(h.hs c hc).1;unfold maxS;omega
 ·have:=h.ms c hc;unfold maxS;omega
 ·have:=h.ds c hc;unfold maxS;omega
theorem AffinityExact_all {Γ:Gho} [hBr:BrG Γ] {S:List Res} {w:World} {u:Value} {H:HwT} [hq:HwQ Γ u H] (hmw:MemWide H) {id cap:Int} {s:ByteArray} {v:Value} {L:List Int} (hr:RepS Γ v 1 (intRows L)) (hw:Wd Γ S w) :
  Calls Tryz.prog 3 #[u,.int .i64 id,.string s,v,.int .i64 cap] w fun e w'=>∃ Γ',Γ.le Γ'∧e=.returned (.bool true)∧Wd Γ' S w':=by
 have hq':=hq
 obtain ⟨a1,n1,c1,a2,n2,c2,a3,n3,c3,a4,n4,c4,a5,n5,c5,cs',rfl,hcs,hok,rr⟩:=hq.h
 by_cases hsm:HwSm H
 ·haveI hR:HwR Γ (.agg #[.string H.Name,.slice a1 n1 c1,.slice a2 n2 c2,.slice a3 n3 c3,.slice a4 n4 c4,.slice a5 n5 c5]) H:=⟨a1,n1,c1,a2,n2,c2,a3,n3,c3,a4,n4,c4,a5,n5,c5,cs',rfl,hcs,hok,sm_sz hsm,rr⟩
  haveI hwd:WideH H:=⟨hmw⟩
  exact AffinityExact_any (sm_sz hsm) hr hw
 have hb:smallHB H=false:=by
  cases hb:smallHB H with
  | false=>rfl
  | true=>exact absurd (smallHB_iff.1 hb) hsm
 obtain ⟨al,nl,cl,rfl,hnl,hncl,hccl⟩:=hr.shape
 refine calls_of_W Tryz.func3 rfl rfl ?_
 repeat (first | refine byW ?_ | (refine byV ?_;intro w hw))
 refine lBox ?_
 intro b5 w hw
 have hw:Wd Γ (.blk b5 (hwC H a1 n1 c1 a2 n2 c2 a3 n3 c3 a4 n4 c4 a5 n5 c5)::S) w:=hw
 repeat (first | refine byW ?_ | (refine byV ?_;intro w hw))
 refine W_cond rfl (fun h=>?_) (fun h=>?_)
 ·repeat (first | refine byW ?_ | (refine byV ?_;intro w hw))
  exact ⟨_,rfl,Γ,.refl _,rfl,hw.drop⟩
 ·exfalso
  simp [hb] at h
end Go.Proofs.YthgighljhoneeaaGreatDoor
end
