/- Texts of this proof, one behind another. -/
import Derived.Test.YthgighljhoneeaaGreatDoorM7
import Derived.Test.YthgighljhoneeaaGreatDoorM5
set_option linter.unusedVariables false
set_option linter.unusedSimpArgs false
section
open Go Mk
namespace Go.Proofs.YthgighljhoneeaaGreatDoor
set_option maxHeartbeats 64000000
attribute [local irreducible] Calls
attribute [local irreducible] matL
set_option maxRecDepth 8000 in
theorem rpools_core {Γ : Gho} {u : Value} {H : HwT} [hh : HwR Γ u H] [hwd : WideH H] {S : List Res} {w : World} {v : Value} {L : List Int} (hr : RepS Γ v 1 (intRows L)) (hN : L.length ≤ 1000) (hLen : (liveS H L).1.length ≤ 64) (hLe : HwLe H) (hw : Wd Γ S w) :
    Calls Tryz.prog 13 #[u,v] w fun e w'=>∃ Γ' v',Γ.le Γ'∧e=.returned (.tuple #[v',.int .i64 (liveS H L).2])∧(((liveS H L).2≠0∧v'=.slice none 0 0∧Wd Γ' S w')∨((liveS H L).2=0 ∧
      ∃ (n:Nat) (a9:Addr) (vs:List Value) (B:List (List RangeT)),v'=.slice (some a9) n n∧n=(liveS H L).1.length∧vs.length=n∧Sorted n (H.Mems.flatMap (blkOf (dstF H) (liveS H L).1)) B∧Wd Γ' (.own (.slice (some a9) n n) 66 2 (poolsR (liveS H L).1 vs)::(inn 68 2 (poolsI vs B)++S)) w')):=by
  have hhw:=hh
  obtain ⟨a1,n1,c1,a2,n2,c2,a3,n3,c3,a4,n4,c4,a5,n5,c5,cs',rfl,hcs,hok,hsz,r1,r2,r3,r4,r5⟩:=hh.h
  obtain ⟨av,nv,cv,rfl,hnv,hncv,hccv⟩:=hr.shape
  have hnv:nv=L.length:=by simpa [intRows] using hnv
  haveI plv:PG Tryz.prog Γ 45 [.agg #[.string H.Name,.slice a1 n1 c1,.slice a2 n2 c2,.slice a3 n3 c3,.slice a4 n4 c4,.slice a5 n5 c5],.slice av nv cv] (.int .i64 (liveS H L).2):=⟨fun S w hw=>lives_any (hh:=hhw) hr hw⟩
  refine calls_of_W Tryz.func13 rfl rfl ?_
  repeat (first | refine byW ?_ | (refine byV ?_;intro w hw))
  refine lBox ?_
  intro b2 w hw
  have hw:Wd Γ (.blk b2 (hwC H a1 n1 c1 a2 n2 c2 a3 n3 c3 a4 n4 c4 a5 n5 c5)::S) w:=hw
  repeat (first | refine byW ?_ | (refine byV ?_;intro w hw))
  refine W_cond rfl (fun h=>?_) (fun h=>?_)
  · have h:(liveS H L).2≠0:=of_decide_eq_true h
    repeat (first | refine byW ?_ | (refine byV ?_;intro w hw))
    exact ⟨_,rfl,Γ,.slice none 0 0,.refl _,rfl,.inl ⟨h,rfl,hw.drop⟩⟩
  have hcode:(liveS H L).2=0:=by
    by_cases e:(liveS H L).2=0
    · exact e
    · exact absurd (decide_eq_true (show (liveS H L).2≠0 from e)) (by simp [h])
  clear h
  obtain ⟨hv,hknown,hnod,hLne,hl1⟩:=liveS_zero hcode
  have hl1n:(liveS H L).1.length=nv:=by rw [hl1,List.length_map,(sortZ_perm L).length_eq,hnv]
  rw [hcode]
  repeat (first | refine byW ?_ | (refine byV ?_;intro w hw))
  refine lCall ((SortInts_any (RepS.rdS hr) (by omega) hw).mono fun e w hq=>?_)
  clear hw
  obtain ⟨vs,rfl,hw⟩:=hq
  refine ⟨_,rfl,?_⟩
  have hLSs:=bsortI_sorted hnod
  have hLSz:=bsortI_sortZ hnod
  have hLSp:=bsortI_perm L
  generalize bsort ltI L=LS at *
  rw [← hLSz] at hl1
  obtain ⟨al,n,cl,rfl,hn, -, -⟩:=hw.own_shape (i:=0) rfl
  have hn:n=LS.length:=by simpa [intRows] using hn
  obtain ⟨Γ1,hle1,rl,hw1⟩:=hw.freeze
  clear hw
  have hw:Wd Γ1 (.blk b2 (hwC H a1 n1 c1 a2 n2 c2 a3 n3 c3 a4 n4 c4 a5 n5 c5)::S) w:=hw1
  clear hw1
  have hR1:=hhw.mono hle1
  obtain ⟨cs,hcsE⟩:∃ cs,cs=(liveS H L).1:=⟨_,rfl⟩
  have hcl:cs.length=n:=by rw [hcsE,hl1,List.length_map,hn]
  have hn64:n≤64:=by rw [← hcl,hcsE];exact hLen
  have hnnv:n=nv:=by rw [← hcl,hcsE];exact hl1n
  have hidf:∀ (k:Nat) (c:CoreT),cs[k]? = some c→LS[k]? = some c.ID∧c∈H.Cores∧(findC H.Cores c.ID).2=true∧coreN H c.ID=c.Node:=fun k c hc=>by
    rw [hcsE,hl1,List.getElem?_map] at hc
    cases hq:LS[k]? with
    | none=>rw [hq] at hc;cases hc
    | some id=>
      rw [hq] at hc
      simp only [Option.map_some,Option.some.injEq] at hc
      have hid:=hknown id (hLSp.mem_iff.1 (List.mem_of_getElem? hq))
      obtain ⟨g1,g2⟩:=findC_in hid
      rw [hc] at g1 g2
      exact ⟨by rw [g2],g1,by rw [g2];exact hid,by unfold coreN;rw [g2,hc]⟩
  have hcm:∀ c∈cs,c∈H.Cores:=fun c hc=>by
    obtain ⟨k,hk⟩:=List.mem_iff_getElem?.1 hc
    exact (hidf k c hk).2.1
  have hmC:∀ (k:Nat) (c:CoreT),cs[k]? = some c→findC H.Cores c.ID=(c,true):=fun k c hc=>by
    obtain ⟨-,h1,h2, -⟩:=hidf k c hc
    obtain ⟨h3,h4⟩:=findC_in h2
    exact Prod.ext (nodup_key (coreIds_nodup hv) _ h3 _ h1 h4) h2
  have hne:0 < n:=by rw [hnnv,hnv];exact Nat.pos_of_ne_zero fun e=>hLne (List.eq_nil_of_length_eq_zero e)
  rw [← hcsE]
  have hpow:∀ m∈H.Mems,∃ e,MemP m e:=fun m hm=>mem_pow hv hwd.h hm
  have hcan:∀ c∈cs,∀ m∈H.Mems,Can (dstF H) c m:=fun c hc m hm=>can_of hv (hcm c hc) hm
  repeat (first | refine byW ?_ | (refine byV ?_;intro w hw))
  refine lCall ((Matrix_any (hh:=hR1) hv hw).mono fun e w hq=>?_)
  clear hw
  obtain ⟨rfl,hw⟩:=hq
  refine ⟨_,rfl,?_⟩
  repeat (first | refine byW ?_ | (refine byV ?_;intro w hw))
  refine lAlloc ?_
  intro b8 w hw
  rw [matL_zero] at hw
  have hw:Wd Γ1 (.blk b8 (.cells (matL (fun _ _=>0)).toArray 80)::.blk b2 (hwC H a1 n1 c1 a2 n2 c2 a3 n3 c3 a4 n4 c4 a5 n5 c5)::S) w:=hw
  refine lStore (i:=0) (vs:=matL (dstM H)) ?_ (hl:=matL_len _) (h1:=by rw [List.all_eq_true];exact matL_one _) (ho:=by simp [matL_len]) (hv:=by simp [Value.cells])
  intro w hw
  have hw:Wd Γ1 (.blk b8 (.cells (putCells (matL (fun _ _=>0)).toArray 0 (matL (dstM H))) 80)::.blk b2 (hwC H a1 n1 c1 a2 n2 c2 a3 n3 c3 a4 n4 c4 a5 n5 c5)::S) w:=hw
  rw [show putCells (matL (fun _ _=>0)).toArray 0 (matL (dstM H))=(matL (dstM H)).toArray from by unfold putCells;simp [matL_len]] at hw
  obtain ⟨Γ2,hle2,hD,hw1⟩:=hw.freezeB
  clear hw
  have hw:=hw1
  clear hw1
  have hR2:=hR1.mono hle2
  have rl:=rl.mono hle2
  repeat (first | refine byW ?_ | (refine byV ?_;intro w hw))
  refine lMakeSlice (len:=n) ?_
  intro a9 w hw
  have hw:Wd Γ2 (.own (.slice (some a9) n n) 66 2 (firstR cs 0)::.blk b2 (hwC H a1 n1 c1 a2 n2 c2 a3 n3 c3 a4 n4 c4 a5 n5 c5)::S) w:=by
    have:firstR cs 0=List.replicate n [.int .i64 0,.slice none 0 0]:=by unfold firstR;simp [hcl]
    rw [this];exact hw
  repeat (first | refine byW ?_ | (refine byV ?_;intro w hw))
  refine W_loop (fun μ ρ w=>∃ (k:Nat),μ+k=n∧Has ρ [(2,.pointer (some ⟨b2,0,none⟩)),(7,.slice al n cl),(8,.pointer (some ⟨b8,0,none⟩)),(9,.slice (some a9) n n),(10,.int .i64 k)]∧Wd Γ2 (.own (.slice (some a9) n n) 66 2 (firstR cs k)::.blk b2 (hwC H a1 n1 c1 a2 n2 c2 a3 n3 c3 a4 n4 c4 a5 n5 c5)::S) w) n ⟨0,by omega,⟨rfl,rfl,rfl,rfl,rfl,trivial⟩,hw⟩ ?_
  clear hw
  rintro μ ρ w ⟨k,hk,hρ,hw⟩
  rw [hρ.eq]
  clear hρ
  repeat (first | refine byW ?_ | (refine byV ?_;intro w hw))
  refine W_cond rfl (fun h=>?_) (fun h=>?_)
  · have hkn:k < n:=by have:=of_decide_eq_true h;omega
    clear h
    obtain ⟨c,hc⟩:=get_lt (l:=cs) (k:=k) (by omega)
    have hLk:=(hidf k c hc).1
    repeat (first | refine byW ?_ | (refine byV ?_;intro w hw))
    refine lStoreEf (i:=0) (k:=k) (f:=0) (row:=[.int .i64 0,.slice none 0 0]) ?_ (firstR_get (cs:=cs) (k:=k) (by omega))
    intro w hw
    have hw:Wd Γ2 (.own (.slice (some a9) n n) 66 2 ((firstR cs k).set k [.int .i64 c.ID,.slice none 0 0])::.blk b2 (hwC H a1 n1 c1 a2 n2 c2 a3 n3 c3 a4 n4 c4 a5 n5 c5)::S) w:=hw
    rw [firstR_set hc] at hw
    repeat (first | refine byW ?_ | (refine byV ?_;intro w hw))
    exact ⟨n - k - 1,by omega,k+1,by omega,⟨rfl,rfl,rfl,rfl,rfl,trivial⟩,hw⟩
  have hkn:k=n:=by have:=of_decide_eq_false h;omega
  clear h
  rw [hkn,← hcl,firstR_end,hcl] at hw
  have hw:Wd Γ2 (.own (.slice (some a9) n n) 66 2 (poolsR cs (List.replicate n (.slice none 0 0)))::.blk b2 (hwC H a1 n1 c1 a2 n2 c2 a3 n3 c3 a4 n4 c4 a5 n5 c5)::(inn 68 2 (poolsI (List.replicate n (.slice none 0 0)) (bls n []))++S)) w:=by
    rw [poolsI_nil]
    have h1:=inn_nil (E:=68) (sz:=2) n hw
    exact (h1.unrot.ps [0]).perm (List.Perm.cons _ List.perm_middle)
  clear hkn hk
  repeat (first | refine byW ?_ | (refine byV ?_;intro w hw))
  refine lCall ((RNormalize_any (hh:=hR2) hLe hw).mono fun e w hq=>?_)
  clear hw
  obtain ⟨Γ8,u8,hle8,rfl,ho⟩:=hq
  refine ⟨_,rfl,?_⟩
  obtain ⟨Γ9,hle9,hNm,hw⟩:=ho.freeze (norm_sz hsz)
  clear ho
  obtain ⟨b1',m1',d1',b2',m2',d2',b3',m3',d3',b4',m4',d4',b5',m5',d5',cs'',rfl, -, -, -, -, -, -,rN, -⟩:=hNm.h
  obtain ⟨hnp,hnb⟩:=mems_norm hv
  generalize (normS H).Mems=X at *
  have hle29:=hle8.trans hle9
  have hR9:=hR2.mono hle29
  have rl:=rl.mono hle29
  have hD:=hD.mono hle29
  have hle:Γ.le Γ9:=hle1.trans (hle2.trans hle29)
  obtain ⟨hnN,hncN, -⟩:=rep_facts rN
  simp only [List.length_map] at hnN
  have hmem:X.length≤64:=by
    rw [hnp.length_eq]
    obtain ⟨-,h2, -⟩:=valid_all hv
    unfold countsB at h2
    simp only [Bool.and_eq_true,decide_eq_true_eq] at h2
    omega
  clear hle1 hle2 hle8 hle9 hle29 hR1 hR2 hNm
  have hcost:∀ m∈H.Mems,∀ (k:Nat) (c:CoreT),cs[k]? = some c→PG Tryz.prog Γ9 32 [.agg #[.string H.Name,.slice a1 n1 c1,.slice a2 n2 c2,.slice a3 n3 c3,.slice a4 n4 c4,.slice a5 n5 c5],.agg (matL (dstM H)).toArray,.int .i64 c.ID,.agg (enc m).toArray] (.int .i64 (costM (dstF H) c m)):=fun m hm k c hc=>rcost_pg (hh:=hR9) hv (hmC k c hc) hm
  repeat (first | refine byW ?_ | (refine byV ?_;intro w hw))
  refine lY (v:=.slice b4' m4' d4') ?_ (hy:=y_fldS (Tryz.underlying28) rfl rfl (by kernel_rfl) rfl)
  repeat (first | refine byW ?_ | (refine byV ?_;intro w hw))
  refine W_loop (fun μ ρ w=>∃ (j:Nat) (vs:List Value),μ+j=m4'∧vs.length=n∧Has ρ [(2,.pointer (some ⟨b2,0,none⟩)),(7,.slice al n cl),(8,.pointer (some ⟨b8,0,none⟩)),(9,.slice (some a9) n n),(11,.slice b4' m4' d4'),(12,.int .i64 j)]∧Wd Γ9 (.own (.slice (some a9) n n) 66 2 (poolsR cs vs)::.blk b2 (hwC H a1 n1 c1 a2 n2 c2 a3 n3 c3 a4 n4 c4 a5 n5 c5)::(inn 68 2 (poolsI vs (bls n ((X.take j).flatMap (blkOf (dstF H) cs))))++S)) w) m4' ⟨0,List.replicate n (.slice none 0 0),by omega,by simp,⟨rfl,rfl,rfl,rfl,rfl,rfl,trivial⟩,hw⟩ ?_
  clear hw
  rintro μ ρ w ⟨j,vs,hj,hvs,hρ,hw⟩
  rw [hρ.eq]
  clear hρ
  repeat (first | refine byW ?_ | (refine byV ?_;intro w hw))
  refine W_cond rfl (fun h=>?_) (fun h=>?_)
  · have hjn:j < m4':=by have:=of_decide_eq_true h;omega
    clear h
    obtain ⟨m,hm⟩:=get_lt (l:=X) (k:=j) (by omega)
    have hmm:=hnp.mem_iff.1 (List.mem_of_getElem? hm)
    obtain ⟨e,he⟩:=hpow m hmm
    have hcm2:∀ c∈cs,Can (dstF H) c m:=fun c hc=>hcan c hc m hmm
    generalize hl:(X.take j).flatMap (blkOf (dstF H) cs)=l at *
    have hl':(X.take (j+1)).flatMap (blkOf (dstF H) cs)=l++blkOf (dstF H) cs m:=by rw [take_succ_of hm,List.flatMap_append,hl];simp
    have hcI:∀ (k:Nat) (c:CoreT),cs[k]? = some c→costI (dstF H) cs m k=costM (dstF H) c m:=fun k c hc=>by unfold costI;simp [hc]
    have hcI0:∀ k,k < n→0≤costI (dstF H) cs m k:=fun k hk=>by
      obtain ⟨c,hc⟩:=get_lt (l:=cs) (k:=k) (by omega)
      rw [hcI k c hc]
      have h1:=(hcm2 c (List.mem_of_getElem? hc)).d
      have h2:=(hcm2 c (List.mem_of_getElem? hc)).l
      unfold costM;omega
    repeat (first | refine byW ?_ | (refine byV ?_;intro w hw))
    refine lAlloc ?_
    intro b13 w hw
    refine lStore ?_
    intro w hw
    obtain ⟨S1,hS1⟩:∃ S1,S1=.own (.slice (some a9) n n) 66 2 (poolsR cs vs)::(inn 68 2 (poolsI vs (bls n l))++S):=⟨_,rfl⟩
    have hw:Wd Γ9 (.blk b13 (.cells (enc m).toArray 61)::.blk b2 (hwC H a1 n1 c1 a2 n2 c2 a3 n3 c3 a4 n4 c4 a5 n5 c5)::S1) w:=by
      rw [hS1]
      exact Wd.ps (S:=.blk b13 (.cells (enc m).toArray 61)::.own (.slice (some a9) n n) 66 2 (poolsR cs vs)::.blk b2 (hwC H a1 n1 c1 a2 n2 c2 a3 n3 c3 a4 n4 c4 a5 n5 c5)::(inn 68 2 (poolsI vs (bls n l))++S)) [2,1] hw
    obtain ⟨c0,hc0⟩:=get_lt (l:=cs) (k:=0) (by omega)
    have hL0:=(hidf 0 c0 hc0).1
    haveI p0:=hcost m hmm 0 c0 hc0
    repeat (first | refine byW ?_ | (refine byV ?_;intro w hw))
    refine W_quiet (by kernel_rfl) (by kernel_rfl) hw ?_
    repeat (first | refine Q_nil ?_ | (apply Q_plain;first | (apply Q_go;first | refine qP ?_ | refine qPg ?_) | refine qY ?_) | (apply Q_guarded;first | (apply Q_go;first | refine qPG ?_ | refine qPgG ?_) | refine qG ?_))
    refine qY (v:=.agg (matL (dstM H)).toArray) ?_ (hy:=fun w hw=>y_lpm (hB:=hD) (m:=4096) hw rfl (by rw [List.drop_zero];exact List.take_of_length_le (by simp [matL_len])) (matL_len _))
    repeat (first | refine Q_nil ?_ | (apply Q_plain;first | (apply Q_go;first | refine qP ?_ | refine qPg ?_) | refine qY ?_) | (apply Q_guarded;first | (apply Q_go;first | refine qPG ?_ | refine qPgG ?_) | refine qG ?_))
    intro w hw
    repeat (first | refine byW ?_ | (refine byV ?_;intro w hw))
    refine W_loop (fun μ2 ρ w=>∃ (k:Nat) (b:Int),μ2+k=n∧1≤k∧(∃ i,i < k∧costI (dstF H) cs m i=b)∧(∀ i,i < k→b≤costI (dstF H) cs m i)∧Has ρ [(2,.pointer (some ⟨b2,0,none⟩)),(7,.slice al n cl),(8,.pointer (some ⟨b8,0,none⟩)),(9,.slice (some a9) n n),(11,.slice b4' m4' d4'),(12,.int .i64 j),(13,.pointer (some ⟨b13,0,none⟩)),(14,.int .i64 b),(15,.int .i64 k)]∧Wd Γ9 (.blk b13 (.cells (enc m).toArray 61)::.blk b2 (hwC H a1 n1 c1 a2 n2 c2 a3 n3 c3 a4 n4 c4 a5 n5 c5)::S1) w) (n - 1) ⟨1,costM (dstF H) c0 m,by omega,by omega,⟨0,by omega,hcI 0 c0 hc0⟩,fun i hi=>by rw [show i=0 by omega,hcI 0 c0 hc0];exact Int.le_refl _,⟨rfl,rfl,rfl,rfl,rfl,rfl,rfl,rfl,rfl,trivial⟩,hw⟩ ?_
    clear hw p0
    rintro μ2 ρ w ⟨k,b,hμ2,hk1,hbe,hbl,hρ,hw⟩
    rw [hρ.eq]
    clear hρ
    repeat (first | refine byW ?_ | (refine byV ?_;intro w hw))
    refine W_cond rfl (fun h=>?_) (fun h=>?_)
    · have hkn:k < n:=by have:=of_decide_eq_true h;omega
      clear h
      obtain ⟨c,hc⟩:=get_lt (l:=cs) (k:=k) (by omega)
      have hLk:=(hidf k c hc).1
      haveI pk:=hcost m hmm k c hc
      have hck:=hcI k c hc
      generalize hce:costM (dstF H) c m=ce at *
      repeat (first | refine byW ?_ | (refine byV ?_;intro w hw))
      refine W_quiet (by kernel_rfl) (by kernel_rfl) hw ?_
      repeat (first | refine Q_nil ?_ | (apply Q_plain;first | (apply Q_go;first | refine qP ?_ | refine qPg ?_) | refine qY ?_) | (apply Q_guarded;first | (apply Q_go;first | refine qPG ?_ | refine qPgG ?_) | refine qG ?_))
      refine qY (v:=.agg (matL (dstM H)).toArray) ?_ (hy:=fun w hw=>y_lpm (hB:=hD) (m:=4096) hw rfl (by rw [List.drop_zero];exact List.take_of_length_le (by simp [matL_len])) (matL_len _))
      repeat (first | refine Q_nil ?_ | (apply Q_plain;first | (apply Q_go;first | refine qP ?_ | refine qPg ?_) | refine qY ?_) | (apply Q_guarded;first | (apply Q_go;first | refine qPG ?_ | refine qPgG ?_) | refine qG ?_))
      intro w hw
      repeat (first | refine byW ?_ | (refine byV ?_;intro w hw))
      refine ⟨n - k - 1,by omega,k+1,if ce < b then ce else b,by omega,by omega,?_,fun i hi=>?_,⟨rfl,rfl,rfl,rfl,rfl,rfl,rfl,rfl,rfl,trivial⟩,hw⟩
      · by_cases e2:ce < b
        · exact ⟨k,by omega,by rw [if_pos e2];exact hck⟩
        · obtain ⟨i,hi,hib⟩:=hbe
          exact ⟨i,by omega,by rw [if_neg e2];exact hib⟩
      · by_cases e3:i=k
        · subst e3;rw [hck];split <;> omega
        · have:=hbl i (by omega)
          split <;> omega
    have hkn:k=n:=by have:=of_decide_eq_false h;omega
    clear h
    rw [hkn] at hbe hbl
    clear hkn hk1 hμ2
    have hnear:nearL (dstF H) cs m=(List.range n).filter (fun i=>decide (costI (dstF H) cs m i=b))∧0 < (nearL (dstF H) cs m).length:=by
      rcases candR_ok (f:=costI (dstF H) cs m) cs.length (fun i hi=>hcI0 i (by omega)) with ⟨h1, -⟩ | ⟨-,h2,h3,h4, -⟩
      · omega
      · have hb : (candR (costI (dstF H) cs m) cs.length).1 = b := by
          obtain ⟨i0,hi0,hib⟩:=hbe
          have g1:=h2 i0 (by omega)
          obtain ⟨x,hx⟩:=get_lt (l:=(candR (costI (dstF H) cs m) cs.length).2) (k:=0) h4
          have hxm:=List.mem_of_getElem? hx
          rw [h3] at hxm
          have g2:=List.mem_filter.1 hxm
          have g3:=of_decide_eq_true g2.2
          have g4:=hbl x (by have:=List.mem_range.1 g2.1;omega)
          omega
        unfold nearL
        rw [h3,hb,hcl]
        refine ⟨rfl,?_⟩
        rw [h3,hb,hcl] at h4
        exact h4
    obtain ⟨hnE,hnpos⟩:=hnear
    have hw:=Wd.addNil (a:=none) (E:=3) (sz:=1) hw
    repeat (first | refine byW ?_ | (refine byV ?_;intro w hw))
    refine W_loop (fun μ2 ρ w=>∃ (i:Nat) (v16:Value),μ2+i=n∧Has ρ [(2,.pointer (some ⟨b2,0,none⟩)),(7,.slice al n cl),(8,.pointer (some ⟨b8,0,none⟩)),(9,.slice (some a9) n n),(11,.slice b4' m4' d4'),(12,.int .i64 j),(13,.pointer (some ⟨b13,0,none⟩)),(14,.int .i64 b),(16,v16),(17,.int .i64 i)]∧Wd Γ9 (.own v16 3 1 (intRows (((List.range i).filter fun x=>decide (costI (dstF H) cs m x=b)).map fun x:Nat=>(x:Int)))::.blk b13 (.cells (enc m).toArray 61)::.blk b2 (hwC H a1 n1 c1 a2 n2 c2 a3 n3 c3 a4 n4 c4 a5 n5 c5)::S1) w) n ⟨0,.slice none 0 0,by omega,⟨rfl,rfl,rfl,rfl,rfl,rfl,rfl,rfl,rfl,rfl,trivial⟩,hw⟩ ?_
    clear hw
    rintro μ2 ρ w ⟨i,v16,hi,hρ,hw⟩
    rw [hρ.eq]
    clear hρ
    obtain ⟨a16,n16,c16,rfl,hn16,hnc16, -⟩:=hw.own_shape (i:=0) rfl
    simp only [intRows,List.length_map] at hn16
    repeat (first | refine byW ?_ | (refine byV ?_;intro w hw))
    refine W_cond rfl (fun h=>?_) (fun h=>?_)
    · have hin:i < n:=by have:=of_decide_eq_true h;omega
      clear h
      obtain ⟨c,hc⟩:=get_lt (l:=cs) (k:=i) (by omega)
      have hLi:=(hidf i c hc).1
      haveI pk:=hcost m hmm i c hc
      have hck:=hcI i c hc
      have hrg:(List.range (i+1)).filter (fun x=>decide (costI (dstF H) cs m x=b))=(List.range i).filter (fun x=>decide (costI (dstF H) cs m x=b))++if costM (dstF H) c m=b then [i] else []:=by
        rw [List.range_succ,List.filter_append,← hck]
        by_cases e2:costI (dstF H) cs m i=b
        · rw [if_pos e2,List.filter_cons_of_pos (by exact decide_eq_true e2)];rfl
        · rw [if_neg e2,List.filter_cons_of_neg (by simp [e2])];rfl
      have hlen16:n16≤i:=by
        rw [hn16]
        have:=List.length_filter_le (fun x=>decide (costI (dstF H) cs m x=b)) (List.range i)
        simpa using this
      repeat (first | refine byW ?_ | (refine byV ?_;intro w hw))
      refine W_quiet (by kernel_rfl) (by kernel_rfl) hw ?_
      repeat (first | refine Q_nil ?_ | (apply Q_plain;first | (apply Q_go;first | refine qP ?_ | refine qPg ?_) | refine qY ?_) | (apply Q_guarded;first | (apply Q_go;first | refine qPG ?_ | refine qPgG ?_) | refine qG ?_))
      refine qY (v:=.agg (matL (dstM H)).toArray) ?_ (hy:=fun w hw=>y_lpm (hB:=hD) (m:=4096) hw rfl (by rw [List.drop_zero];exact List.take_of_length_le (by simp [matL_len])) (matL_len _))
      repeat (first | refine Q_nil ?_ | (apply Q_plain;first | (apply Q_go;first | refine qP ?_ | refine qPg ?_) | refine qY ?_) | (apply Q_guarded;first | (apply Q_go;first | refine qPG ?_ | refine qPgG ?_) | refine qG ?_))
      intro w hw
      repeat (first | refine byW ?_ | (refine byV ?_;intro w hw))
      refine W_cond rfl (fun h=>?_) (fun h=>?_)
      · have h:costM (dstF H) c m=b:=of_decide_eq_true h
        rw [if_pos h] at hrg
        repeat (first | refine byW ?_ | (refine byV ?_;intro w hw))
        refine lBuildSlice [[.int .i64 (i:Int)]] ?_
        intro a87 w hw
        refine lApp (i:=1) (rows2:=[[.int .i64 (i:Int)]]) ?_ (hw.own_rd (i:=0) rfl) rfl rfl hw rfl (by simp [Value.oneCell']) rfl
        intro v16 w hw
        have hw:Wd Γ9 (.own v16 3 1 (intRows (((List.range (i+1)).filter fun x=>decide (costI (dstF H) cs m x=b)).map fun x:Nat=>(x:Int)))::.blk b13 (.cells (enc m).toArray 61)::.blk b2 (hwC H a1 n1 c1 a2 n2 c2 a3 n3 c3 a4 n4 c4 a5 n5 c5)::S1) w:=by
          rw [hrg,List.map_append,intRows_app]
          exact hw.drop
        repeat (first | refine byW ?_ | (refine byV ?_;intro w hw))
        exact ⟨n - i - 1,by omega,i+1,v16,by omega,⟨rfl,rfl,rfl,rfl,rfl,rfl,rfl,rfl,rfl,rfl,trivial⟩,hw⟩
      · have h:¬ costM (dstF H) c m=b:=of_decide_eq_false h
        rw [if_neg h,List.append_nil] at hrg
        repeat (first | refine byW ?_ | (refine byV ?_;intro w hw))
        exact ⟨n - i - 1,by omega,i+1,_,by omega,⟨rfl,rfl,rfl,rfl,rfl,rfl,rfl,rfl,rfl,rfl,trivial⟩,by rw [hrg];exact hw⟩
    have hin:i=n:=by have:=of_decide_eq_false h;omega
    clear h
    rw [hin,← hnE] at hw hn16
    clear hin hi hbe hbl
    have hnlt:∀ x∈nearL (dstF H) cs m,x < n:=fun x hx=>by rw [← hcl];exact candR_lt _ x hx
    have hnlen:(nearL (dstF H) cs m).length≤n:=by rw [← hcl];exact candR_len _
    have hsz0:=he.size
    have hpk:2 ^ e≤1099511627776:=Nat.le_trans (Nat.pow_le_pow_right (n:=2) (by omega) he.hi) (by decide)
    have hsz1:0≤m.Size∧m.Size≤1099511627776:=by
      rw [hsz0]
      generalize 2 ^ e=E at hpk ⊢
      omega
    have hP:IntKind.u64.wrap (m.Size.tdiv 4096)=((m.Size.toNat / 4096:Nat):Int):=by
      rw [Int.tdiv_eq_ediv_of_nonneg hsz1.1]
      simp [IntKind.wrap,IntKind.bits,IntKind.signed];omega
    have hu64:∀ z:Int,0≤z→z < 18446744073709551616→IntKind.u64.wrap z=z:=fun z h1 h2=>by simp [IntKind.wrap,IntKind.bits,IntKind.signed];omega
    have hn16w:IntKind.u64.wrap (n16:Int)=n16:=hu64 _ (by omega) (by omega)
    repeat (first | refine byW ?_ | (refine byV ?_;intro w hw))
    refine W_loop (fun μ2 ρ w=>∃ q:Nat,18446744073709551616≤q * 2 ^ μ2∧q≤2000∧dblN (nearL (dstF H) cs m).length (m.Size.toNat / 4096) μ2 q=cutN m (nearL (dstF H) cs m).length∧Has ρ [(2,.pointer (some ⟨b2,0,none⟩)),(7,.slice al n cl),(8,.pointer (some ⟨b8,0,none⟩)),(9,.slice (some a9) n n),(11,.slice b4' m4' d4'),(12,.int .i64 j),(13,.pointer (some ⟨b13,0,none⟩)),(16,.slice a16 n16 c16),(18,.int .u64 q)]∧Wd Γ9 (.own (.slice a16 n16 c16) 3 1 (intRows ((nearL (dstF H) cs m).map fun x:Nat=>(x:Int)))::.blk b13 (.cells (enc m).toArray 61)::.blk b2 (hwC H a1 n1 c1 a2 n2 c2 a3 n3 c3 a4 n4 c4 a5 n5 c5)::S1) w) 64 ⟨1,by decide,by omega,rfl,⟨rfl,rfl,rfl,rfl,rfl,rfl,rfl,rfl,rfl,trivial⟩,hw⟩ ?_
    clear hw
    rintro μ2 ρ w ⟨q,hq1,hq2,hq3,hρ,hw⟩
    rw [hρ.eq]
    clear hρ
    generalize hPg:m.Size.toNat / 4096=PP at *
    have hlg:(nearL (dstF H) cs m).length=n16:=by rw [hn16]
    repeat (first | refine byW ?_ | (refine byV ?_;intro w hw))
    refine W_cond rfl (fun h=>?_) (fun h=>?_)
    · have h:(q:Int) < IntKind.u64.wrap (n16:Int)∧(q:Int) < IntKind.u64.wrap (m.Size.tdiv 4096):=by simpa using h
      rw [hn16w,hP] at h
      obtain ⟨f,rfl⟩:∃ f,μ2=f+1:=by
        cases μ2 with
        | zero=>simp at hq1;omega
        | succ f=>exact ⟨f,rfl⟩
      have hst:dblN (nearL (dstF H) cs m).length PP f (2 * q)=cutN m (nearL (dstF H) cs m).length:=by
        rw [← hq3,dblN,if_pos (by omega)]
      repeat (first | refine byW ?_ | (refine byV ?_;intro w hw))
      exact ⟨f,by omega,2 * q,by rw [Nat.pow_succ] at hq1;rw [Nat.mul_comm 2 q,Nat.mul_assoc,Nat.mul_comm 2];exact hq1,by omega,hst,⟨rfl,rfl,rfl,rfl,rfl,rfl,rfl,rfl,by show Value.int .u64 (IntKind.u64.wrap (2 * (q:Int)))=_;rw [hu64 _ (by omega) (by omega),show ((2 * q:Nat):Int)=2 * (q:Int) by omega],trivial⟩,hw⟩
    have h:¬ ((q:Int) < IntKind.u64.wrap (n16:Int)∧(q:Int) < IntKind.u64.wrap (m.Size.tdiv 4096)):=by
      intro hh
      simp [hh.1,hh.2] at h
    rw [hn16w,hP] at h
    have hst:q=cutN m (nearL (dstF H) cs m).length:=by rw [← hq3,dbl_stop (by omega)]
    clear h hq1 hq2 hq3
    subst hPg
    obtain ⟨jj,hj1,hj2,hj3⟩:=cut_pow he (nearL (dstF H) cs m).length
    have hLl:cs.length≤1000:=by omega
    have hq2000:=cut_lt (D:=dstF H) he hLl
    have hblk:blkOf (dstF H) cs m=(List.range (cutN m (nearL (dstF H) cs m).length)).map fun i=>((nearL (dstF H) cs m).getD (i % (nearL (dstF H) cs m).length) 0,⟨m.Base+i * ((m.Size.toNat / cutN m (nearL (dstF H) cs m).length:Nat):Int),((m.Size.toNat / cutN m (nearL (dstF H) cs m).length).log2:Nat)⟩):=rfl
    have hqpos:0 < cutN m (nearL (dstF H) cs m).length:=by rw [hj2];exact Nat.pow_pos (by omega)
    rw [← hst] at hblk hqpos hq2000 hj3
    clear hj2 hst
    obtain ⟨sz,hsz⟩:∃ sz,sz=m.Size.toNat / q:=⟨_,rfl⟩
    rw [← hsz] at hblk hj3
    haveI htz:PG Tryz.prog Γ9 47 [.int .u64 ((sz:Nat):Int)] (.int .i64 ((sz.log2:Nat):Int)):=by
      rw [hj3,Nat.log2_two_pow]
      exact pg_log2 (by have:=he.hi;omega)
    have hsq:sz * q≤m.Size.toNat:=by rw [hsz];exact Nat.div_mul_le_self _ _
    have hszl:sz≤m.Size.toNat:=Nat.le_trans (Nat.le_mul_of_pos_right _ hqpos) hsq
    have hszq:IntKind.u64.wrap (m.Size.tdiv (q:Int))=(sz:Int):=by
      rw [Int.tdiv_eq_ediv_of_nonneg hsz1.1]
      have e1:m.Size / (q:Int)=((m.Size.toNat / q:Nat):Int):=by
        rw [Int.natCast_ediv,Int.toNat_of_nonneg hsz1.1]
      rw [e1,← hsz]
      exact hu64 _ (by omega) (by omega)
    have hlenl:l.length≤200000:=by
      rw [← hl]
      have h1:∀ x∈X.take j,(blkOf (dstF H) cs x).length≤2000:=fun x hx=>by
        obtain ⟨e',he'⟩:=hpow x (hnp.mem_iff.1 (List.mem_of_mem_take hx))
        have:=cut_lt (D:=dstF H) he' hLl
        unfold blkOf;simpa using this
      have h2:∀ ms:List MemT,(∀ x∈ms,(blkOf (dstF H) cs x).length≤2000)→(ms.flatMap (blkOf (dstF H) cs)).length≤2000 * ms.length:=fun ms=>by
        induction ms with
        | nil=>intro _;simp
        | cons y ys ih=>
          intro h
          have a1:=h y (by simp)
          have a2:=ih fun x hx=>h x (by simp [hx])
          rw [List.flatMap_cons,List.length_append,List.length_cons];omega
      have h3:=h2 _ h1
      have h4:=List.length_take_le j X
      omega
    have hw:Wd Γ9 (.own (.slice a16 n16 c16) 3 1 (intRows ((nearL (dstF H) cs m).map fun x:Nat=>(x:Int)))::.blk b13 (.cells (enc m).toArray 61)::.blk b2 (hwC H a1 n1 c1 a2 n2 c2 a3 n3 c3 a4 n4 c4 a5 n5 c5)::.own (.slice (some a9) n n) 66 2 (poolsR cs vs)::(inn 68 2 (poolsI vs (bls n (l++(blkOf (dstF H) cs m).take 0)))++S)) w:=by
      rw [hS1] at hw;simpa using hw
    clear hS1
    repeat (first | refine byW ?_ | (refine byV ?_;intro w hw))
    refine W_loop (fun μ2 ρ w=>∃ (i:Nat) (vs:List Value),μ2+i=q∧vs.length=n∧Has ρ [(2,.pointer (some ⟨b2,0,none⟩)),(7,.slice al n cl),(8,.pointer (some ⟨b8,0,none⟩)),(9,.slice (some a9) n n),(11,.slice b4' m4' d4'),(12,.int .i64 j),(13,.pointer (some ⟨b13,0,none⟩)),(16,.slice a16 n16 c16),(18,.int .u64 q),(19,.int .u64 i)]∧Wd Γ9 (.own (.slice a16 n16 c16) 3 1 (intRows ((nearL (dstF H) cs m).map fun x:Nat=>(x:Int)))::.blk b13 (.cells (enc m).toArray 61)::.blk b2 (hwC H a1 n1 c1 a2 n2 c2 a3 n3 c3 a4 n4 c4 a5 n5 c5)::.own (.slice (some a9) n n) 66 2 (poolsR cs vs)::(inn 68 2 (poolsI vs (bls n (l++(blkOf (dstF H) cs m).take i)))++S)) w) q ⟨0,vs,by omega,hvs,⟨rfl,rfl,rfl,rfl,rfl,rfl,rfl,rfl,rfl,rfl,trivial⟩,hw⟩ ?_
    clear hw hvs
    rintro μ2 ρ w ⟨i,vs,hi,hvs,hρ,hw⟩
    rw [hρ.eq]
    clear hρ
    repeat (first | refine byW ?_ | (refine byV ?_;intro w hw))
    refine W_cond rfl (fun h=>?_) (fun h=>?_)
    · have hin:i < q:=by have:=of_decide_eq_true h;omega
      clear h
      have hrl:i % (nearL (dstF H) cs m).length < (nearL (dstF H) cs m).length:=Nat.mod_lt _ hnpos
      obtain ⟨k,hk⟩:=get_lt (l:=nearL (dstF H) cs m) (k:=i % (nearL (dstF H) cs m).length) hrl
      have hkn:k < n:=hnlt k (List.mem_of_getElem? hk)
      have hbi:(blkOf (dstF H) cs m)[i]? = some (k,⟨m.Base+i * (sz:Int),(sz.log2:Nat)⟩):=by
        rw [hblk,List.getElem?_map,List.getElem?_range hin]
        simp [List.getD_eq_getElem?_getD,hk]
      have htm:(i:Int).tmod (n16:Int)=((i % (nearL (dstF H) cs m).length:Nat):Int):=by
        rw [hn16,Int.tmod_eq_emod_of_nonneg (by omega)];rfl
      have hid:((nearL (dstF H) cs m).map fun x:Nat=>(x:Int))[((i:Int).tmod (n16:Int)).toNat]? = some (k:Int):=by
        rw [htm,Int.toNat_natCast,List.getElem?_map,hk];rfl
      have htm2:0≤(i:Int).tmod (n16:Int)∧(i:Int).tmod (n16:Int) < n16:=by rw [htm];omega
      have hiwi:IntKind.i64.wrap (i:Int)=i:=wrap_i64 (by omega) (by omega)
      have htm3:0≤(IntKind.i64.wrap (i:Int)).tmod (n16:Int)∧(IntKind.i64.wrap (i:Int)).tmod (n16:Int) < n16:=by rw [hiwi];exact htm2
      have hid3:((nearL (dstF H) cs m).map fun x:Nat=>(x:Int))[((IntKind.i64.wrap (i:Int)).tmod (n16:Int)).toNat]? = some (k:Int):=by rw [hiwi];exact hid
      clear htm hk hrl
      obtain ⟨c,hc⟩:=get_lt (l:=cs) (k:=k) (by omega)
      obtain ⟨vk,hvk⟩:=get_lt (l:=vs) (k:=k) (by omega)
      have ha9:(some a9:Option Addr)=some ⟨aB (some a9),aO (some a9),none⟩:=(hw.own_rd (i:=3) rfl).at_ (by unfold poolsR;simp [List.length_zip];omega)
      repeat (first | refine byW ?_ | (refine byV ?_;intro w hw))
      have hl2:(l++(blkOf (dstF H) cs m).take i).length≤210000:=by
        rw [List.length_append]
        have h1:=List.length_take_le i (blkOf (dstF H) cs m)
        omega
      have hl3:(l++(blkOf (dstF H) cs m).take i)++[(k,(⟨m.Base+i * (sz:Int),(sz.log2:Nat)⟩:RangeT))]=l++(blkOf (dstF H) cs m).take (i+1):=by
        rw [take_succ_of hbi,List.append_assoc]
      have hbl:=bls_set (n:=n) (k:=k) (l:=l++(blkOf (dstF H) cs m).take i) (r:=⟨m.Base+i * (sz:Int),(sz.log2:Nat)⟩)
      rw [hl3] at hbl
      have hB:(bls n (l++(blkOf (dstF H) cs m).take i))[k]? = some (ofC k (l++(blkOf (dstF H) cs m).take i)):=by unfold bls;rw [List.getElem?_map,List.getElem?_range hkn];rfl
      have hoC:(ofC k (l++(blkOf (dstF H) cs m).take i)).length≤210000:=by
        unfold ofC
        rw [List.length_map]
        exact Nat.le_trans (List.length_filter_le _ _) hl2
      clear hl2 hl3
      generalize l++(blkOf (dstF H) cs m).take i=l' at *
      generalize ofC k l'=bk at *
      have hop:=inn_openA (A:=[.own (.slice a16 n16 c16) 3 1 (intRows ((nearL (dstF H) cs m).map fun x:Nat=>(x:Int))),.blk b13 (.cells (enc m).toArray 61),.blk b2 (hwC H a1 n1 c1 a2 n2 c2 a3 n3 c3 a4 n4 c4 a5 n5 c5),.own (.slice (some a9) n n) 66 2 (poolsR cs vs)]) (poolsI_get hvk hB) hw
      clear hw
      have hw:Wd Γ9 ([.blk b13 (.cells (enc m).toArray 61)]++(.own (.slice (some a9) n n) 66 2 (poolsR cs vs)::.own vk 68 2 (bk.map enc)::.blk b2 (hwC H a1 n1 c1 a2 n2 c2 a3 n3 c3 a4 n4 c4 a5 n5 c5)::.own (.slice a16 n16 c16) 3 1 (intRows ((nearL (dstF H) cs m).map fun x:Nat=>(x:Int)))::(inn 68 2 ((poolsI vs (bls n l')).eraseIdx k)++S))) w:=hop.ps [1,3,2,4,4]
      clear hop
      have hpl:k < (poolsI vs (bls n l')).length:=(List.getElem?_eq_some_iff.1 (poolsI_get hvk hB)).1
      obtain ⟨ak,mk,ck,rfl,hmk,hmck, -⟩:=hw.own_shape (i:=2) rfl
      simp only [List.length_map] at hmk
      have hisz:(i:Int) * (sz:Int)≤m.Size:=by
        have h1:i * sz≤q * sz:=Nat.mul_le_mul_right _ (by omega)
        have h2:((i * sz:Nat):Int)=(i:Int) * sz:=by push_cast;rfl
        rw [Nat.mul_comm q sz] at h1
        omega
      have hisz0:0≤(i:Int) * (sz:Int):=Int.mul_nonneg (by omega) (by omega)
      have hbase:=he.base
      have hfin:=he.fin
      have hrr:IntKind.i64.wrap (IntKind.u64.wrap (m.Base+IntKind.u64.wrap ((i:Int) * IntKind.u64.wrap (m.Size.tdiv (q:Int)))))=m.Base+i * (sz:Int):=by
        rw [hszq,hu64 _ hisz0 (by omega),hu64 _ (by omega) (by omega),wrap_i64 (by omega) (by omega)]
      obtain ⟨rr,hr1⟩:∃ rr:RangeT,rr=⟨IntKind.i64.wrap (IntKind.u64.wrap (m.Base+IntKind.u64.wrap ((i:Int) * IntKind.u64.wrap (m.Size.tdiv (q:Int))))),(sz.log2:Nat)⟩:=⟨_,rfl⟩
      have hr2:rr=⟨m.Base+i * (sz:Int),(sz.log2:Nat)⟩:=by rw [hr1,hrr]
      rw [← hr2] at hbl
      haveI htz2:PG Tryz.prog Γ9 47 [.int .u64 (IntKind.u64.wrap (m.Size.tdiv (q:Int)))] (.int .i64 ((sz.log2:Nat):Int)):=by rw [hszq];exact htz
      refine W_mix2 [.blk b13 (.cells (enc m).toArray 61)] _ [[],[],[],[],[],[],[],[],[],[],[],[],[],[],[],[],[],[],[],[],[],[],[],[1],[0],[],[],[0]] [[],[],[],[],[],[],[0],[],[],[],[],[],[],[],[],[],[],[],[],[],[],[],[],[1],[0,1],[],[],[0]] [[155],[154]] hw ?_
      repeat (first | refine mY ?_ | refine mP ?_ | refine mPg ?_)
      refine mY (v:=.pointer (some ⟨aB (some a9),aO (some a9)+k * 2,none⟩)) ?_ (hy:=fun Y w g hw=>y_indexAddr (i:=(k:Int)) rfl rfl (by omega) (by omega) ha9)
      repeat (first | refine mY ?_ | refine mP ?_ | refine mPg ?_)
      refine mY (v:=.slice ak mk ck) ?_ (hy:=fun Y w g hw=>y_loadEf rfl (hw.own_rd (i:=1) rfl) (poolsR_get hc hvk) rfl)
      repeat (first | refine mY ?_ | refine mP ?_ | refine mPg ?_)
      refine mY (v:=.agg (enc rr).toArray) ?_ (hy:=fun Y w g hw=>by rw [hr1];exact y_build rfl)
      refine mBuild [enc rr] ?_
      refine mApp (j:=1) ?_
      refine mY (v:=.pointer (some ⟨aB (some a9),aO (some a9)+k * 2,none⟩)) ?_ (hy:=fun Y w g hw=>y_indexAddr (i:=(k:Int)) rfl rfl (by omega) (by omega) ha9)
      repeat (first | refine mY ?_ | refine mP ?_ | refine mPg ?_)
      refine mS (c:=0) (v:=undef) (F:=fun g=>.own (.slice (some a9) n n) 66 2 (poolsR cs vs)::.own (g 155) 68 2 (bk.map enc++[enc rr])::.blk b2 (hwC H a1 n1 c1 a2 n2 c2 a3 n3 c3 a4 n4 c4 a5 n5 c5)::.own (.slice a16 n16 c16) 3 1 (intRows ((nearL (dstF H) cs m).map fun x:Nat=>(x:Int)))::(inn 68 2 ((poolsI vs (bls n l')).eraseIdx k)++S))
        (fun g=>.own (.slice (some a9) n n) 66 2 ((poolsR cs vs).set k [.int .i64 c.ID,g 155])::.own (g 155) 68 2 (bk.map enc++[enc rr])::.blk b2 (hwC H a1 n1 c1 a2 n2 c2 a3 n3 c3 a4 n4 c4 a5 n5 c5)::.own (.slice a16 n16 c16) 3 1 (intRows ((nearL (dstF H) cs m).map fun x:Nat=>(x:Int)))::(inn 68 2 ((poolsI vs (bls n l')).eraseIdx k)++S)) (fun g w Y hw=>?_) ?_ (hM:=rfl)
      · obtain ⟨a',n',c',hg, -, -, -⟩:=hw.own_shape (i:=1) rfl
        have hg:g 155=.slice a' n' c':=hg
        exact s_storeEf (E:=66) (k:=k) (f:=1) (m:=1) (i:=0) (n:=n) (c:=n) (row:=[.int .i64 c.ID,.slice ak mk ck]) (r:=[g 155]) (TSz.h (P:=Tryz.prog) (T:=64)) hw rfl rfl (by show (g 155).cells.toList=[g 155];rw [hg];rfl) rfl (by rw [hg];rfl) rfl hkn (poolsR_get hc hvk) (by decide) (fun w' hw'=>⟨fun _=>rfl,hw'⟩)
      refine mEnd fun w g hw=>?_
      have hw:=Wd.dropEnd hw
      have hw:Wd Γ9 ([.blk b13 (.cells (enc m).toArray 61)]++(.own (.slice (some a9) n n) 66 2 ((poolsR cs vs).set k [.int .i64 c.ID,g 155])::.own (g 155) 68 2 (bk.map enc++[enc rr])::.blk b2 (hwC H a1 n1 c1 a2 n2 c2 a3 n3 c3 a4 n4 c4 a5 n5 c5)::.own (.slice a16 n16 c16) 3 1 (intRows ((nearL (dstF H) cs m).map fun x:Nat=>(x:Int)))::(inn 68 2 ((poolsI vs (bls n l')).eraseIdx k)++S))) w:=hw
      rw [poolsR_set hc,show bk.map enc++[enc rr]=(bk++[rr]).map enc by simp] at hw
      have hw:=inn_closeA (A:=[.own (.slice a16 n16 c16) 3 1 (intRows ((nearL (dstF H) cs m).map fun x:Nat=>(x:Int))),.blk b13 (.cells (enc m).toArray 61),.blk b2 (hwC H a1 n1 c1 a2 n2 c2 a3 n3 c3 a4 n4 c4 a5 n5 c5),.own (.slice (some a9) n n) 66 2 (poolsR cs (vs.set k (g 155)))]) (q:=(g 155,(bk++[rr]).map enc)) hpl (hw.ps [1,3,2,4,4])
      rw [poolsI_set,hbl] at hw
      repeat (first | refine byW ?_ | (refine byV ?_;intro w hw))
      exact ⟨μ2 - 1,by omega,i+1,vs.set k (g 155),by omega,by simpa using hvs,⟨rfl,rfl,rfl,rfl,rfl,rfl,rfl,rfl,rfl,by show Value.int .u64 (IntKind.u64.wrap ((i:Int)+1))=_;rw [hu64 _ (by omega) (by omega)];rfl,trivial⟩,hw⟩
    have hin:q=i:=by have:=of_decide_eq_false h;omega
    subst hin
    clear h hi
    rw [List.take_of_length_le (by rw [hblk];simp),← hl'] at hw
    have hw:Wd Γ9 (.own (.slice (some a9) n n) 66 2 (poolsR cs vs)::.blk b2 (hwC H a1 n1 c1 a2 n2 c2 a3 n3 c3 a4 n4 c4 a5 n5 c5)::(inn 68 2 (poolsI vs (bls n ((X.take (j+1)).flatMap (blkOf (dstF H) cs))))++S)) w:=(hw.ds [0,0]).ps [1]
    repeat (first | refine byW ?_ | (refine byV ?_;intro w hw))
    exact ⟨m4' - j - 1,by omega,j+1,vs,by omega,hvs,⟨rfl,rfl,rfl,rfl,rfl,rfl,trivial⟩,hw⟩
  have hjn:j=m4':=by have:=of_decide_eq_false h;omega
  clear h
  rw [hjn,List.take_of_length_le (by omega)] at hw
  repeat (first | refine byW ?_ | (refine byV ?_;intro w hw))
  have hw:Wd Γ9 (.own (.slice (some a9) n n) 66 2 (poolsR cs vs)::(inn 68 2 (poolsI vs (bls n (X.flatMap (blkOf (dstF H) cs))))++S)) w:=hw.dropAt 1
  exact ⟨_,rfl,Γ9,_,hle,rfl,.inr ⟨rfl,n,a9,vs,_,rfl,hcl.symm,hvs,ref_sorted hv hpow hnp hnb n,hw⟩⟩
end Go.Proofs.YthgighljhoneeaaGreatDoor
end
section
open Go Mk
namespace Go.Proofs.YthgighljhoneeaaGreatDoor
set_option maxHeartbeats 64000000
attribute [local irreducible] Calls
attribute [local irreducible] matL
theorem intPost_ex (H:HwT) (L:List Int) (per:Int):∃ (rs:List (Int × Int)) (tot code:Int),IntPost H L per rs tot code:=by
 unfold IntPost
 by_cases h1:(liveS H L).2≠0
 ·exact ⟨[],0,(liveS H L).2,by rw [if_pos h1];exact ⟨rfl,rfl,rfl⟩⟩
 ·simp only [if_neg h1]
  obtain ⟨hv,hknown, -, -,hl1⟩:=liveS_zero (Decidable.of_not_not h1)
  by_cases h2:per < 1∨256 < per
  ·exact ⟨[],0,6,by rw [if_pos h2];exact ⟨rfl,rfl,rfl⟩⟩
  ·simp only [if_neg h2]
   by_cases h3:per * (liveS H L).1.length < H.Devs.length
   ·exact ⟨[],0,64,by rw [if_pos h3];exact ⟨rfl,rfl,rfl⟩⟩
   ·simp only [if_neg h3]
    have hcm:∀ c∈(liveS H L).1,c∈H.Cores:=fun c hc=>by
     rw [hl1] at hc
     obtain ⟨id,hid,rfl⟩:=List.mem_map.1 hc
     exact (findC_in (hknown id ((sortZ_perm L).mem_iff.1 hid))).1
    have hyp:(normS H).Devs.Perm H.Devs:=(isort_spec cDev_lt3 _).1
    have hys:(normS H).Devs.Pairwise fun a b=>a.IRQ≤b.IRQ:=(isort_spec cDev_lt3 H.Devs).2.imp fun {a b} h=>by rw [lt_DevT] at h;have:=of_decide_eq_false h;omega
    generalize (normS H).Devs=ys at *
    generalize (liveS H L).1=cs at *
    obtain ⟨cap,rfl⟩:∃ cap:Nat,per=cap:=⟨per.toNat,by omega⟩
    have hAl:(costsA H cs ys).length=ys.length:=by unfold costsA;rw [List.length_map]
    have hCM:CostM cs.length (costsA H cs ys):=costsA_ok hv hcm (fun d hd=>hyp.mem_iff.1 hd)
    have hroom:ys.length≤cs.length * cap:=by
     rw [Nat.mul_comm,hyp.length_eq]
     have h5:((cap * cs.length:Nat):Int)=(cap:Int) * (cs.length:Int):=by push_cast;rfl
     omega
    obtain ⟨y,hyl,hyF⟩:=full_ex (n:=cs.length) (cap:=cap) ys.length hroom
    obtain ⟨x,hx,hb, -⟩:=tryL_best (a:=aF (costsA H cs ys)) (fun i c hc=>by
     by_cases hi:i < (costsA H cs ys).length
     ·obtain ⟨r, -, -,h2⟩:=hCM.get hi
      exact (h2 c hc).2.1
     ·unfold aF
      rw [List.getD_eq_getElem?_getD (l:=costsA H cs ys),List.getElem?_eq_none (by omega)]
      exact Int.le_refl _) hyF hyl
    exact ⟨_,_,_,ys,x,hyp,hys,hx,hb,rfl,rfl,rfl⟩
theorem int_fix {Γ:Gho} {u:Value} {H:HwT} [hh:HwR Γ u H] {S:List Res} {w:World} {v:Value} {L:List Int} {per tot code:Int} {rs:List (Int × Int)} (hip:IntPost H L per rs tot code) (hr:RepS Γ v 1 (intRows L)) (hN:L.length≤1000) (hLen:(liveS H L).1.length≤64) (hDev:H.Devs.length≤1000) (hcsub:∀ c∈(liveS H L).1,c∈H.Cores) (hw:Wd Γ S w) :
  Calls Tryz.prog 17 #[u,v,.int .i64 per] w fun e w'=>∃ v',e=.returned (.tuple #[v',.int .i64 tot,.int .i64 code])∧Wd Γ (.own v' 107 2 (rs.map prI)::S) w':=by
 have hle:=hpG_le hw
 refine (interruptsW (Γ:=hpG Γ w) (hh:=hh.mono hle) (S:=[]) (hr.mono hle) hN hLen hDev hcsub (hpG_wd hw)).mono fun e w' hq=>?_
 obtain ⟨Γ',v',rs',tot',code',hle2,rfl,hp,hw'⟩:=hq
 obtain ⟨rfl,rfl,rfl⟩:=intPost_uniq hip hp
 exact ⟨v',rfl,wd_keptG hw hle2 (owns_noimm (by intro r hr;rw [List.mem_singleton.1 hr];exact ⟨_,_,_,_,rfl⟩)) hw'⟩
theorem rint_fix {Γ:Gho} {u:Value} {H:HwT} [hh:HwR Γ u H] [hwd:WideH H] {S:List Res} {w:World} {v:Value} {L:List Int} {per tot code:Int} {rs:List (Int × Int)} (hip:IntPost H L per rs tot code) (hr:RepS Γ v 1 (intRows L)) (hN:L.length≤1000) (hLen:(liveS H L).1.length≤64) (hDev:H.Devs.length≤1000) (hLe:HwLe H) (hw:Wd Γ S w) :
  Calls Tryz.prog 18 #[u,v,.int .i64 per] w fun e w'=>∃ v',e=.returned (.tuple #[v',.int .i64 tot,.int .i64 code])∧Wd Γ (.own v' 107 2 (rs.map prI)::S) w':=by
 have hle:=hpG_le hw
 refine (rinterruptsW (Γ:=hpG Γ w) (hh:=hh.mono hle) (S:=[]) (hr.mono hle) hN hLen hDev hLe (hpG_wd hw)).mono fun e w' hq=>?_
 obtain ⟨Γ',v',rs',tot',code',hle2,rfl,hp,hw'⟩:=hq
 obtain ⟨rfl,rfl,rfl⟩:=intPost_uniq hip hp
 exact ⟨v',rfl,wd_keptG hw hle2 (owns_noimm (by intro r hr;rw [List.mem_singleton.1 hr];exact ⟨_,_,_,_,rfl⟩)) hw'⟩
section
variable {P:Program} {n:Nat} {ops:List Oper} {Γ:Gho} {K:List Res} {Q:Fr→World→Prop} {ρ:Fr} {rest:List Oper} {wr tc stab:List (List Nat)} {i:Nat} {M:Nat→Fr→List Res} {o:Oper} {v:Value}
theorem mM3 {c c2 c3:Nat} (m m2 m3:Fr→List Res) (hs:∀ Y w g,Wd Γ (K++(cellsAt tc stab i M g++Y)) w→Step P o (ovr stab.flatten g ρ) w fun u w'=>Wd Γ (K++(cellsAt tc stab i (setC (setC (setC M c m) c2 m2) c3 m3) (putO g o.dst u)++Y)) w'∧(freeD stab o.dst=false→u=v))
  (h:MSw (mV P n ops Γ K wr tc stab) Q (i+1) rest ⟨putO ρ o.dst v,setC (setC (setC M c m) c2 m2) c3 m3⟩) (hw0:wr.getD i []=[c,c2,c3]) (hg:o.guard=none):MSw (mV P n ops Γ K wr tc stab) Q i (o::rest) ⟨ρ,M⟩:=by
 have hn:Mt.nxt (mV P n ops Γ K wr tc stab) i ⟨ρ,M⟩ ⟨v,setC (setC (setC M c m) c2 m2) c3 m3⟩=setC (setC (setC M c m) c2 m2) c3 m3:=by
  funext y
  simp only [Mt.nxt,MEnv.w,hw0]
  unfold setC
  by_cases h1:y=c <;> by_cases h2:y=c2 <;> by_cases h3:y=c3 <;> simp [h1,h2,h3]
 refine ⟨⟨v,setC (setC (setC M c m) c2 m2) c3 m3⟩,⟨fun Γ' Y w g hr hw=>?_⟩,?_⟩
 ·have hΓ:Γ'=Γ:=hr
  subst hΓ
  rw [hn]
  refine ⟨fun _=>(hs Y w g hw).mono fun u w' ⟨h1,h2⟩=>⟨Γ',rfl,h1,h2⟩,fun hf=>?_⟩
  rw [wantF_none hg] at hf;cases hf
 ·simp only [Mt.next,hn];exact h
end
theorem perm3 {A B C K Y:List Res}:(A++(B++(C++(K++Y)))).Perm (K++((A++(B++(C++[])))++Y)):=by
 simp only [List.append_nil,List.append_assoc]
 exact (List.Perm.append_left A (List.Perm.append_left B (List.perm_append_comm_assoc C K Y))).trans ((List.Perm.append_left A (List.perm_append_comm_assoc B K _)).trans (List.perm_append_comm_assoc A K _))
theorem perm1 {B K Y:List Res}:(K++((B++[])++Y)).Perm (B++(K++Y)):=by
 rw [List.append_nil];exact List.perm_append_comm_assoc _ _ _
theorem perm4 {A B X K:List Res}:(X++(A++(B++K))).Perm (A++(B++(K++X))):=(List.perm_append_comm_assoc X A _).trans (List.Perm.append_left A ((List.perm_append_comm_assoc X B K).trans (List.Perm.append_left B List.perm_append_comm)))
theorem perm6 {A B C K Y:List Res}:(C++(B++(([]++([]++(K++Y)))++A))).Perm (K++((A++(B++(C++[])))++Y)):=by
 have h:(C++(B++(([]++([]++(K++Y)))++A))).Perm (A++(B++(C++(K++Y)))):=by
  simp only [List.nil_append]
  refine (List.perm_append_comm_assoc C B _).trans ?_
  refine (List.Perm.append_left B ((List.Perm.append_left C List.perm_append_comm).trans (List.perm_append_comm_assoc C A _))).trans ?_
  exact List.perm_append_comm_assoc B A _
 exact h.trans perm3
theorem samePools_nil {Γ:Gho}:PG Tryz.prog Γ 15 [.slice none 0 0,.slice none 0 0] (.bool true):=⟨fun S w hw=>by
 refine calls_of_W Tryz.func15 rfl rfl ?_
 repeat (first | refine byW ?_ | (refine byV ?_;intro w hw))
 refine W_cond_false rfl ?_
 repeat (first | refine byW ?_ | (refine byV ?_;intro w hw))
 refine W_loop (fun μ ρ w=>Has ρ [(0,.slice none 0 0),(1,.slice none 0 0),(5,.int .i64 0)]∧Wd Γ S w) 0 ⟨⟨rfl,rfl,rfl,trivial⟩,hw⟩ ?_
 clear hw
 rintro μ ρ w ⟨hρ,hw⟩
 rw [hρ.eq]
 clear hρ
 repeat (first | refine byW ?_ | (refine byV ?_;intro w hw))
 refine W_cond_false rfl ?_
 repeat (first | refine byW ?_ | (refine byV ?_;intro w hw))
 exact ⟨_,rfl,rfl,hw⟩⟩
set_option maxRecDepth 8000 in
theorem AffinityMade_any {Γ:Gho} [hBr:BrG Γ] {S:List Res} {w:World} {a ap:Option Addr} {m c np cp:Nat} {L PK:List Int} {wc wh:Int} (hr:RepS Γ (.slice a m c) 1 (intRows L)) (hp:RepS Γ (.slice ap np cp) 1 (intRows PK)) (hw:Wd Γ S w) :
  Calls Tryz.prog 4 #[.slice a m c,.slice ap np cp,.int .i64 wc,.int .i64 wh] w fun e w'=>∃ Γ',Γ.le Γ'∧e=.returned (.bool true)∧Wd Γ' S w':=by
 obtain ⟨hnp,hncp,hccp⟩:=rep_facts hp
 obtain ⟨hnr,hncr,hccr⟩:=rep_facts hr
 have hnp:np=PK.length:=by simpa [intRows] using hnp
 have hnr:m=L.length:=by simpa [intRows] using hnr
 refine calls_of_W Tryz.func4 rfl rfl ?_
 repeat (first | refine byW ?_ | (refine byV ?_;intro w hw))
 refine W_cond rfl (fun h=>?_) (fun h=>?_)
 ·repeat (first | refine byW ?_ | (refine byV ?_;intro w hw))
  exact ⟨_,rfl,Γ,.refl _,rfl,hw⟩
 have hLs:¬ (200 < (m:Int)∨6 < (np:Int)):=by simpa using h
 clear h
 repeat (first | refine byW ?_ | (refine byV ?_;intro w hw))
 refine lCall ((Hardware_any hr hw).mono fun r w hq=>?_)
 clear hw
 obtain ⟨Γ1,H,u,nodes,sh,first,irq,hle1,rfl,hG,ho⟩:=hq
 refine ⟨_,rfl,?_⟩
 have hv:=gen_valid hG
 have hSz:=gen_sz hG
 have hWd:=gen_wide hG
 have hnc:=hG.nc
 have hnm:=hG.nm'
 have hp1:=hp.mono hle1
 have hBr1:BrG Γ1:=hBr.mono hle1
 obtain ⟨Γ2,hle2,hR,hw⟩:=ho.freeze (gen_sz hG)
 clear ho hr
 obtain ⟨a1,n1,c1,a2,n2,c2,a3,n3,c3,a4,n4,c4,a5,n5,c5,cs',rfl,hcs,hok,hsz,r1,r2,r3,r4,r5⟩:=hR.h
 obtain ⟨hn1,hnc1,hcc1⟩:=rep_facts r1
 obtain ⟨hn4,hnc4,hcc4⟩:=rep_facts r4
 simp only [List.length_map] at hn1 hn4
 repeat (first | refine byW ?_ | (refine byV ?_;intro w hw))
 refine lAlloc ?_
 intro b5 w hw
 refine lStore ?_
 intro w hw
 have hw:Wd Γ2 (.blk b5 (hwC H a1 n1 c1 a2 n2 c2 a3 n3 c3 a4 n4 c4 a5 n5 c5)::S) w:=hw
 repeat (first | refine byW ?_ | (refine byV ?_;intro w hw))
 refine lCall ((IDs_any (xs:=H.Cores) (nm:=H.Name) (RepS.rdS r1) (by omega) hw).mono fun e w hq=>?_)
 clear hw
 obtain ⟨vi,rfl,hw⟩:=hq
 refine ⟨_,rfl,?_⟩
 obtain ⟨ai,ni,ci,rfl,hni,hnci,hcci⟩:=hw.own_shape (i:=0) rfl
 have hni:ni=H.Cores.length:=by simpa [intRows] using hni
 obtain ⟨Γ3,hle3,q1,hw1⟩:=hw.freeze
 clear hw
 have hw:=hw1
 clear hw1
 repeat (first | refine byW ?_ | (refine byV ?_;intro w hw))
 refine lCall ((Subset_any q1 ((hp1.mono hle2).mono hle3) (by simp;omega) (by omega) hw).mono fun e w hq=>?_)
 clear hw
 obtain ⟨vl,rfl,hw⟩:=hq
 refine ⟨_,rfl,?_⟩
 obtain ⟨rest,hrest⟩:=subF_perm PK PK.length 0 (H.Cores.map (·.ID))
 have hlvl:(subF PK PK.length 0 (H.Cores.map (·.ID))).length≤40:=Nat.le_trans (subF_len _ _ _ _) (by omega)
 generalize subF PK PK.length 0 (H.Cores.map (·.ID))=LV at *
 obtain ⟨al,nl,cl,rfl,hnl,hncl,hccl⟩:=hw.own_shape (i:=0) rfl
 have hnl:nl=LV.length:=by simpa [intRows] using hnl
 obtain ⟨Γ4,hle4,rl,hw1⟩:=hw.freeze
 clear hw
 have hw:Wd Γ4 (.blk b5 (hwC H a1 n1 c1 a2 n2 c2 a3 n3 c3 a4 n4 c4 a5 n5 c5)::S) w:=hw1
 clear hw1
 have hR4:=hR.mono (hle3.trans hle4)
 haveI hBr4:BrG Γ4:=hBr1.mono (hle2.trans (hle3.trans hle4))
 have r4:=r4.mono (hle3.trans hle4)
 have r1:=r1.mono (hle3.trans hle4)
 have hle:Γ.le Γ4:=hle1.trans (hle2.trans (hle3.trans hle4))
 have hlive:=live_ok hv hrest
 clear hle1 hle2 hle3 hle4 hBr1 hp1 q1 hBr
 have hne1:0 < n1:=by omega
 obtain ⟨kc,hkc,p1⟩:=place_at (x:=wc) (n:=n1) (by omega) (by omega)
 obtain ⟨cc,hcc⟩:=get_lt (l:=H.Cores) (k:=kc) (by omega)
 haveI hwdH:WideH H:=⟨hWd⟩
 have hLe:=gen_le hG
 repeat (first | refine byW ?_ | (refine byV ?_;intro w hw))
 refine W_quiet (by kernel_rfl) (by kernel_rfl) hw ?_
 repeat (first | refine Q_nil ?_ | (apply Q_plain;first | (apply Q_go;first | refine qP ?_ | refine qPg ?_) | refine qY ?_) | (apply Q_guarded;first | (apply Q_go;first | refine qPG ?_ | refine qPgG ?_) | refine qG ?_))
 intro w hw
 have hLVn:LV.Nodup:=(List.nodup_append.1 (hrest.nodup_iff.2 (coreIds_nodup hv))).1
 have hlv6:LV.length≤40:=hlvl
 have hl64:(liveS H LV).1.length≤64:=by rw [hlive];split <;> simp [(sortZ_perm LV).length_eq];omega
 have hlc:=live_cores hv hrest rfl
 have hcsub:∀ c∈(liveS H LV).1,c∈H.Cores:=by
  rw [hlive]
  split
  ·intro c h;simp at h
  ·exact hlc.2.1
 repeat (first | refine byW ?_ | (refine byV ?_;intro w hw))
 refine lCall ((pools_core (hh:=hR4) hWd rl (by omega) hw).mono fun e w hq=>?_)
 clear hw
 obtain ⟨Γ5,v12,hle5,rfl,hq1⟩:=hq
 refine ⟨_,rfl,?_⟩
 obtain ⟨Γ6,hle6,hP1,hw⟩:∃ Γ6,Γ5.le Γ6∧(((liveS H LV).2≠0∧v12=.slice none 0 0)∨((liveS H LV).2=0∧∃ (n:Nat) (a9:Addr) (vs:List Value) (B:List (List RangeT)),v12=.slice (some a9) n n∧n=(liveS H LV).1.length∧vs.length=n∧Sorted n (H.Mems.flatMap (blkOf (dstF H) (liveS H LV).1)) B∧PoolsF Γ6 (.slice (some a9) n n) (liveS H LV).1 vs B))∧Wd Γ6 (.blk b5 (hwC H a1 n1 c1 a2 n2 c2 a3 n3 c3 a4 n4 c4 a5 n5 c5)::S) w:=by
  rcases hq1 with ⟨h1,h2,hw⟩ | ⟨h1,n,a9,vs,B,h2,h3,h4,h5,hw⟩
  ·exact ⟨Γ5,.refl _,.inl ⟨h1,h2⟩,hw⟩
  ·obtain ⟨Γ6,h6,h7,h8⟩:=pools_freeze hw
   exact ⟨Γ6,h6,.inr ⟨h1,n,a9,vs,B,h2,h3,h4,h5,h7⟩,h8⟩
 clear hq1
 have hR6:=hR4.mono (hle5.trans hle6)
 haveI hBr6:BrG Γ6:=hBr4.mono (hle5.trans hle6)
 have hle:Γ.le Γ6:=hle.trans (hle5.trans hle6)
 have rl:=rl.mono (hle5.trans hle6)
 clear hle5 hle6 hBr4 hR4
 repeat (first | refine byW ?_ | (refine byV ?_;intro w hw))
 refine lCall ((rpools_core (hh:=hR6) rl (by omega) hl64 hLe hw).mono fun e w hq=>?_)
 clear hw
 obtain ⟨Γ7,v14,hle7,rfl,hq1⟩:=hq
 refine ⟨_,rfl,?_⟩
 obtain ⟨Γ8,hle8,hsp,hw⟩:∃ Γ8,Γ7.le Γ8∧(∀ Γ',Γ8.le Γ'→PG Tryz.prog Γ' 15 [v12,v14] (.bool true))∧Wd Γ8 (.blk b5 (hwC H a1 n1 c1 a2 n2 c2 a3 n3 c3 a4 n4 c4 a5 n5 c5)::S) w:=by
  rcases hq1 with ⟨h1,h2,hw⟩ | ⟨h1,n,a9,vs,B,h2,h3,h4,h5,hw⟩
  ·rcases hP1 with ⟨-,rfl⟩ | ⟨g1, -⟩
   ·subst h2;exact ⟨Γ7,.refl _,fun _ _=>samePools_nil,hw⟩
   ·exact absurd g1 h1
  ·rcases hP1 with ⟨g1, -⟩ | ⟨-,n',a9',vs',B',rfl,g3,g4,g5,g6⟩
   ·exact absurd h1 g1
   ·obtain ⟨Γ8,h6,h7,h8⟩:=pools_freeze hw
    obtain rfl:n'=n:=by omega
    obtain rfl:B=B':=sorted_pools hv (fun m hm=>mem_pow hv hWd hm) g5 h5
    subst h2
    have g7:PoolsF Γ8 (.slice (some a9') n' n') (liveS H LV).1 vs' B:=⟨g6.out.mono (hle7.trans h6),fun k v b q1 q2=>(g6.inn k v b q1 q2).mono (hle7.trans h6)⟩
    exact ⟨Γ8,h6,fun Γ' hl=>samePools_pg g3 (by omega) (by omega) (by rw [g5.len];omega) ⟨g7.out.mono hl,fun k v b q1 q2=>(g7.inn k v b q1 q2).mono hl⟩ ⟨h7.out.mono hl,fun k v b q1 q2=>(h7.inn k v b q1 q2).mono hl⟩,h8⟩
 clear hq1 hP1
 have hR8:=hR6.mono (hle7.trans hle8)
 haveI hBr8:BrG Γ8:=hBr6.mono (hle7.trans hle8)
 have hle:Γ.le Γ8:=hle.trans (hle7.trans hle8)
 have rl:=rl.mono (hle7.trans hle8)
 clear hle7 hle8 hBr6 hR6
 have hnd':=hG.nd'
 obtain ⟨rs,tot,code,hip⟩:=intPost_ex H LV (1+wh % 4)
 repeat (first | refine byW ?_ | (refine byV ?_;intro w hw))
 have hwm:Wd Γ8 ((.blk b5 (hwC H a1 n1 c1 a2 n2 c2 a3 n3 c3 a4 n4 c4 a5 n5 c5)::S)++[]) w:=by rw [List.append_nil];exact hw
 refine W_mixed (.blk b5 (hwC H a1 n1 c1 a2 n2 c2 a3 n3 c3 a4 n4 c4 a5 n5 c5)::S) [fun _=>[],fun _=>[],fun _=>[]] [[],[],[],[],[],[0],[0,1,2],[1],[],[],[1],[],[]] [[],[],[],[],[],[0],[0,1,2],[1],[2],[2],[1],[],[]] [[69,63],[63,70,16],[63]] hwm ?_
 clear hwm hw
 repeat (first | refine mY ?_ | refine mP ?_ | refine mPg ?_)
 refine mS (c:=0) (v:=undef) (F:=fun _=>[]) (exC (T:=Value) (fun t g=>g 69=.tuple #[t,.int .i64 tot,.int .i64 code]) fun t=>[.own t 107 2 (rs.map prI)]) (fun g w Y hw=>?_) ?_
 ·refine s_call (vs:=#[.agg #[.string H.Name,.slice a1 n1 c1,.slice a2 n2 c2,.slice a3 n3 c3,.slice a4 n4 c4,.slice a5 n5 c5],.slice al nl cl,.int .i64 (1+wh % 4)]) ?_ ((int_fix (hh:=hR8) (S:=(.blk b5 (hwC H a1 n1 c1 a2 n2 c2 a3 n3 c3 a4 n4 c4 a5 n5 c5)::S)++Y) hip rl (by omega) hl64 (by omega) hcsub hw).mono fun e w' hq=>?_)
  ·exact EvL.eqA (xs:=[.tmp 64,.tmp 65,.tmp 68]) (vs:=[.agg #[.string H.Name,.slice a1 n1 c1,.slice a2 n2 c2,.slice a3 n3 c3,.slice a4 n4 c4,.slice a5 n5 c5],.slice al nl cl,.int .i64 (1+wh % 4)]) (EvL.cons (by rfl) (EvL.cons (by rfl) (EvL.cons (by rfl) EvL.nil)))
  obtain ⟨t,rfl,hw⟩:=hq
  refine ⟨_,rfl,fun h=>(by cases h),?_⟩
  exact exC_mk (T:=Value) (φ:=fun t g=>g 69=.tuple #[t,.int .i64 tot,.int .i64 code]) (R:=fun t=>[.own t 107 2 (rs.map prI)]) t rfl hw
 refine mM3 (c:=0) (c2:=1) (c3:=2) (v:=undef) (exC (T:=Value) (fun t g=>g 63=.tuple #[t,.int .i64 tot,.int .i64 code]) fun t=>[.own t 107 2 (rs.map prI)]) (exC (T:=Value) (fun t g=>g 63=.tuple #[t,.int .i64 tot,.int .i64 code]) fun _=>[]) (exC (T:=Value) (fun t g=>g 63=.tuple #[t,.int .i64 tot,.int .i64 code]) fun _=>[]) (fun Y w g hw=>?_) ?_ rfl rfl
 ·have hw1:Wd Γ8 ((.blk b5 (hwC H a1 n1 c1 a2 n2 c2 a3 n3 c3 a4 n4 c4 a5 n5 c5)::S)++((exC (T:=Value) (fun t g=>g 69=.tuple #[t,.int .i64 tot,.int .i64 code]) (fun t=>[.own t 107 2 (rs.map prI)]) (ovr [69,63] g noFr)++([]++([]++[])))++Y)) w:=hw
  obtain ⟨t,ht,hw2⟩:=exC_open (hw1.perm perm3.symm)
  have ht:g 69=.tuple #[t,.int .i64 tot,.int .i64 code]:=ht
  refine Yields.step (y_move (v:=.tuple #[t,.int .i64 tot,.int .i64 code]) ht) ⟨?_,fun h=>(by cases h)⟩
  have hw3:=exC_mk (T:=Value) (φ:=fun t g=>g 63=.tuple #[t,.int .i64 tot,.int .i64 code]) (R:=fun t=>[.own t 107 2 (rs.map prI)]) (g:=ovr [69,63] (putO g (some 63) (.tuple #[t,.int .i64 tot,.int .i64 code])) noFr) t rfl hw2
  have hw4:=hw3.perm List.perm_append_comm
  have hw5:=exC_mk (T:=Value) (φ:=fun t g=>g 63=.tuple #[t,.int .i64 tot,.int .i64 code]) (R:=fun _=>[]) (g:=ovr [63,70,16] (putO g (some 63) (.tuple #[t,.int .i64 tot,.int .i64 code])) noFr) t rfl hw4
  have hw6:=exC_mk (T:=Value) (φ:=fun t g=>g 63=.tuple #[t,.int .i64 tot,.int .i64 code]) (R:=fun _=>[]) (g:=ovr [63] (putO g (some 63) (.tuple #[t,.int .i64 tot,.int .i64 code])) noFr) t rfl hw5
  have hw7:Wd Γ8 (exC (T:=Value) (fun t g=>g 63=.tuple #[t,.int .i64 tot,.int .i64 code]) (fun _=>[]) (ovr [63] (putO g (some 63) (.tuple #[t,.int .i64 tot,.int .i64 code])) noFr)++(exC (T:=Value) (fun t g=>g 63=.tuple #[t,.int .i64 tot,.int .i64 code]) (fun _=>[]) (ovr [63,70,16] (putO g (some 63) (.tuple #[t,.int .i64 tot,.int .i64 code])) noFr)++(([]++([]++((.blk b5 (hwC H a1 n1 c1 a2 n2 c2 a3 n3 c3 a4 n4 c4 a5 n5 c5)::S)++Y)))++exC (T:=Value) (fun t g=>g 63=.tuple #[t,.int .i64 tot,.int .i64 code]) (fun t=>[.own t 107 2 (rs.map prI)]) (ovr [69,63] (putO g (some 63) (.tuple #[t,.int .i64 tot,.int .i64 code])) noFr)))) w:=hw6
  exact hw7.perm perm6
 refine mS (c:=1) (v:=undef) (F:=exC (T:=Value) (fun t g=>g 63=.tuple #[t,.int .i64 tot,.int .i64 code]) fun _=>[]) (exC (T:=Value) (fun t g=>g 63=.tuple #[t,.int .i64 tot,.int .i64 code]∧g 70=t) fun _=>[]) (fun g w Y hw=>?_) ?_
 ·obtain ⟨t,ht,hw1⟩:=exC_open hw
  have ht:g 63=.tuple #[t,.int .i64 tot,.int .i64 code]:=ht
  refine Yields.step (y_extract (v:=t) ht rfl) ⟨fun h=>(by cases h),?_⟩
  exact exC_mk (T:=Value) (φ:=fun t g=>g 63=.tuple #[t,.int .i64 tot,.int .i64 code]∧g 70=t) (R:=fun _=>[]) t ⟨ht,rfl⟩ hw1
 refine mC (v:=.int .i64 tot) (fun Y w g hw=>?_) rfl rfl rfl ?_
 ·have hw1:Wd Γ8 ((.blk b5 (hwC H a1 n1 c1 a2 n2 c2 a3 n3 c3 a4 n4 c4 a5 n5 c5)::S)++((exC (T:=Value) (fun t g=>g 63=.tuple #[t,.int .i64 tot,.int .i64 code]) (fun _=>[]) (ovr [63] g noFr)++[])++Y)) w:=hw
  obtain ⟨t,ht, -⟩:=exC_open (hw1.perm perm1)
  exact Yields.step (y_extract (v:=.int .i64 tot) ht rfl) ⟨rfl,hw⟩
 refine mC (v:=.int .i64 code) (fun Y w g hw=>?_) rfl rfl rfl ?_
 ·have hw1:Wd Γ8 ((.blk b5 (hwC H a1 n1 c1 a2 n2 c2 a3 n3 c3 a4 n4 c4 a5 n5 c5)::S)++((exC (T:=Value) (fun t g=>g 63=.tuple #[t,.int .i64 tot,.int .i64 code]) (fun _=>[]) (ovr [63] g noFr)++[])++Y)) w:=hw
  obtain ⟨t,ht, -⟩:=exC_open (hw1.perm perm1)
  exact Yields.step (y_extract (v:=.int .i64 code) ht rfl) ⟨rfl,hw⟩
 refine mS (c:=1) (v:=undef) (F:=exC (T:=Value) (fun t g=>g 63=.tuple #[t,.int .i64 tot,.int .i64 code]∧g 70=t) fun _=>[]) (exC (T:=Value) (fun t g=>g 63=.tuple #[t,.int .i64 tot,.int .i64 code]∧g 16=t) fun _=>[]) (fun g w Y hw=>?_) ?_
 ·obtain ⟨t,⟨ht,ht8⟩,hw1⟩:=exC_open hw
  have ht:g 63=.tuple #[t,.int .i64 tot,.int .i64 code]:=ht
  have ht8:g 70=t:=ht8
  refine Yields.step (y_assign (v:=t) ht8) ⟨fun h=>(by cases h),?_⟩
  exact exC_mk (T:=Value) (φ:=fun t g=>g 63=.tuple #[t,.int .i64 tot,.int .i64 code]∧g 16=t) (R:=fun _=>[]) t ⟨ht,rfl⟩ hw1
 repeat (first | refine mY ?_ | refine mP ?_ | refine mPg ?_)
 refine mEnd fun w g hw=>?_
 have hw1:Wd Γ8 ((.blk b5 (hwC H a1 n1 c1 a2 n2 c2 a3 n3 c3 a4 n4 c4 a5 n5 c5)::S)++((exC (T:=Value) (fun t g=>g 63=.tuple #[t,.int .i64 tot,.int .i64 code]) (fun t=>[.own t 107 2 (rs.map prI)]) (ovr [69,63] g noFr)++(exC (T:=Value) (fun t g=>g 63=.tuple #[t,.int .i64 tot,.int .i64 code]∧g 16=t) (fun _=>[]) (ovr [63,70,16] g noFr)++(exC (T:=Value) (fun t g=>g 63=.tuple #[t,.int .i64 tot,.int .i64 code]) (fun _=>[]) (ovr [63] g noFr)++[])))++[])) w:=by rw [List.append_nil];exact hw
 obtain ⟨t,ht,hw2⟩:=exC_open (hw1.perm perm3.symm)
 have ht:g 63=.tuple #[t,.int .i64 tot,.int .i64 code]:=ht
 have hw3:Wd Γ8 (exC (T:=Value) (fun t g=>g 63=.tuple #[t,.int .i64 tot,.int .i64 code]∧g 16=t) (fun _=>[]) (ovr [63,70,16] g noFr)++(exC (T:=Value) (fun t g=>g 63=.tuple #[t,.int .i64 tot,.int .i64 code]) (fun _=>[]) (ovr [63] g noFr)++(((.blk b5 (hwC H a1 n1 c1 a2 n2 c2 a3 n3 c3 a4 n4 c4 a5 n5 c5)::S)++[])++[.own t 107 2 (rs.map prI)]))) w:=hw2.perm perm4
 obtain ⟨t8,⟨ht8,ht3⟩,hw4⟩:=exC_open hw3
 have ht8:g 63=.tuple #[t8,.int .i64 tot,.int .i64 code]:=ht8
 have ht3:g 16=t8:=ht3
 obtain rfl:t8=t:=by
  have:=ht8.symm.trans ht
  simp at this
  exact this
 rw [List.nil_append] at hw4
 obtain ⟨-, -,hw5⟩:=exC_open hw4
 clear hw hw1 hw2 hw3 hw4
 rw [List.append_nil,List.nil_append] at hw5
 have hw:Wd Γ8 (.blk b5 (hwC H a1 n1 c1 a2 n2 c2 a3 n3 c3 a4 n4 c4 a5 n5 c5)::.own t8 107 2 (rs.map prI)::S) w:=hw5.perm (List.Perm.cons _ List.perm_append_comm)
 clear hw5
 refine W_has (l:=[(1,.slice ap np cp),(2,.int .i64 wc),(3,.int .i64 wh),(9,.pointer (some ⟨b5,0,none⟩)),(10,.slice al nl cl),(11,.int .i64 cc.ID),(12,v12),(13,.int .i64 (liveS H LV).2),(14,v14),(15,.int .i64 (liveS H LV).2),(16,t8),(17,.int .i64 tot),(18,.int .i64 code)]) ⟨rfl,rfl,rfl,rfl,rfl,rfl,rfl,rfl,rfl,rfl,ht3,rfl,rfl,trivial⟩ fun ρ hρ=>?_
 clear ht ht8 ht3
 rw [hρ.eq]
 clear hρ
 repeat (first | refine byW ?_ | (refine byV ?_;intro w hw))
 have hwm:Wd Γ8 ((.blk b5 (hwC H a1 n1 c1 a2 n2 c2 a3 n3 c3 a4 n4 c4 a5 n5 c5)::.own t8 107 2 (rs.map prI)::S)++[]) w:=by rw [List.append_nil];exact hw
 refine W_mixed (.blk b5 (hwC H a1 n1 c1 a2 n2 c2 a3 n3 c3 a4 n4 c4 a5 n5 c5)::.own t8 107 2 (rs.map prI)::S) [fun _=>[],fun _=>[],fun _=>[]] [[],[],[],[],[],[0],[0,1,2],[1],[],[],[1],[],[]] [[],[],[],[],[],[0],[0,1,2],[1],[2],[2],[1],[],[]] [[79,73],[73,80,19],[73]] hwm ?_
 clear hwm hw
 repeat (first | refine mY ?_ | refine mP ?_ | refine mPg ?_)
 refine mS (c:=0) (v:=undef) (F:=fun _=>[]) (exC (T:=Value) (fun t g=>g 79=.tuple #[t,.int .i64 tot,.int .i64 code]) fun t=>[.own t 107 2 (rs.map prI)]) (fun g w Y hw=>?_) ?_
 ·refine s_call (vs:=#[.agg #[.string H.Name,.slice a1 n1 c1,.slice a2 n2 c2,.slice a3 n3 c3,.slice a4 n4 c4,.slice a5 n5 c5],.slice al nl cl,.int .i64 (1+wh % 4)]) ?_ ((rint_fix (hh:=hR8) (hwd:=hwdH) (S:=(.blk b5 (hwC H a1 n1 c1 a2 n2 c2 a3 n3 c3 a4 n4 c4 a5 n5 c5)::.own t8 107 2 (rs.map prI)::S)++Y) hip rl (by omega) hl64 (by omega) hLe hw).mono fun e w' hq=>?_)
  ·exact EvL.eqA (xs:=[.tmp 74,.tmp 75,.tmp 78]) (vs:=[.agg #[.string H.Name,.slice a1 n1 c1,.slice a2 n2 c2,.slice a3 n3 c3,.slice a4 n4 c4,.slice a5 n5 c5],.slice al nl cl,.int .i64 (1+wh % 4)]) (EvL.cons (by rfl) (EvL.cons (by rfl) (EvL.cons (by rfl) EvL.nil)))
  obtain ⟨t,rfl,hw⟩:=hq
  refine ⟨_,rfl,fun h=>(by cases h),?_⟩
  exact exC_mk (T:=Value) (φ:=fun t g=>g 79=.tuple #[t,.int .i64 tot,.int .i64 code]) (R:=fun t=>[.own t 107 2 (rs.map prI)]) t rfl hw
 refine mM3 (c:=0) (c2:=1) (c3:=2) (v:=undef) (exC (T:=Value) (fun t g=>g 73=.tuple #[t,.int .i64 tot,.int .i64 code]) fun t=>[.own t 107 2 (rs.map prI)]) (exC (T:=Value) (fun t g=>g 73=.tuple #[t,.int .i64 tot,.int .i64 code]) fun _=>[]) (exC (T:=Value) (fun t g=>g 73=.tuple #[t,.int .i64 tot,.int .i64 code]) fun _=>[]) (fun Y w g hw=>?_) ?_ rfl rfl
 ·have hw1:Wd Γ8 ((.blk b5 (hwC H a1 n1 c1 a2 n2 c2 a3 n3 c3 a4 n4 c4 a5 n5 c5)::.own t8 107 2 (rs.map prI)::S)++((exC (T:=Value) (fun t g=>g 79=.tuple #[t,.int .i64 tot,.int .i64 code]) (fun t=>[.own t 107 2 (rs.map prI)]) (ovr [79,73] g noFr)++([]++([]++[])))++Y)) w:=hw
  obtain ⟨t,ht,hw2⟩:=exC_open (hw1.perm perm3.symm)
  have ht:g 79=.tuple #[t,.int .i64 tot,.int .i64 code]:=ht
  refine Yields.step (y_move (v:=.tuple #[t,.int .i64 tot,.int .i64 code]) ht) ⟨?_,fun h=>(by cases h)⟩
  have hw3:=exC_mk (T:=Value) (φ:=fun t g=>g 73=.tuple #[t,.int .i64 tot,.int .i64 code]) (R:=fun t=>[.own t 107 2 (rs.map prI)]) (g:=ovr [79,73] (putO g (some 73) (.tuple #[t,.int .i64 tot,.int .i64 code])) noFr) t rfl hw2
  have hw4:=hw3.perm List.perm_append_comm
  have hw5:=exC_mk (T:=Value) (φ:=fun t g=>g 73=.tuple #[t,.int .i64 tot,.int .i64 code]) (R:=fun _=>[]) (g:=ovr [73,80,19] (putO g (some 73) (.tuple #[t,.int .i64 tot,.int .i64 code])) noFr) t rfl hw4
  have hw6:=exC_mk (T:=Value) (φ:=fun t g=>g 73=.tuple #[t,.int .i64 tot,.int .i64 code]) (R:=fun _=>[]) (g:=ovr [73] (putO g (some 73) (.tuple #[t,.int .i64 tot,.int .i64 code])) noFr) t rfl hw5
  have hw7:Wd Γ8 (exC (T:=Value) (fun t g=>g 73=.tuple #[t,.int .i64 tot,.int .i64 code]) (fun _=>[]) (ovr [73] (putO g (some 73) (.tuple #[t,.int .i64 tot,.int .i64 code])) noFr)++(exC (T:=Value) (fun t g=>g 73=.tuple #[t,.int .i64 tot,.int .i64 code]) (fun _=>[]) (ovr [73,80,19] (putO g (some 73) (.tuple #[t,.int .i64 tot,.int .i64 code])) noFr)++(([]++([]++((.blk b5 (hwC H a1 n1 c1 a2 n2 c2 a3 n3 c3 a4 n4 c4 a5 n5 c5)::.own t8 107 2 (rs.map prI)::S)++Y)))++exC (T:=Value) (fun t g=>g 73=.tuple #[t,.int .i64 tot,.int .i64 code]) (fun t=>[.own t 107 2 (rs.map prI)]) (ovr [79,73] (putO g (some 73) (.tuple #[t,.int .i64 tot,.int .i64 code])) noFr)))) w:=hw6
  exact hw7.perm perm6
 refine mS (c:=1) (v:=undef) (F:=exC (T:=Value) (fun t g=>g 73=.tuple #[t,.int .i64 tot,.int .i64 code]) fun _=>[]) (exC (T:=Value) (fun t g=>g 73=.tuple #[t,.int .i64 tot,.int .i64 code]∧g 80=t) fun _=>[]) (fun g w Y hw=>?_) ?_
 ·obtain ⟨t,ht,hw1⟩:=exC_open hw
  have ht:g 73=.tuple #[t,.int .i64 tot,.int .i64 code]:=ht
  refine Yields.step (y_extract (v:=t) ht rfl) ⟨fun h=>(by cases h),?_⟩
  exact exC_mk (T:=Value) (φ:=fun t g=>g 73=.tuple #[t,.int .i64 tot,.int .i64 code]∧g 80=t) (R:=fun _=>[]) t ⟨ht,rfl⟩ hw1
 refine mC (v:=.int .i64 tot) (fun Y w g hw=>?_) rfl rfl rfl ?_
 ·have hw1:Wd Γ8 ((.blk b5 (hwC H a1 n1 c1 a2 n2 c2 a3 n3 c3 a4 n4 c4 a5 n5 c5)::.own t8 107 2 (rs.map prI)::S)++((exC (T:=Value) (fun t g=>g 73=.tuple #[t,.int .i64 tot,.int .i64 code]) (fun _=>[]) (ovr [73] g noFr)++[])++Y)) w:=hw
  obtain ⟨t,ht, -⟩:=exC_open (hw1.perm perm1)
  exact Yields.step (y_extract (v:=.int .i64 tot) ht rfl) ⟨rfl,hw⟩
 refine mC (v:=.int .i64 code) (fun Y w g hw=>?_) rfl rfl rfl ?_
 ·have hw1:Wd Γ8 ((.blk b5 (hwC H a1 n1 c1 a2 n2 c2 a3 n3 c3 a4 n4 c4 a5 n5 c5)::.own t8 107 2 (rs.map prI)::S)++((exC (T:=Value) (fun t g=>g 73=.tuple #[t,.int .i64 tot,.int .i64 code]) (fun _=>[]) (ovr [73] g noFr)++[])++Y)) w:=hw
  obtain ⟨t,ht, -⟩:=exC_open (hw1.perm perm1)
  exact Yields.step (y_extract (v:=.int .i64 code) ht rfl) ⟨rfl,hw⟩
 refine mS (c:=1) (v:=undef) (F:=exC (T:=Value) (fun t g=>g 73=.tuple #[t,.int .i64 tot,.int .i64 code]∧g 80=t) fun _=>[]) (exC (T:=Value) (fun t g=>g 73=.tuple #[t,.int .i64 tot,.int .i64 code]∧g 19=t) fun _=>[]) (fun g w Y hw=>?_) ?_
 ·obtain ⟨t,⟨ht,ht9⟩,hw1⟩:=exC_open hw
  have ht:g 73=.tuple #[t,.int .i64 tot,.int .i64 code]:=ht
  have ht9:g 80=t:=ht9
  refine Yields.step (y_assign (v:=t) ht9) ⟨fun h=>(by cases h),?_⟩
  exact exC_mk (T:=Value) (φ:=fun t g=>g 73=.tuple #[t,.int .i64 tot,.int .i64 code]∧g 19=t) (R:=fun _=>[]) t ⟨ht,rfl⟩ hw1
 repeat (first | refine mY ?_ | refine mP ?_ | refine mPg ?_)
 refine mEnd fun w g hw=>?_
 have hw1:Wd Γ8 ((.blk b5 (hwC H a1 n1 c1 a2 n2 c2 a3 n3 c3 a4 n4 c4 a5 n5 c5)::.own t8 107 2 (rs.map prI)::S)++((exC (T:=Value) (fun t g=>g 73=.tuple #[t,.int .i64 tot,.int .i64 code]) (fun t=>[.own t 107 2 (rs.map prI)]) (ovr [79,73] g noFr)++(exC (T:=Value) (fun t g=>g 73=.tuple #[t,.int .i64 tot,.int .i64 code]∧g 19=t) (fun _=>[]) (ovr [73,80,19] g noFr)++(exC (T:=Value) (fun t g=>g 73=.tuple #[t,.int .i64 tot,.int .i64 code]) (fun _=>[]) (ovr [73] g noFr)++[])))++[])) w:=by rw [List.append_nil];exact hw
 obtain ⟨t,ht,hw2⟩:=exC_open (hw1.perm perm3.symm)
 have ht:g 73=.tuple #[t,.int .i64 tot,.int .i64 code]:=ht
 have hw3:Wd Γ8 (exC (T:=Value) (fun t g=>g 73=.tuple #[t,.int .i64 tot,.int .i64 code]∧g 19=t) (fun _=>[]) (ovr [73,80,19] g noFr)++(exC (T:=Value) (fun t g=>g 73=.tuple #[t,.int .i64 tot,.int .i64 code]) (fun _=>[]) (ovr [73] g noFr)++(((.blk b5 (hwC H a1 n1 c1 a2 n2 c2 a3 n3 c3 a4 n4 c4 a5 n5 c5)::.own t8 107 2 (rs.map prI)::S)++[])++[.own t 107 2 (rs.map prI)]))) w:=hw2.perm perm4
 obtain ⟨t9,⟨ht9,ht3⟩,hw4⟩:=exC_open hw3
 have ht9:g 73=.tuple #[t9,.int .i64 tot,.int .i64 code]:=ht9
 have ht3:g 19=t9:=ht3
 obtain rfl:t9=t:=by
  have:=ht9.symm.trans ht
  simp at this
  exact this
 rw [List.nil_append] at hw4
 obtain ⟨-, -,hw5⟩:=exC_open hw4
 clear hw hw1 hw2 hw3 hw4
 rw [List.append_nil,List.nil_append] at hw5
 have hw:Wd Γ8 (.blk b5 (hwC H a1 n1 c1 a2 n2 c2 a3 n3 c3 a4 n4 c4 a5 n5 c5)::.own t8 107 2 (rs.map prI)::.own t9 107 2 (rs.map prI)::S) w:=hw5.perm (List.Perm.cons _ (List.Perm.cons _ List.perm_append_comm))
 clear hw5
 refine W_has (l:=[(1,.slice ap np cp),(2,.int .i64 wc),(3,.int .i64 wh),(9,.pointer (some ⟨b5,0,none⟩)),(10,.slice al nl cl),(11,.int .i64 cc.ID),(12,v12),(13,.int .i64 (liveS H LV).2),(14,v14),(15,.int .i64 (liveS H LV).2),(16,t8),(17,.int .i64 tot),(18,.int .i64 code),(19,t9),(20,.int .i64 tot),(21,.int .i64 code)]) ⟨rfl,rfl,rfl,rfl,rfl,rfl,rfl,rfl,rfl,rfl,rfl,rfl,rfl,ht3,rfl,rfl,trivial⟩ fun ρ hρ=>?_
 clear ht ht9 ht3
 rw [hρ.eq]
 clear hρ
 repeat (first | refine byW ?_ | (refine byV ?_;intro w hw))
 obtain ⟨Γ9,hle9,q8,hw⟩:=(hw.ps [1]).freeze
 obtain ⟨Γ10,hle10,q9,hw⟩:=(hw.ps [1]).freeze
 have q8:=q8.mono hle10
 have hR10:=hR8.mono (hle9.trans hle10)
 haveI hBr10:BrG Γ10:=hBr8.mono (hle9.trans hle10)
 have hle:=hle.trans (hle9.trans hle10)
 have hsp:=fun Γ' hl=>hsp Γ' ((hle9.trans hle10).trans hl)
 clear hle9 hle10 hBr8 hR8
 refine lCall ((nearestW (hh:=hR10) cc.ID (by omega) hw).mono fun e w hq=>?_)
 clear hw
 obtain ⟨Γ11,v22,ns,cd,hle11,rfl,hn1,hw⟩:=hq
 refine ⟨_,rfl,?_⟩
 have hR11:=hR10.mono hle11
 haveI hBr11:BrG Γ11:=hBr10.mono hle11
 repeat (first | refine byW ?_ | (refine byV ?_;intro w hw))
 refine lCall ((rnearestW (hh:=hR11) (hwd:=hwdH) cc.ID hLe hw).mono fun e w hq=>?_)
 clear hw
 obtain ⟨Γ12,v24,ns2,cd2,hle12,rfl,hn2,hw⟩:=hq
 refine ⟨_,rfl,?_⟩
 obtain ⟨rfl,rfl⟩:=nearPost_uniq hn1 hn2
 obtain ⟨Γ13,hle13,q24,hw⟩:=hw.freeze
 obtain ⟨Γ14,hle14,q22,hw⟩:=hw.freeze
 have hl:Γ10.le Γ14:=hle11.trans (hle12.trans (hle13.trans hle14))
 haveI hBr14:BrG Γ14:=hBr10.mono hl
 haveI p1:PG Tryz.prog Γ14 15 [v12,v14] (.bool true):=hsp Γ14 hl
 haveI p2:=sameRoutes_pg (q8.mono hl) (q9.mono hl)
 haveI p3:=sameNames_pg q22 (q24.mono hle14)
 have hle:=hle.trans hl
 clear hle11 hle12 hle13 hle14 hl hsp q8 q9 q22 q24 hBr10 hBr11 hR10 hR11 hn1 hn2 hip
 have hw:Wd Γ14 (.blk b5 (hwC H a1 n1 c1 a2 n2 c2 a3 n3 c3 a4 n4 c4 a5 n5 c5)::S) w:=hw
 repeat (first | refine byW ?_ | (refine byV ?_;intro w hw))
 refine lPg (hp:=p1) ?_
 intro w hw
 repeat (first | (first | refine W_seq ?_ | refine W_block ?_ | refine W_region ?_ | refine W_skip ?_ | refine W_ret ?_ | refine W_exit ?_) | ((first | apply L_bin | apply L_notop);first | (refine lT ?_ ?_;(first | exact rfl | exact decide_eq_true rfl | exact hb1 | exact hb2 | exact hb3 | exact hb4 | (focus (simp;done)))) | (refine lF ?_ ?_;(first | exact rfl | exact decide_eq_true rfl | exact hb1 | exact hb2 | exact hb3 | exact hb4 | (focus (simp;done))))) | (first | refine L_nil ?_ | (apply L_plain;first | (apply L_go;first | refine lP ?_ | (refine lPg ?_;intro w hw)) | (apply L_mf;refine lMakeFunc ?_) | refine lY ?_) | (apply L_guarded;first | refine lGT ?_ (hct:=rfl) | refine lGF ?_ (hct:=rfl) | (apply L_go;first | refine lPG ?_ | (refine lPgG ?_;intro w hw)) | refine lG ?_)) | (refine lAlloc ?_;intro _ w hw) | (refine lBox ?_;intro _ w hw) | (refine lStore ?_;intro w hw))
 refine lPg (hp:=p2) ?_
 intro w hw
 repeat (first | (first | refine W_seq ?_ | refine W_block ?_ | refine W_region ?_ | refine W_skip ?_ | refine W_ret ?_ | refine W_exit ?_) | ((first | apply L_bin | apply L_notop);first | (refine lT ?_ ?_;(first | exact rfl | exact decide_eq_true rfl | exact hb1 | exact hb2 | exact hb3 | exact hb4 | (focus (simp;done)))) | (refine lF ?_ ?_;(first | exact rfl | exact decide_eq_true rfl | exact hb1 | exact hb2 | exact hb3 | exact hb4 | (focus (simp;done))))) | (first | refine L_nil ?_ | (apply L_plain;first | (apply L_go;first | refine lP ?_ | (refine lPg ?_;intro w hw)) | (apply L_mf;refine lMakeFunc ?_) | refine lY ?_) | (apply L_guarded;first | refine lGT ?_ (hct:=rfl) | refine lGF ?_ (hct:=rfl) | (apply L_go;first | refine lPG ?_ | (refine lPgG ?_;intro w hw)) | refine lG ?_)) | (refine lAlloc ?_;intro _ w hw) | (refine lBox ?_;intro _ w hw) | (refine lStore ?_;intro w hw))
 refine lPg (hp:=p3) ?_
 intro w hw
 repeat (first | (first | refine W_seq ?_ | refine W_block ?_ | refine W_region ?_ | refine W_skip ?_ | refine W_ret ?_ | refine W_exit ?_) | ((first | apply L_bin | apply L_notop);first | (refine lT ?_ ?_;(first | exact rfl | exact decide_eq_true rfl | exact hb1 | exact hb2 | exact hb3 | exact hb4 | (focus (simp;done)))) | (refine lF ?_ ?_;(first | exact rfl | exact decide_eq_true rfl | exact hb1 | exact hb2 | exact hb3 | exact hb4 | (focus (simp;done))))) | (first | refine L_nil ?_ | (apply L_plain;first | (apply L_go;first | refine lP ?_ | (refine lPg ?_;intro w hw)) | (apply L_mf;refine lMakeFunc ?_) | refine lY ?_) | (apply L_guarded;first | refine lGT ?_ (hct:=rfl) | refine lGF ?_ (hct:=rfl) | (apply L_go;first | refine lPG ?_ | (refine lPgG ?_;intro w hw)) | refine lG ?_)) | (refine lAlloc ?_;intro _ w hw) | (refine lBox ?_;intro _ w hw) | (refine lStore ?_;intro w hw))
 exact ⟨_,rfl,Γ14,hle,rfl,hw.drop⟩
end Go.Proofs.YthgighljhoneeaaGreatDoor
end
