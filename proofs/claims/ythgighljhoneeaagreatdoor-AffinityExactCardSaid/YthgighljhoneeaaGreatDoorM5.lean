/- Texts of this proof, one behind another. -/
import Derived.Test.YthgighljhoneeaaGreatDoorM4
import Derived.Test.YthgighljhoneeaaGreatDoorM3
import Derived.Test.YthgighljhoneeaaGreatDoorRows
import Derived.Test.YthgighljhoneeaaGreatDoorTie
import Derived.Test.YthgighljhoneeaaGreatDoorCards
import Derived.ProofKit
import Derived.OpenShut
import Derived.LaidMore
import Derived.Stop.Joined
import Derived.Stop.LaidErr
import Derived.Deep.Slices
import Derived.ReadAgain
import Derived.ChangeMaps5
import Derived.Laws.CopyRow
set_option linter.unusedVariables false
set_option linter.unusedSimpArgs false
section
open Go Mk
namespace Go.Proofs.YthgighljhoneeaaGreatDoor
set_option maxHeartbeats 64000000
attribute [local irreducible] Calls
attribute [local irreducible] matL
theorem cut_lt {D:Mx} {cs:List CoreT} {m:MemT} {e:Nat} (hm:MemP m e) (hl:cs.length≤1000):cutN m (nearL D cs m).length≤2000:=by
  have h1:(nearL D cs m).length≤cs.length:=candR_len _
  have key:∀ (f q n len:Nat),len≤1000→n≤2000→dblN len q f n≤2000:=fun f q=>by
    induction f with
    | zero=>intro n len _ hn;exact hn
    | succ f ih=>
      intro n len hl hn
      unfold dblN
      split
      · exact ih _ _ hl (by omega)
      · exact hn
  exact key _ _ _ _ (by omega) (by omega)
set_option maxRecDepth 8000 in
theorem pools_core {Γ : Gho} [hBr : BrG Γ] {u : Value} {H : HwT} [hh : HwR Γ u H] (hwd : MemWide H) {S : List Res} {w : World} {v : Value} {L : List Int} (hr : RepS Γ v 1 (intRows L)) (hN : L.length ≤ 1000) (hw : Wd Γ S w) :
    Calls Tryz.prog 12 #[u,v] w fun e w'=>∃ Γ' v',Γ.le Γ'∧e=.returned (.tuple #[v',.int .i64 (liveS H L).2])∧(((liveS H L).2≠0∧v'=.slice none 0 0∧Wd Γ' S w')∨((liveS H L).2=0 ∧
      ∃ (n:Nat) (a9:Addr) (vs:List Value) (B:List (List RangeT)),v'=.slice (some a9) n n∧n=(liveS H L).1.length∧vs.length=n∧Sorted n (H.Mems.flatMap (blkOf (dstF H) (liveS H L).1)) B∧Wd Γ' (.own (.slice (some a9) n n) 66 2 (poolsR (liveS H L).1 vs)::(inn 68 2 (poolsI vs B)++S)) w')):=by
  obtain ⟨a1,n1,c1,a2,n2,c2,a3,n3,c3,a4,n4,c4,a5,n5,c5,cs',rfl,hcs,hok,hsz,r1,r2,r3,r4,r5⟩:=hh.h
  obtain ⟨hn4,hm4,hx4⟩:=rep_facts r4
  simp only [List.length_map] at hn4
  refine calls_of_W Tryz.func12 rfl rfl ?_
  repeat (first | refine byW ?_ | (refine byV ?_;intro w hw))
  refine lBox ?_
  intro b2 w hw
  have hw:Wd Γ (.blk b2 (hwC H a1 n1 c1 a2 n2 c2 a3 n3 c3 a4 n4 c4 a5 n5 c5)::S) w:=hw
  repeat (first | refine byW ?_ | (refine byV ?_;intro w hw))
  refine lCall ((liveCores_any (hh:=hh) hr hN hw).mono fun e w hq=>?_)
  obtain ⟨v6,rfl,hw⟩:=hq
  refine ⟨_,rfl,?_⟩
  have hLc:∀ c∈(liveS H L).1,validS H=0∧c∈H.Cores:=fun c hc=>by
    unfold liveS at hc
    split at hc
    · simp at hc
    · rename_i hv
      split at hc
      · simp at hc
      · rename_i hno
        split at hc
        · simp at hc
        · split at hc
          · simp at hc
          · obtain ⟨id,hid,rfl⟩:=List.mem_map.1 hc
            refine ⟨by simpa using hv,(findC_in ?_).1⟩
            cases hq:(findC H.Cores id).2 with
            | true=>rfl
            | false=>exact absurd ⟨id,hid,hq⟩ hno
  have hLv:(liveS H L).2=0→validS H=0:=fun h=>by
    unfold liveS at h
    split at h
    · exact h
    · rename_i hv;simpa using hv
  have hLl:(liveS H L).1.length≤1000:=by
    unfold liveS
    split
    · simp
    · split
      · simp
      · split
        · simp
        · split
          · simp
          · have:=(sortZ_perm L).length_eq
            simp only [List.length_map];omega
  have hne:(liveS H L).2=0→0 < (liveS H L).1.length:=fun h=>by
    unfold liveS at h ⊢
    split at h
    · rename_i hv;exact absurd h hv
    · rename_i hv
      rw [if_neg hv]
      split at h
      · simp at h
      · rename_i h1
        rw [if_neg h1]
        split at h
        · simp at h
        · rename_i h2
          rw [if_neg h2]
          split at h
          · simp at h
          · rename_i h3
            rw [if_neg h3]
            simp only [List.length_map]
            exact Nat.pos_of_ne_zero fun e=>h3 (List.eq_nil_of_length_eq_zero e)
  generalize (liveS H L).1=cs at *
  generalize (liveS H L).2=er at *
  obtain ⟨a6,n,c6,rfl,hn6,hnc6,hc6⟩:=hw.own_shape (i:=0) rfl
  simp only [List.length_map] at hn6
  have hRE:=hN
  repeat (first | refine byW ?_ | (refine byV ?_;intro w hw))
  refine W_cond rfl (fun h=>?_) (fun h=>?_)
  · have h:er≠0:=of_decide_eq_true h
    repeat (first | refine byW ?_ | (refine byV ?_;intro w hw))
    exact ⟨_,rfl,Γ,.slice none 0 0,.refl _,rfl,.inl ⟨h,rfl,hw.ds [0,0]⟩⟩
  have h:er=0:=by have:=of_decide_eq_false h;simpa using this
  subst h
  have hv:=hLv rfl
  have hne:=hne rfl
  clear hLv
  obtain ⟨Γ1,hle1,rc,hw1⟩:=hw.freeze
  clear hw
  have hw:=hw1
  clear hw1
  have hBr1:BrG Γ1:=hBr.mono hle1
  have hh1:HwR Γ1 _ H:=hh.mono hle1
  have r41:=r4.mono hle1
  repeat (first | refine byW ?_ | (refine byV ?_;intro w hw))
  refine lCall ((measure_any (hh:=hh1) hv hw).mono fun e w hq=>?_)
  obtain ⟨b8,rfl,hw⟩:=hq
  refine ⟨_,rfl,?_⟩
  obtain ⟨Γ2,hle2,hT2,hw2⟩:=hw.freezeB
  clear hw
  have hw:=hw2
  clear hw2
  haveI hT:Tab Γ2 b8 (dstF H):=⟨hT2⟩
  haveI hBr2:BrG Γ2:=hBr1.mono hle2
  have r4:=r41.mono hle2
  have rc:=rc.mono hle2
  have hle:Γ.le Γ2:=hle1.trans hle2
  have hcan:∀ c∈cs,∀ m∈H.Mems,Can (dstF H) c m:=fun c hc m hm=>can_of hv (hLc c hc).2 hm
  have hmem:H.Mems.length≤64:=by
    obtain ⟨-,h2, -⟩:=valid_all hv
    unfold countsB at h2
    simp only [Bool.and_eq_true,decide_eq_true_eq] at h2
    omega
  have hpow:∀ m∈H.Mems,∃ e,MemP m e:=fun m hm=>mem_pow hv hwd hm
  clear hT2 hle1 hle2 hBr1 hh1 r41 hBr hLc
  generalize dstF H=D at *
  repeat (first | refine byW ?_ | (refine byV ?_;intro w hw))
  refine lMakeSlice ?_
  intro a9 w hw
  have hw:Wd Γ2 (.own (.slice (some a9) n n) 66 2 (firstR cs 0)::.blk b2 (hwC H a1 n1 c1 a2 n2 c2 a3 n3 c3 a4 n4 c4 a5 n5 c5)::S) w:=by
    have:firstR cs 0=List.replicate n [.int .i64 0,.slice none 0 0]:=by unfold firstR;simp [hn6]
    rw [this];exact hw
  repeat (first | refine byW ?_ | (refine byV ?_;intro w hw))
  refine W_loop (fun μ ρ w=>∃ (k:Nat),μ+k=n∧Has ρ [(2,.pointer (some ⟨b2,0,none⟩)),(6,.slice a6 n c6),(8,.pointer (some ⟨b8,0,none⟩)),(9,.slice (some a9) n n),(38,.slice a6 n c6),(39,.int .i64 n),(40,.int .i64 k)]∧Wd Γ2 (.own (.slice (some a9) n n) 66 2 (firstR cs k)::.blk b2 (hwC H a1 n1 c1 a2 n2 c2 a3 n3 c3 a4 n4 c4 a5 n5 c5)::S) w) n ⟨0,by omega,⟨rfl,rfl,rfl,rfl,rfl,rfl,rfl,trivial⟩,hw⟩ ?_
  clear hw
  rintro μ ρ w ⟨k,hk,hρ,hw⟩
  rw [hρ.eq]
  clear hρ
  repeat (first | refine byW ?_ | (refine byV ?_;intro w hw))
  refine W_cond rfl (fun h=>?_) (fun h=>?_)
  · have hkn:k < n:=by have:=of_decide_eq_true h;omega
    clear h
    obtain ⟨c,hc⟩:=get_lt (l:=cs) (k:=k) (by omega)
    repeat (first | refine byW ?_ | (refine byV ?_;intro w hw))
    refine lAlloc ?_
    intro b11 w hw
    repeat (first | refine byW ?_ | (refine byV ?_;intro w hw))
    refine lStore ?_
    intro w hw
    have hw:Wd Γ2 (.blk b11 (.cells (enc c).toArray 54)::.own (.slice (some a9) n n) 66 2 (firstR cs k)::.blk b2 (hwC H a1 n1 c1 a2 n2 c2 a3 n3 c3 a4 n4 c4 a5 n5 c5)::S) w:=hw
    repeat (first | refine byW ?_ | (refine byV ?_;intro w hw))
    refine lStoreEf (i:=1) (k:=k) (f:=0) (row:=[.int .i64 0,.slice none 0 0]) ?_ (firstR_get (cs:=cs) (k:=k) (by omega))
    intro w hw
    have hw:Wd Γ2 (.own (.slice (some a9) n n) 66 2 ((firstR cs k).set k [.int .i64 c.ID,.slice none 0 0])::.blk b2 (hwC H a1 n1 c1 a2 n2 c2 a3 n3 c3 a4 n4 c4 a5 n5 c5)::S) w:=hw.drop
    rw [firstR_set hc] at hw
    repeat (first | refine byW ?_ | (refine byV ?_;intro w hw))
    exact ⟨μ - 1,by omega,k+1,by omega,⟨rfl,rfl,rfl,rfl,rfl,rfl,rfl,trivial⟩,hw⟩
  have hkn:n=k:=by have:=of_decide_eq_false h;omega
  subst hkn
  clear h hk
  rw [hn6,firstR_end,← hn6] at hw
  have hw:Wd Γ2 (.own (.slice (some a9) n n) 66 2 (poolsR cs (List.replicate n (.slice none 0 0)))::.blk b2 (hwC H a1 n1 c1 a2 n2 c2 a3 n3 c3 a4 n4 c4 a5 n5 c5)::(inn 68 2 (poolsI (List.replicate n (.slice none 0 0)) (bls n []))++S)) w:=by
    rw [poolsI_nil]
    have h1:=inn_nil (E:=68) (sz:=2) n hw
    exact (h1.unrot.ps [0]).perm (List.Perm.cons _ List.perm_middle)
  repeat (first | refine byW ?_ | (refine byV ?_;intro w hw))
  refine W_loop (fun μ ρ w=>∃ (j:Nat) (vs:List Value),μ+j=n4∧vs.length=n∧Has ρ [(2,.pointer (some ⟨b2,0,none⟩)),(6,.slice a6 n c6),(8,.pointer (some ⟨b8,0,none⟩)),(9,.slice (some a9) n n),(53,.slice a4 n4 c4),(54,.int .i64 n4),(55,.int .i64 j)]∧Wd Γ2 (.own (.slice (some a9) n n) 66 2 (poolsR cs vs)::.blk b2 (hwC H a1 n1 c1 a2 n2 c2 a3 n3 c3 a4 n4 c4 a5 n5 c5)::(inn 68 2 (poolsI vs (bls n ((H.Mems.take j).flatMap (blkOf D cs))))++S)) w) n4 ⟨0,List.replicate n (.slice none 0 0),by omega,by simp,⟨rfl,rfl,rfl,rfl,rfl,rfl,rfl,trivial⟩,hw⟩ ?_
  clear hw
  rintro μ ρ w ⟨j,vs,hj,hvs,hρ,hw⟩
  rw [hρ.eq]
  clear hρ
  repeat (first | refine byW ?_ | (refine byV ?_;intro w hw))
  refine W_cond rfl (fun h=>?_) (fun h=>?_)
  · have hjn:j < n4:=by have:=of_decide_eq_true h;omega
    clear h
    obtain ⟨m,hm⟩:=get_lt (l:=H.Mems) (k:=j) (by omega)
    have hmm:=List.mem_of_getElem? hm
    obtain ⟨e,he⟩:=hpow m hmm
    have hcm:∀ c∈cs,Can D c m:=fun c hc=>hcan c hc m hmm
    generalize hl:(H.Mems.take j).flatMap (blkOf D cs)=l at *
    have hl':(H.Mems.take (j+1)).flatMap (blkOf D cs)=l++blkOf D cs m:=by rw [take_succ_of hm,List.flatMap_append,hl];simp
    repeat (first | refine byW ?_ | (refine byV ?_;intro w hw))
    refine lAlloc ?_
    intro b13 w hw
    refine lStore ?_
    intro w hw
    have hw:Wd Γ2 (.blk b13 (.cells (enc m).toArray 61)::.own (.slice (some a9) n n) 66 2 (poolsR cs vs)::.blk b2 (hwC H a1 n1 c1 a2 n2 c2 a3 n3 c3 a4 n4 c4 a5 n5 c5)::(inn 68 2 (poolsI vs (bls n l))++S)) w:=hw
    have hw:=Wd.addNil (a:=none) (E:=3) (sz:=1) hw
    obtain ⟨S1,hS1⟩:∃ S1,S1=.own (.slice (some a9) n n) 66 2 (poolsR cs vs)::.blk b2 (hwC H a1 n1 c1 a2 n2 c2 a3 n3 c3 a4 n4 c4 a5 n5 c5)::(inn 68 2 (poolsI vs (bls n l))++S):=⟨_,rfl⟩
    rw [← hS1] at hw
    repeat (first | refine byW ?_ | (refine byV ?_;intro w hw))
    refine W_loop (fun μ2 ρ w=>∃ (i:Nat) (v15:Value),μ2+i=n∧Has ρ [(2,.pointer (some ⟨b2,0,none⟩)),(6,.slice a6 n c6),(8,.pointer (some ⟨b8,0,none⟩)),(9,.slice (some a9) n n),(53,.slice a4 n4 c4),(54,.int .i64 n4),(55,.int .i64 j),(13,.pointer (some ⟨b13,0,none⟩)),(14,.int .i64 (candR (costI D cs m) i).1),(15,v15),(59,.slice a6 n c6),(60,.int .i64 n),(61,.int .i64 i)]∧Wd Γ2 (.own v15 3 1 (intRows ((candR (costI D cs m) i).2.map fun x:Nat=>(x:Int)))::.blk b13 (.cells (enc m).toArray 61)::S1) w) n ⟨0,.slice none 0 0,by omega,⟨rfl,rfl,rfl,rfl,rfl,rfl,rfl,rfl,rfl,rfl,rfl,rfl,rfl,trivial⟩,hw⟩ ?_
    clear hw
    rintro μ2 ρ w ⟨i,v15,hi,hρ,hw⟩
    rw [hρ.eq]
    clear hρ
    repeat (first | refine byW ?_ | (refine byV ?_;intro w hw))
    refine W_cond rfl (fun h=>?_) (fun h=>?_)
    · have hin:i < n:=by have:=of_decide_eq_true h;omega
      clear h
      obtain ⟨c,hc⟩:=get_lt (l:=cs) (k:=i) (by omega)
      have hcc:=hcm c (List.mem_of_getElem? hc)
      haveI:=pg_memory (Γ:=Γ2) (b:=b8) (D:=D) hcc
      have hci:costI D cs m i=costM D c m:=by unfold costI;simp [hc]
      have hst:candR (costI D cs m) (i+1)=if (candR (costI D cs m) i).1 < 0∨costM D c m < (candR (costI D cs m) i).1 then (costM D c m,[i]) else if costM D c m=(candR (costI D cs m) i).1 then ((candR (costI D cs m) i).1,(candR (costI D cs m) i).2++[i]) else candR (costI D cs m) i:=by rw [← hci];rfl
      have hcl:=candR_len (f:=costI D cs m) i
      generalize hq:candR (costI D cs m) i=q at *
      obtain ⟨q1,q2⟩:=q
      obtain ⟨a15,n15,c15,rfl,hn15,hnc15, -⟩:=hw.own_shape (i:=0) rfl
      simp only [intRows,List.length_map] at hn15
      simp only at hst hcl
      repeat (first | refine byW ?_ | (refine byV ?_;intro w hw))
      refine lAlloc ?_
      intro b17 w hw
      repeat (first | refine byW ?_ | (refine byV ?_;intro w hw))
      refine lStore ?_
      intro w hw
      have hw:Wd Γ2 (.blk b17 (.cells (enc c).toArray 54)::.own (.slice a15 n15 c15) 3 1 (intRows (q2.map fun x:Nat=>(x:Int)))::.blk b13 (.cells (enc m).toArray 61)::S1) w:=hw
      repeat (first | refine byW ?_ | (refine byV ?_;intro w hw))
      refine W_cond rfl (fun h=>?_) (fun h=>?_)
      · have h:q1 < 0∨costM D c m < q1:=by simpa using h
        rw [if_pos h] at hst
        repeat (first | refine byW ?_ | (refine byV ?_;intro w hw))
        refine lBuildSlice [[.int .i64 (i:Int)]] ?_
        intro a80 w hw
        have hw:Wd Γ2 (.own (.slice (some a80) 1 1) 3 1 (intRows ([i].map fun x:Nat=>(x:Int)))::.blk b13 (.cells (enc m).toArray 61)::S1) w:=hw.ds [1,1]
        repeat (first | refine byW ?_ | (refine byV ?_;intro w hw))
        exact ⟨μ2 - 1,by omega,i+1,.slice (some a80) 1 1,by omega,by rw [hst];exact ⟨rfl,rfl,rfl,rfl,rfl,rfl,rfl,rfl,rfl,rfl,rfl,rfl,rfl,trivial⟩,by rw [hst];exact hw⟩
      · have h:¬ (q1 < 0∨costM D c m < q1):=by simpa using h
        rw [if_neg h] at hst
        repeat (first | refine byW ?_ | (refine byV ?_;intro w hw))
        refine W_cond rfl (fun h=>?_) (fun h=>?_)
        · have h:costM D c m=q1:=of_decide_eq_true h
          rw [if_pos h] at hst
          repeat (first | refine byW ?_ | (refine byV ?_;intro w hw))
          refine lBuildSlice [[.int .i64 (i:Int)]] ?_
          intro a87 w hw
          refine lApp (i:=2) (rows2:=[[.int .i64 (i:Int)]]) ?_ (hw.own_rd (i:=0) rfl) rfl rfl hw rfl (by simp [Value.oneCell']) rfl
          intro v15 w hw
          have hw:Wd Γ2 (.own v15 3 1 (intRows (q2.map fun x:Nat=>(x:Int))++[[.int .i64 (i:Int)]])::.blk b13 (.cells (enc m).toArray 61)::S1) w:=hw.ds [0,0]
          repeat (first | refine byW ?_ | (refine byV ?_;intro w hw))
          refine ⟨μ2 - 1,by omega,i+1,v15,by omega,by rw [hst];exact ⟨rfl,rfl,rfl,rfl,rfl,rfl,rfl,rfl,rfl,rfl,rfl,rfl,rfl,trivial⟩,?_⟩
          rw [hst]
          have e1:intRows ((q2++[i]).map fun x:Nat=>(x:Int))=intRows (q2.map fun x:Nat=>(x:Int))++[[.int .i64 (i:Int)]]:=by simp [intRows]
          rw [e1];exact hw
        · have h:¬ costM D c m=q1:=of_decide_eq_false h
          rw [if_neg h] at hst
          repeat (first | refine byW ?_ | (refine byV ?_;intro w hw))
          exact ⟨μ2 - 1,by omega,i+1,_,by omega,by rw [hst];exact ⟨rfl,rfl,rfl,rfl,rfl,rfl,rfl,rfl,rfl,rfl,rfl,rfl,rfl,trivial⟩,by rw [hst];exact hw.ds [0]⟩
    have hin:n=i:=by have:=of_decide_eq_false h;omega
    subst hin
    clear h hi
    have hnear:(candR (costI D cs m) n).2=nearL D cs m:=by rw [hn6];rfl
    obtain ⟨a15,n15,c15,rfl,hn15,hnc15, -⟩:=hw.own_shape (i:=0) rfl
    simp only [intRows,List.length_map] at hn15
    rw [hnear] at hn15
    rw [hnear] at hw
    have hnlt:∀ x∈nearL D cs m,x < n:=fun x hx=>by rw [hn6];exact candR_lt _ x hx
    have hnlen:(nearL D cs m).length≤n:=by rw [hn6];exact candR_len _
    have hnpos:0 < (nearL D cs m).length:=by
      rcases candR_ok (f:=costI D cs m) cs.length (fun i hi=>by
        unfold costI costM
        obtain ⟨c,hc⟩:=get_lt (l:=cs) (k:=i) hi
        have:=hcm c (List.mem_of_getElem? hc)
        simp only [List.getD_eq_getElem?_getD,hc,Option.getD_some]
        have h1:=this.d;have h2:=this.l
        omega) with ⟨h1, -⟩ | ⟨-, -, -,h1, -⟩
      · omega
      · exact h1
    have hsz0:=he.size
    have hpk:2 ^ e≤1099511627776:=Nat.le_trans (Nat.pow_le_pow_right (n:=2) (by omega) he.hi) (by decide)
    have hsz1:0≤m.Size∧m.Size≤1099511627776:=by
      rw [hsz0]
      generalize 2 ^ e=E at hpk ⊢
      omega
    have hP:IntKind.u64.wrap (m.Size.tdiv 4096)=((m.Size.toNat / 4096:Nat):Int):=by
      rw [Int.tdiv_eq_ediv_of_nonneg hsz1.1]
      simp [IntKind.wrap,IntKind.bits,IntKind.signed];omega
    have hu64:∀ z:Int,0≤z→z < 18446744073709551616→IntKind.u64.wrap z=z:=fun z h1 h2=>by simp [IntKind.wrap,IntKind.bits,IntKind.signed];omega
    repeat (first | refine byW ?_ | (refine byV ?_;intro w hw))
    refine W_cutB (fun ρ w=>Has ρ [(2,.pointer (some ⟨b2,0,none⟩)),(6,.slice a6 n c6),(8,.pointer (some ⟨b8,0,none⟩)),(9,.slice (some a9) n n),(53,.slice a4 n4 c4),(54,.int .i64 n4),(55,.int .i64 j),(13,.pointer (some ⟨b13,0,none⟩)),(15,.slice a15 n15 c15),(19,.int .i64 (cutN m (nearL D cs m).length:Nat))]∧Wd Γ2 (.own (.slice a15 n15 c15) 3 1 (intRows ((nearL D cs m).map fun x:Nat=>(x:Int)))::.blk b13 (.cells (enc m).toArray 61)::S1) w) ?_ ?_
    · refine W_loop (fun μ2 ρ w=>∃ q:Nat,18446744073709551616≤q * 2 ^ μ2∧q≤2000∧dblN (nearL D cs m).length (m.Size.toNat / 4096) μ2 q=cutN m (nearL D cs m).length∧Has ρ [(2,.pointer (some ⟨b2,0,none⟩)),(6,.slice a6 n c6),(8,.pointer (some ⟨b8,0,none⟩)),(9,.slice (some a9) n n),(53,.slice a4 n4 c4),(54,.int .i64 n4),(55,.int .i64 j),(13,.pointer (some ⟨b13,0,none⟩)),(15,.slice a15 n15 c15),(19,.int .i64 (q:Nat))]∧Wd Γ2 (.own (.slice a15 n15 c15) 3 1 (intRows ((nearL D cs m).map fun x:Nat=>(x:Int)))::.blk b13 (.cells (enc m).toArray 61)::S1) w) 64 ⟨1,by decide,by omega,rfl,⟨rfl,rfl,rfl,rfl,rfl,rfl,rfl,rfl,rfl,rfl,trivial⟩,hw⟩ ?_
      clear hw
      rintro μ2 ρ w ⟨q,hq1,hq2,hq3,hρ,hw⟩
      rw [hρ.eq]
      clear hρ
      have hqw:IntKind.u64.wrap (q:Int)=q:=hu64 _ (by omega) (by omega)
      generalize hPg:m.Size.toNat / 4096=PP at *
      generalize hlg:(nearL D cs m).length=len at *
      repeat (first | refine byW ?_ | (refine byV ?_;intro w hw))
      refine W_cond rfl (fun h=>?_) (fun h=>?_)
      · have h:(q:Int) < n15∧IntKind.u64.wrap (q:Int) < IntKind.u64.wrap (m.Size.tdiv 4096):=by simpa using h
        rw [hqw,hP] at h
        obtain ⟨f,rfl⟩:∃ f,μ2=f+1:=by
          cases μ2 with
          | zero=>simp at hq1;omega
          | succ f=>exact ⟨f,rfl⟩
        have hst:dblN len PP f (2 * q)=cutN m len:=by
          rw [← hq3,dblN,if_pos (by omega)]
        repeat (first | refine byW ?_ | (refine byV ?_;intro w hw))
        refine ⟨f,by omega,2 * q,by rw [Nat.pow_succ] at hq1;rw [Nat.mul_comm 2 q,Nat.mul_assoc,Nat.mul_comm 2];exact hq1,by omega,hst,?_,hw⟩
        exact ⟨rfl,rfl,rfl,rfl,rfl,rfl,rfl,rfl,rfl,by show Value.int .i64 ((q:Int) * 2)=_;rw [show ((2 * q:Nat):Int)=(q:Int) * 2 by omega],trivial⟩
      · have h : ¬ ((q : Int) < n15 ∧ IntKind.u64.wrap (q : Int) < IntKind.u64.wrap (m.Size.tdiv 4096)) := by
          intro hh
          have:=of_decide_eq_true (p:=(q:Int) < n15∧IntKind.u64.wrap (q:Int) < IntKind.u64.wrap (m.Size.tdiv 4096)) (decide_eq_true hh)
          simp [this.1,this.2] at h
        rw [hqw,hP] at h
        have hst:q=cutN m len:=by rw [← hq3,dbl_stop (by omega)]
        rw [← hst]
        repeat (first | refine byW ?_ | (refine byV ?_;intro w hw))
        exact ⟨⟨rfl,rfl,rfl,rfl,rfl,rfl,rfl,rfl,rfl,rfl,trivial⟩,hw⟩
    clear hw
    rintro ρ w ⟨hρ,hw⟩
    rw [hρ.eq]
    clear hρ
    obtain ⟨jj,hj1,hj2,hj3⟩:=cut_pow he (nearL D cs m).length
    have hq2000:=cut_lt (D:=D) he hLl
    have hblk:blkOf D cs m=(List.range (cutN m (nearL D cs m).length)).map fun i=>((nearL D cs m).getD (i % (nearL D cs m).length) 0,⟨m.Base+i * ((m.Size.toNat / cutN m (nearL D cs m).length:Nat):Int),((m.Size.toNat / cutN m (nearL D cs m).length).log2:Nat)⟩):=rfl
    have hqpos:0 < cutN m (nearL D cs m).length:=by rw [hj2];exact Nat.pow_pos (by omega)
    generalize hqe:cutN m (nearL D cs m).length=q at *
    obtain ⟨sz,hsz⟩:∃ sz,sz=m.Size.toNat / q:=⟨_,rfl⟩
    rw [← hsz] at hblk hj3
    haveI htz:PG Tryz.prog Γ2 42 [.int .u64 ((sz:Nat):Int)] (.int .i64 ((sz.log2:Nat):Int)):=by
      rw [hj3,Nat.log2_two_pow]
      exact pg_tz (by have:=he.hi;omega)
    have hqw:IntKind.u64.wrap (q:Int)=q:=hu64 _ (by omega) (by omega)
    have hsq:sz * q≤m.Size.toNat:=by rw [hsz];exact Nat.div_mul_le_self _ _
    have hszl:sz≤m.Size.toNat:=Nat.le_trans (Nat.le_mul_of_pos_right _ hqpos) hsq
    have hszq:IntKind.u64.wrap (m.Size.tdiv (IntKind.u64.wrap (q:Int)))=(sz:Int):=by
      rw [hqw,Int.tdiv_eq_ediv_of_nonneg hsz1.1]
      have e1:m.Size / (q:Int)=((m.Size.toNat / q:Nat):Int):=by
        rw [Int.natCast_ediv,Int.toNat_of_nonneg hsz1.1]
      rw [e1,← hsz]
      exact hu64 _ (by omega) (by omega)
    have hlenl:l.length≤200000:=by
      rw [← hl]
      have h1:∀ x∈H.Mems.take j,(blkOf D cs x).length≤2000:=fun x hx=>by
        obtain ⟨e',he'⟩:=hpow x (List.mem_of_mem_take hx)
        have:=cut_lt (D:=D) he' hLl
        unfold blkOf;simpa using this
      have h2:∀ ms:List MemT,(∀ x∈ms,(blkOf D cs x).length≤2000)→(ms.flatMap (blkOf D cs)).length≤2000 * ms.length:=fun ms=>by
        induction ms with
        | nil=>intro _;simp
        | cons y ys ih=>
          intro h
          have a1:=h y (by simp)
          have a2:=ih fun x hx=>h x (by simp [hx])
          rw [List.flatMap_cons,List.length_append,List.length_cons];omega
      have h3:=h2 _ h1
      have h4:=List.length_take_le j H.Mems
      omega
    have hw:Wd Γ2 (.own (.slice a15 n15 c15) 3 1 (intRows ((nearL D cs m).map fun x:Nat=>(x:Int)))::.blk b13 (.cells (enc m).toArray 61)::.own (.slice (some a9) n n) 66 2 (poolsR cs vs)::.blk b2 (hwC H a1 n1 c1 a2 n2 c2 a3 n3 c3 a4 n4 c4 a5 n5 c5)::(inn 68 2 (poolsI vs (bls n (l++(blkOf D cs m).take 0)))++S)) w:=by
      rw [hS1] at hw;simpa using hw
    clear hS1
    repeat (first | refine byW ?_ | (refine byV ?_;intro w hw))
    refine W_loop (fun μ2 ρ w=>∃ (i:Nat) (vs:List Value),μ2+i=q∧vs.length=n∧Has ρ [(2,.pointer (some ⟨b2,0,none⟩)),(6,.slice a6 n c6),(8,.pointer (some ⟨b8,0,none⟩)),(9,.slice (some a9) n n),(53,.slice a4 n4 c4),(54,.int .i64 n4),(55,.int .i64 j),(13,.pointer (some ⟨b13,0,none⟩)),(15,.slice a15 n15 c15),(19,.int .i64 (q:Nat)),(20,.int .u64 (sz:Nat)),(21,.int .i64 i)]∧Wd Γ2 (.own (.slice a15 n15 c15) 3 1 (intRows ((nearL D cs m).map fun x:Nat=>(x:Int)))::.blk b13 (.cells (enc m).toArray 61)::.own (.slice (some a9) n n) 66 2 (poolsR cs vs)::.blk b2 (hwC H a1 n1 c1 a2 n2 c2 a3 n3 c3 a4 n4 c4 a5 n5 c5)::(inn 68 2 (poolsI vs (bls n (l++(blkOf D cs m).take i)))++S)) w) q ⟨0,vs,by omega,hvs,⟨rfl,rfl,rfl,rfl,rfl,rfl,rfl,rfl,rfl,rfl,by show Value.int .u64 (IntKind.u64.wrap (m.Size.tdiv (IntKind.u64.wrap (q:Int))))=_;rw [hszq],rfl,trivial⟩,hw⟩ ?_
    clear hw hvs
    rintro μ2 ρ w ⟨i,vs,hi,hvs,hρ,hw⟩
    rw [hρ.eq]
    clear hρ
    repeat (first | refine byW ?_ | (refine byV ?_;intro w hw))
    refine W_cond rfl (fun h=>?_) (fun h=>?_)
    · have hin:i < q:=by have:=of_decide_eq_true h;omega
      clear h
      have hrl:i % (nearL D cs m).length < (nearL D cs m).length:=Nat.mod_lt _ hnpos
      obtain ⟨k,hk⟩:=get_lt (l:=nearL D cs m) (k:=i % (nearL D cs m).length) hrl
      have hkn:k < n:=hnlt k (List.mem_of_getElem? hk)
      have hbi:(blkOf D cs m)[i]? = some (k,⟨m.Base+i * (sz:Int),(sz.log2:Nat)⟩):=by
        rw [hblk,List.getElem?_map,List.getElem?_range hin]
        simp [List.getD_eq_getElem?_getD,hk]
      have htm:(i:Int).tmod (n15:Int)=((i % (nearL D cs m).length:Nat):Int):=by
        rw [hn15,Int.tmod_eq_emod_of_nonneg (by omega)];rfl
      have hid:((nearL D cs m).map fun x:Nat=>(x:Int))[((i:Int).tmod (n15:Int)).toNat]? = some (k:Int):=by
        rw [htm,Int.toNat_natCast,List.getElem?_map,hk];rfl
      have hrow:(intRows ((nearL D cs m).map fun x:Nat=>(x:Int)))[((i:Int).tmod (n15:Int)).toNat]? = some [.int .i64 (k:Int)]:=by simp only [intRows,List.getElem?_map] at hid ⊢;rw [hid] <;> rfl
      have htm2:0≤(i:Int).tmod (n15:Int)∧(i:Int).tmod (n15:Int) < n15:=by rw [htm];omega
      clear htm hk hrl
      obtain ⟨c,hc⟩:=get_lt (l:=cs) (k:=k) (by omega)
      obtain ⟨vk,hvk⟩:=get_lt (l:=vs) (k:=k) (by omega)
      repeat (first | refine byW ?_ | (refine byV ?_;intro w hw))
      have hl2:(l++(blkOf D cs m).take i).length≤210000:=by
        rw [List.length_append]
        have:=List.length_take_le i (blkOf D cs m)
        omega
      have hl3:(l++(blkOf D cs m).take i)++[(k,(⟨m.Base+i * (sz:Int),(sz.log2:Nat)⟩:RangeT))]=l++(blkOf D cs m).take (i+1):=by
        rw [take_succ_of hbi,List.append_assoc]
      have hbl:=bls_set (n:=n) (k:=k) (l:=l++(blkOf D cs m).take i) (r:=⟨m.Base+i * (sz:Int),(sz.log2:Nat)⟩)
      rw [hl3] at hbl
      have hB:(bls n (l++(blkOf D cs m).take i))[k]? = some (ofC k (l++(blkOf D cs m).take i)):=by unfold bls;rw [List.getElem?_map,List.getElem?_range hkn];rfl
      have hoC:(ofC k (l++(blkOf D cs m).take i)).length≤210000:=by
        unfold ofC
        rw [List.length_map]
        exact Nat.le_trans (List.length_filter_le _ _) hl2
      clear hl2 hl3
      generalize l++(blkOf D cs m).take i=l' at *
      generalize ofC k l'=bk at *
      have hop:=inn_openA (A:=[.own (.slice a15 n15 c15) 3 1 (intRows ((nearL D cs m).map fun x:Nat=>(x:Int))),.blk b13 (.cells (enc m).toArray 61),.own (.slice (some a9) n n) 66 2 (poolsR cs vs),.blk b2 (hwC H a1 n1 c1 a2 n2 c2 a3 n3 c3 a4 n4 c4 a5 n5 c5)]) (poolsI_get hvk hB) hw
      clear hw
      have hw:Wd Γ2 ([.blk b13 (.cells (enc m).toArray 61)]++(.own (.slice (some a9) n n) 66 2 (poolsR cs vs)::.own vk 68 2 (bk.map enc)::.blk b2 (hwC H a1 n1 c1 a2 n2 c2 a3 n3 c3 a4 n4 c4 a5 n5 c5)::.own (.slice a15 n15 c15) 3 1 (intRows ((nearL D cs m).map fun x:Nat=>(x:Int)))::(inn 68 2 ((poolsI vs (bls n l')).eraseIdx k)++S))) w:=hop.ps [1,4,2,4,4]
      clear hop
      have hpl:k < (poolsI vs (bls n l')).length:=(List.getElem?_eq_some_iff.1 (poolsI_get hvk hB)).1
      obtain ⟨ak,mk,ck,rfl,hmk,hmck, -⟩:=hw.own_shape (i:=2) rfl
      simp only [List.length_map] at hmk
      have hiw:IntKind.u64.wrap (i:Int)=i:=hu64 _ (by omega) (by omega)
      have hisz:(i:Int) * (sz:Int)≤m.Size:=by
        have h1:i * sz≤q * sz:=Nat.mul_le_mul_right _ (by omega)
        have h2:((i * sz:Nat):Int)=(i:Int) * sz:=by push_cast;rfl
        rw [Nat.mul_comm q sz] at h1
        omega
      have hisz0:0≤(i:Int) * (sz:Int):=Int.mul_nonneg (by omega) (by omega)
      have hbase:=he.base
      have hfin:=he.fin
      have hrr:IntKind.i64.wrap (IntKind.u64.wrap (m.Base+IntKind.u64.wrap (IntKind.u64.wrap (i:Int) * (sz:Int))))=m.Base+i * (sz:Int):=by
        rw [hiw,hu64 _ hisz0 (by omega),hu64 _ (by omega) (by omega),wrap_i64 (by omega) (by omega)]
      obtain ⟨rr,hr1⟩:∃ rr:RangeT,rr=⟨IntKind.i64.wrap (IntKind.u64.wrap (m.Base+IntKind.u64.wrap (IntKind.u64.wrap (i:Int) * (sz:Int)))),(sz.log2:Nat)⟩:=⟨_,rfl⟩
      have hr2:rr=⟨m.Base+i * (sz:Int),(sz.log2:Nat)⟩:=by rw [hr1,hrr]
      rw [← hr2] at hbl
      refine W_mix2 [.blk b13 (.cells (enc m).toArray 61)] _ [[],[],[],[],[],[],[],[],[],[],[],[],[],[],[],[],[1],[0],[],[],[0]] [[],[],[],[],[0],[],[],[],[],[],[],[],[],[],[],[],[1],[0,1],[],[],[0]] [[140],[139]] hw ?_
      repeat (first | refine mY ?_ | refine mP ?_ | refine mPg ?_)
      refine mY (v:=.slice ak mk ck) ?_ (hy:=fun Y w g hw=>y_loadEf rfl (hw.own_rd (i:=1) rfl) (poolsR_get hc hvk) rfl)
      repeat (first | refine mY ?_ | refine mP ?_ | refine mPg ?_)
      refine mY (v:=.agg (enc rr).toArray) ?_ (hy:=fun Y w g hw=>by rw [hr1];exact y_build rfl)
      refine mBuild [enc rr] ?_
      refine mApp (j:=1) ?_
      repeat (first | refine mY ?_ | refine mP ?_ | refine mPg ?_)
      refine mS (c:=0) (v:=undef) (F:=fun g=>.own (.slice (some a9) n n) 66 2 (poolsR cs vs)::.own (g 140) 68 2 (bk.map enc++[enc rr])::.blk b2 (hwC H a1 n1 c1 a2 n2 c2 a3 n3 c3 a4 n4 c4 a5 n5 c5)::.own (.slice a15 n15 c15) 3 1 (intRows ((nearL D cs m).map fun x:Nat=>(x:Int)))::(inn 68 2 ((poolsI vs (bls n l')).eraseIdx k)++S))
        (fun g=>.own (.slice (some a9) n n) 66 2 ((poolsR cs vs).set k [.int .i64 c.ID,g 140])::.own (g 140) 68 2 (bk.map enc++[enc rr])::.blk b2 (hwC H a1 n1 c1 a2 n2 c2 a3 n3 c3 a4 n4 c4 a5 n5 c5)::.own (.slice a15 n15 c15) 3 1 (intRows ((nearL D cs m).map fun x:Nat=>(x:Int)))::(inn 68 2 ((poolsI vs (bls n l')).eraseIdx k)++S)) (fun g w Y hw=>?_) ?_ (hM:=rfl)
      · obtain ⟨a',n',c',hg, -, -, -⟩:=hw.own_shape (i:=1) rfl
        have hg:g 140=.slice a' n' c':=hg
        exact s_storeEf (E:=66) (k:=k) (f:=1) (m:=1) (i:=0) (n:=n) (c:=n) (row:=[.int .i64 c.ID,.slice ak mk ck]) (r:=[g 140]) (TSz.h (P:=Tryz.prog) (T:=64)) hw rfl rfl (by show (g 140).cells.toList=[g 140];rw [hg];rfl) rfl (by rw [hg];rfl) rfl hkn (poolsR_get hc hvk) (by decide) (fun w' hw'=>⟨fun _=>rfl,hw'⟩)
      refine mEnd fun w g hw=>?_
      have hw:=Wd.dropEnd hw
      have hw:Wd Γ2 ([.blk b13 (.cells (enc m).toArray 61)]++(.own (.slice (some a9) n n) 66 2 ((poolsR cs vs).set k [.int .i64 c.ID,g 140])::.own (g 140) 68 2 (bk.map enc++[enc rr])::.blk b2 (hwC H a1 n1 c1 a2 n2 c2 a3 n3 c3 a4 n4 c4 a5 n5 c5)::.own (.slice a15 n15 c15) 3 1 (intRows ((nearL D cs m).map fun x:Nat=>(x:Int)))::(inn 68 2 ((poolsI vs (bls n l')).eraseIdx k)++S))) w:=hw
      rw [poolsR_set hc,show bk.map enc++[enc rr]=(bk++[rr]).map enc by simp] at hw
      have hw:=inn_closeA (A:=[.own (.slice a15 n15 c15) 3 1 (intRows ((nearL D cs m).map fun x:Nat=>(x:Int))),.blk b13 (.cells (enc m).toArray 61),.own (.slice (some a9) n n) 66 2 (poolsR cs (vs.set k (g 140))),.blk b2 (hwC H a1 n1 c1 a2 n2 c2 a3 n3 c3 a4 n4 c4 a5 n5 c5)]) (q:=(g 140,(bk++[rr]).map enc)) hpl (hw.ps [3,2,2,4,4])
      rw [poolsI_set,hbl] at hw
      repeat (first | refine byW ?_ | (refine byV ?_;intro w hw))
      exact ⟨μ2 - 1,by omega,i+1,vs.set k (g 140),by omega,by simpa using hvs,⟨rfl,rfl,rfl,rfl,rfl,rfl,rfl,rfl,rfl,rfl,rfl,rfl,trivial⟩,hw⟩
    have hin:q=i:=by have:=of_decide_eq_false h;omega
    subst hin
    clear h hi
    rw [List.take_of_length_le (by rw [hblk];simp),← hl'] at hw
    repeat (first | refine byW ?_ | (refine byV ?_;intro w hw))
    exact ⟨μ - 1,by omega,j+1,vs,by omega,hvs,⟨rfl,rfl,rfl,rfl,rfl,rfl,rfl,trivial⟩,hw.ds [0,0]⟩
  have hjn:n4=j:=by have:=of_decide_eq_false h;omega
  subst hjn
  clear h hj
  rw [List.take_of_length_le (by omega)] at hw
  have hlenL:(H.Mems.flatMap (blkOf D cs)).length < 4611686018427387904:=by
    have h1:∀ x∈H.Mems,(blkOf D cs x).length≤2000:=fun x hx=>by
      obtain ⟨e',he'⟩:=hpow x hx
      have:=cut_lt (D:=D) he' hLl
      unfold blkOf;simpa using this
    have h2:∀ ms:List MemT,(∀ x∈ms,(blkOf D cs x).length≤2000)→(ms.flatMap (blkOf D cs)).length≤2000 * ms.length:=fun ms=>by
      induction ms with
      | nil=>intro _;simp
      | cons y ys ih=>
        intro h
        have a1:=h y (by simp)
        have a2:=ih fun x hx=>h x (by simp [hx])
        rw [List.flatMap_cons,List.length_append,List.length_cons];omega
    have h3:=h2 _ h1
    omega
  generalize H.Mems.flatMap (blkOf D cs)=l at *
  have hoCl:∀ k,(ofC k l).length < 4611686018427387904:=fun k=>by
    unfold ofC
    rw [List.length_map]
    exact Nat.lt_of_le_of_lt (List.length_filter_le _ _) hlenL
  clear hlenL
  repeat (first | refine byW ?_ | (refine byV ?_;intro w hw))
  refine W_loop (fun μ ρ w=>∃ (i:Nat) (B:List (List RangeT)),μ+i=n∧B.length=n∧(∀ (k:Nat) (b:List RangeT),k < i→B[k]? = some b→b.Perm (ofC k l)∧b.Pairwise fun x y=>x.Base≤y.Base)∧(∀ k:Nat,i≤k→B[k]? = (bls n l)[k]?)∧Has ρ [(2,.pointer (some ⟨b2,0,none⟩)),(6,.slice a6 n c6),(8,.pointer (some ⟨b8,0,none⟩)),(9,.slice (some a9) n n),(144,.slice (some a9) n n),(145,.int .i64 n),(146,.int .i64 i)]∧Wd Γ2 (.own (.slice (some a9) n n) 66 2 (poolsR cs vs)::.blk b2 (hwC H a1 n1 c1 a2 n2 c2 a3 n3 c3 a4 n4 c4 a5 n5 c5)::(inn 68 2 (poolsI vs B)++S)) w) n ⟨0,bls n l,by omega,by simp [bls],fun k b h=>by omega,fun k _=>rfl,⟨rfl,rfl,rfl,rfl,rfl,rfl,rfl,trivial⟩,hw⟩ ?_
  clear hw
  rintro μ ρ w ⟨i,B,hi,hBl,hB1,hB2,hρ,hw⟩
  rw [hρ.eq]
  clear hρ
  repeat (first | refine byW ?_ | (refine byV ?_;intro w hw))
  refine W_cond rfl (fun h=>?_) (fun h=>?_)
  · have hin:i < n:=by have:=of_decide_eq_true h;omega
    clear h
    obtain ⟨c,hc⟩:=get_lt (l:=cs) (k:=i) (by omega)
    obtain ⟨vk,hvk⟩:=get_lt (l:=vs) (k:=i) (by omega)
    have hBi:B[i]? = some (ofC i l):=by rw [hB2 i (Nat.le_refl _)];unfold bls;rw [List.getElem?_map,List.getElem?_range hin];rfl
    have hpl:i < (poolsI vs B).length:=(List.getElem?_eq_some_iff.1 (poolsI_get hvk hBi)).1
    repeat (first | refine byW ?_ | (refine byV ?_;intro w hw))
    refine lY (v:=vk) ?_ (hy:=y_loadEf rfl (hw.own_rd (i:=0) rfl) (poolsR_get hc hvk) rfl)
    have hop:=inn_openA (A:=[.own (.slice (some a9) n n) 66 2 (poolsR cs vs),.blk b2 (hwC H a1 n1 c1 a2 n2 c2 a3 n3 c3 a4 n4 c4 a5 n5 c5)]) (poolsI_get hvk hBi) hw
    clear hw
    have hw:Wd Γ2 (.own vk 68 2 ((ofC i l).map enc)::.own (.slice (some a9) n n) 66 2 (poolsR cs vs)::.blk b2 (hwC H a1 n1 c1 a2 n2 c2 a3 n3 c3 a4 n4 c4 a5 n5 c5)::(inn 68 2 ((poolsI vs B).eraseIdx i)++S)) w:=hop
    clear hop
    obtain ⟨ak,mk,ck,rfl,hmk,hmck, -⟩:=hw.own_shape (i:=0) rfl
    refine lCall ((SortFunc_K lay_rng (fun x y:RangeT=>cI x.Base y.Base) 44 [] (ofC i l) _ hw (i:=0) rfl (fun _=>rfl) (fun x u hu=>List.all_eq_true.1 (enc_one x) u hu) (inferInstanceAs (TA Tryz.prog 68 2)) (swo_on cI_ord RangeT.Base) (hoCl i) (fun dk w' hw' x y=>(cmpR_any x y (allG_wd w')).mono fun e w'' h=>⟨h.1,[],h.2⟩)).mono fun e w hq=>?_)
    clear hw
    obtain ⟨rfl,ys,hp,hs,hw⟩:=hq
    refine ⟨_,rfl,?_⟩
    have hw:=inn_closeA (A:=[.own (.slice (some a9) n n) 66 2 (poolsR cs vs),.blk b2 (hwC H a1 n1 c1 a2 n2 c2 a3 n3 c3 a4 n4 c4 a5 n5 c5)]) (q:=(.slice ak mk ck,ys.map enc)) hpl hw
    rw [poolsI_set,set_same hvk] at hw
    have hs:ys.Pairwise fun x y=>x.Base≤y.Base:=hs.imp fun {x y} h=>by
      unfold Go.Proofs.ltOf cI at h
      simp only [decide_eq_false_iff_not] at h
      by_cases e:y.Base < x.Base
      · rw [if_pos e] at h;omega
      · omega
    repeat (first | refine byW ?_ | (refine byV ?_;intro w hw))
    refine ⟨μ - 1,by omega,i+1,B.set i ys,by omega,by simpa using hBl,fun k b hk hb=>?_,fun k hk=>?_,⟨rfl,rfl,rfl,rfl,rfl,rfl,rfl,trivial⟩,hw⟩
    · rw [List.getElem?_set] at hb
      by_cases e:i=k
      · subst e
        rw [if_pos rfl,if_pos (by omega)] at hb
        cases hb
        exact ⟨hp,hs⟩
      · rw [if_neg e] at hb
        exact hB1 k b (by omega) hb
    · rw [List.getElem?_set,if_neg (by omega)]
      exact hB2 k (by omega)
  have hin:n=i:=by have:=of_decide_eq_false h;omega
  subst hin
  clear h hi
  repeat (first | refine byW ?_ | (refine byV ?_;intro w hw))
  exact ⟨_,rfl,Γ2,_,hle,rfl,.inr ⟨rfl,n,a9,vs,B,rfl,hn6,hvs,⟨hBl,fun k b hb=>(hB1 k b (by have:=(List.getElem?_eq_some_iff.1 hb).1;omega) hb).1,fun k b hb=>(hB1 k b (by have:=(List.getElem?_eq_some_iff.1 hb).1;omega) hb).2⟩,hw.ps [1] |>.drop⟩⟩
end Go.Proofs.YthgighljhoneeaaGreatDoor
end
section
open Go Mk
namespace Go.Proofs.YthgighljhoneeaaGreatDoor
set_option maxHeartbeats 16000000
attribute [local irreducible] Calls
attribute [local irreducible] matL
def awM:MemT:=⟨⟨#[114,97,109]⟩,65536,65536,0,3⟩
def awH7:HwT:=⟨⟨#[109]⟩,[⟨4,32,0,1⟩,⟨2,39,0,1⟩],[],[],[awM],[]⟩
theorem aw7_valid:validS awH7=0:=by
 have h1:namesB awH7=true:=by decide +kernel
 have h2:countsB awH7=true:=by decide +kernel
 have h3:(coresRB awH7 && regionsRB awH7)=true:=by decide +kernel
 have h4:alignRB awH7=true:=by decide +kernel
 have h5:uniqueB awH7=true:=by decide +kernel
 have h6:knownB awH7=true:=by decide +kernel
 have h7:hierB awH7=true:=decP_t ⟨fun c hc=>(by cases hc),fun i k a b ha=>(by cases ha)⟩
 have h8:disjB awH7=true:=decP_t fun i k a b hik ha=>by
  have hl:(regs awH7).length=1:=by decide
  have:=(List.getElem?_eq_some_iff.1 ha).1
  omega
 have h9:connB awH7=true:=decP_t fun n hn=>by
  have:n=0:=by simpa [awH7,usedN,awM] using hn
  subst this;exact .refl
 simp [validS,h1,h2,h3,h4,h5,h6,h7,h8,h9]
theorem aw7_sz:HwSz awH7:=by unfold HwSz maxS;decide
theorem aw7_wide:MemWide awH7:=fun x hx=>by
 have:x=awM:=by simpa [awH7] using hx
 subst this;unfold u64I;exact ⟨by decide,by decide⟩
theorem sortZ_eq {l k:List Int} (hk:k.Pairwise fun x y=>x < y) (hp:k.Perm l):sortZ l=k:=
 sort_uniq (lt:=fun x y:Int=>decide (x < y)) (hk.imp fun h=>by simpa using h) ((sortZ_sorted l).imp fun h=>by simpa using h) ((sortZ_perm l).trans hp.symm)
theorem aw7_live:liveS awH7 [4,2]=([⟨2,39,0,1⟩,⟨4,32,0,1⟩],0):=by
 have hs:sortZ [4,2]=[2,4]:=sortZ_eq (by decide) (by decide)
 unfold liveS
 rw [if_neg (by simp [aw7_valid]),hs,if_neg (by decide),if_neg (by rw [compact_len (by decide)];decide),if_neg (by decide)]
 rfl
theorem aw7_dist:dstF awH7 0 0=0:=by
 have h:=dstI_self (a:=0) (valid_links aw7_valid) (by omega)
 unfold dstF fM
 show (if dstI (nbrL awH7.Links) 0 0 < 0 then farV else dstI (nbrL awH7.Links) 0 0)=0
 rw [h];rfl
theorem aw7_cost:costS awH7 2 ⟨#[114,97,109]⟩=(3,0):=by
 have h2:findC awH7.Cores 2=(⟨2,39,0,1⟩,true):=by decide
 have h3:memIx awH7.Mems ⟨#[114,97,109]⟩=0:=by decide
 unfold costS
 rw [if_neg (by simp [aw7_valid]),h2,h3,if_neg (by decide)]
 unfold costM
 show (dstF awH7 0 0+3,(0:Int))=(3,0)
 rw [aw7_dist];rfl
theorem aw7_blk:awH7.Mems.flatMap (blkOf (dstF awH7) [⟨2,39,0,1⟩,⟨4,32,0,1⟩])=[(0,⟨65536,15⟩),(1,⟨98304,15⟩)]:=by
 have h0:∀ i,i < 2→costI (dstF awH7) [⟨2,39,0,1⟩,⟨4,32,0,1⟩] awM i=3:=fun i hi=>by
  have:i=0∨i=1:=by omega
  rcases this with rfl | rfl <;> (unfold costI costM;show dstF awH7 0 0+3=3;rw [aw7_dist];rfl)
 have hn:nearL (dstF awH7) [⟨2,39,0,1⟩,⟨4,32,0,1⟩] awM=[0,1]:=by
  unfold nearL
  show (candR _ 2).2=_
  simp [candR,h0]
 show blkOf _ _ awM++[]=_
 rw [List.append_nil]
 unfold blkOf
 rw [hn]
 decide +kernel
theorem awk_core {Γ:Gho} [hBr:BrG Γ] {w:World} (hw:Wd Γ [] w):Calls Tryz.prog 6 #[] w fun e w'=>∃ Γ',Γ.le Γ'∧e=.returned (.bool true)∧Wd Γ' [] w':=by
 refine calls_of_W Tryz.func6 rfl rfl ?_
 repeat (first | refine byW ?_ | (refine byV ?_;intro w hw))
 refine lBuildSlice (awH7.Cores.map enc) ?_
 intro a1 w hw
 repeat (first | refine byW ?_ | (refine byV ?_;intro w hw))
 refine lBuildSlice (awH7.Mems.map enc) ?_
 intro a4 w hw
 have hw:Wd Γ (.own (.slice (some a4) 1 1) 61 5 (awH7.Mems.map enc)::.own (.slice (some a1) 2 2) 54 4 (awH7.Cores.map enc)::[]) w:=hw
 obtain ⟨Γ1,e1,r4,hw1⟩:=hw.freeze
 clear hw
 obtain ⟨Γ2,e2,r1,hw⟩:=hw1.freeze
 clear hw1
 have hR:HwR Γ2 (.agg #[.string awH7.Name,.slice (some a1) 2 2,.slice none 0 0,.slice none 0 0,.slice (some a4) 1 1,.slice none 0 0]) awH7:=
  ⟨_,_,_,_,_,_,_,_,_,_,_,_,_,_,_,[],rfl,rfl,(by simp),aw7_sz,r1,.nil,.nil,r4.mono e2,.nil⟩
 have hB2:BrG Γ2:=hBr.mono (e1.trans e2)
 repeat (first | refine byW ?_ | (refine byV ?_;intro w hw))
 refine lAlloc ?_
 intro b1 w hw
 refine lStore ?_
 intro w hw
 have hw:Wd Γ2 (.blk b1 (.cells #[.string awH7.Name,.slice (some a1) 2 2,.slice none 0 0,.slice none 0 0,.slice (some a4) 1 1,.slice none 0 0] 28)::[]) w:=hw
 repeat (first | refine byW ?_ | (refine byV ?_;intro w hw))
 refine lBuildSlice (intRows [4,2]) ?_
 intro a14 w hw
 obtain ⟨Γ3,e3,r14,hw1⟩:=hw.freeze
 clear hw
 have hw:=hw1
 clear hw1
 have hR3:=hR.mono e3
 have hB3:BrG Γ3:=hB2.mono e3
 repeat (first | refine byW ?_ | (refine byV ?_;intro w hw))
 refine lCall ((pools_core (hh:=hR3) aw7_wide r14 (by simp) hw).mono fun e w hq=>?_)
 obtain ⟨Γ4,v15,e4,rfl,hq⟩:=hq
 clear hw
 rw [aw7_live] at *
 simp only at hq ⊢
 rcases hq with ⟨hc, -⟩ | ⟨-,n,a9,vs,B,rfl,hn,hvs,hB,hw⟩
 ·exact absurd rfl hc
 rw [aw7_blk] at hB
 simp only [List.length_cons,List.length_nil] at hn
 subst hn
 have hBl:=hB.len
 obtain ⟨v0,h0⟩:=get_lt (l:=vs) (k:=0) (by omega)
 obtain ⟨b0,hb0⟩:=get_lt (l:=B) (k:=0) (by omega)
 have hb0e:b0=[⟨65536,15⟩]:=by
  have:=hB.perm 0 b0 hb0
  exact List.perm_singleton.1 this
 subst hb0e
 have hw:=inn_openA (A:=[_]) (poolsI_get h0 hb0) hw
 obtain ⟨ab,nb,cb,rfl,hnb, -⟩:=hw.own_shape (i:=0) rfl
 have hnb:nb=1:=by simpa using hnb
 subst hnb
 obtain ⟨Γ5,e5,rb,hw1⟩:=hw.freeze
 clear hw
 obtain ⟨Γ6,e6,rp,hw⟩:=hw1.freeze
 clear hw1
 have hR6:=hR3.mono (e4.trans (e5.trans e6))
 have rb:=rb.mono e6
 have hp0:=poolsR_get (cs:=[⟨2,39,0,1⟩,⟨4,32,0,1⟩]) (c:=⟨2,39,0,1⟩) rfl h0
 have hw:Wd Γ6 ([.blk b1 (.cells #[.string awH7.Name,.slice (some a1) 2 2,.slice none 0 0,.slice none 0 0,.slice (some a4) 1 1,.slice none 0 0] 28)]) w:=Wd.right (S':=inn 68 2 ((poolsI vs B).eraseIdx 0)) hw
 refine ⟨_,rfl,?_⟩
 haveI:PG Tryz.prog Γ6 8 [.agg #[.string awH7.Name,.slice (some a1) 2 2,.slice none 0 0,.slice none 0 0,.slice (some a4) 1 1,.slice none 0 0],.int .i64 2,.string ⟨#[114,97,109]⟩] (.tuple #[.int .i64 3,.int .i64 0]):=by
  have:=pg_Cost (hh:=hR6) 2 ⟨#[114,97,109]⟩
  rwa [aw7_cost] at this
 repeat (first | (first | refine W_seq ?_ | refine W_block ?_ | refine W_region ?_ | refine W_skip ?_ | refine W_ret ?_ | refine W_exit ?_) | ((first | apply L_bin | apply L_notop);first | (refine lT ?_ ?_;(first | exact rfl | exact decide_eq_true rfl | (simp;done))) | (refine lF ?_ ?_;(first | exact rfl | exact decide_eq_true rfl | (simp;done)))) | (first | refine L_nil ?_ | (apply L_plain;first | (apply L_go;first | refine lP ?_ | (refine lPg ?_;intro w hw)) | (apply L_mf;refine lMakeFunc ?_) | refine lY ?_) | (apply L_guarded;first | refine lGT ?_ | refine lGF ?_ | (apply L_go;first | refine lPG ?_ | (refine lPgG ?_;intro w hw)) | refine lG ?_)) | (refine lAlloc ?_;intro _ w hw) | (refine lBox ?_;intro _ w hw) | (refine lStore ?_;intro w hw))
 refine lY (v:=.int .i64 2) ?_ (hy:=y_loadEf rfl (rp.rd hw) hp0 rfl)
 repeat (first | (first | refine W_seq ?_ | refine W_block ?_ | refine W_region ?_ | refine W_skip ?_ | refine W_ret ?_ | refine W_exit ?_) | ((first | apply L_bin | apply L_notop);first | (refine lT ?_ ?_;(first | exact rfl | exact decide_eq_true rfl | (simp;done))) | (refine lF ?_ ?_;(first | exact rfl | exact decide_eq_true rfl | (simp;done)))) | (first | refine L_nil ?_ | (apply L_plain;first | (apply L_go;first | refine lP ?_ | (refine lPg ?_;intro w hw)) | (apply L_mf;refine lMakeFunc ?_) | refine lY ?_) | (apply L_guarded;first | refine lGT ?_ | refine lGF ?_ | (apply L_go;first | refine lPG ?_ | (refine lPgG ?_;intro w hw)) | refine lG ?_)) | (refine lAlloc ?_;intro _ w hw) | (refine lBox ?_;intro _ w hw) | (refine lStore ?_;intro w hw))
 refine lY (v:=.slice ab 1 cb) ?_ (hy:=y_loadEf rfl (rp.rd hw) hp0 rfl)
 repeat (first | (first | refine W_seq ?_ | refine W_block ?_ | refine W_region ?_ | refine W_skip ?_ | refine W_ret ?_ | refine W_exit ?_) | ((first | apply L_bin | apply L_notop);first | (refine lT ?_ ?_;(first | exact rfl | exact decide_eq_true rfl | (simp;done))) | (refine lF ?_ ?_;(first | exact rfl | exact decide_eq_true rfl | (simp;done)))) | (first | refine L_nil ?_ | (apply L_plain;first | (apply L_go;first | refine lP ?_ | (refine lPg ?_;intro w hw)) | (apply L_mf;refine lMakeFunc ?_) | refine lY ?_) | (apply L_guarded;first | refine lGT ?_ | refine lGF ?_ | (apply L_go;first | refine lPG ?_ | (refine lPgG ?_;intro w hw)) | refine lG ?_)) | (refine lAlloc ?_;intro _ w hw) | (refine lBox ?_;intro _ w hw) | (refine lStore ?_;intro w hw))
 refine lY (v:=.slice ab 1 cb) ?_ (hy:=y_loadEf rfl (rp.rd hw) hp0 rfl)
 repeat (first | (first | refine W_seq ?_ | refine W_block ?_ | refine W_region ?_ | refine W_skip ?_ | refine W_ret ?_ | refine W_exit ?_) | ((first | apply L_bin | apply L_notop);first | (refine lT ?_ ?_;(first | exact rfl | exact decide_eq_true rfl | (simp;done))) | (refine lF ?_ ?_;(first | exact rfl | exact decide_eq_true rfl | (simp;done)))) | (first | refine L_nil ?_ | (apply L_plain;first | (apply L_go;first | refine lP ?_ | (refine lPg ?_;intro w hw)) | (apply L_mf;refine lMakeFunc ?_) | refine lY ?_) | (apply L_guarded;first | refine lGT ?_ | refine lGF ?_ | (apply L_go;first | refine lPG ?_ | (refine lPgG ?_;intro w hw)) | refine lG ?_)) | (refine lAlloc ?_;intro _ w hw) | (refine lBox ?_;intro _ w hw) | (refine lStore ?_;intro w hw))
 refine lY (v:=.agg (enc (⟨65536,15⟩:RangeT)).toArray) ?_ (hy:=y_loadE rfl (rb.rd hw) rfl)
 refine lGT ?_
 refine lY (v:=.agg (enc (⟨65536,15⟩:RangeT)).toArray) ?_ (hy:=y_build rfl)
 repeat (first | (first | refine W_seq ?_ | refine W_block ?_ | refine W_region ?_ | refine W_skip ?_ | refine W_ret ?_ | refine W_exit ?_) | ((first | apply L_bin | apply L_notop);first | (refine lT ?_ ?_;(first | exact rfl | exact decide_eq_true rfl | (simp;done))) | (refine lF ?_ ?_;(first | exact rfl | exact decide_eq_true rfl | (simp;done)))) | (first | refine L_nil ?_ | (apply L_plain;first | (apply L_go;first | refine lP ?_ | (refine lPg ?_;intro w hw)) | (apply L_mf;refine lMakeFunc ?_) | refine lY ?_) | (apply L_guarded;first | refine lGT ?_ | refine lGF ?_ | (apply L_go;first | refine lPG ?_ | (refine lPgG ?_;intro w hw)) | refine lG ?_)) | (refine lAlloc ?_;intro _ w hw) | (refine lBox ?_;intro _ w hw) | (refine lStore ?_;intro w hw))
 exact ⟨_,rfl,Γ6,e1.trans (e2.trans (e3.trans (e4.trans (e5.trans e6)))),rfl,hw.drop⟩
instance pg_awk {Γ:Gho} [hBr:BrG Γ]:PG Tryz.prog Γ 6 [] (.bool true):=⟨fun S w hw=>by
 haveI:=brG_all (hBr.h S w hw)
 exact (awk_core (allG_wd w)).mono fun e w' ⟨Γ',hle,he,hw'⟩=>⟨he,wd_kept hw (wd_less hle hw')⟩⟩
end Go.Proofs.YthgighljhoneeaaGreatDoor
end
section
open Go Mk
namespace Go.Proofs.YthgighljhoneeaaGreatDoor
open Go.ChangeShapes Go.WideShapes Go.ChangeAt Go.RowKit
theorem own_knob:ownKnob Tryz.prog.godebug=none:=by kernel_rfl
theorem keptBut_wd {W W':World} {S:List Res} (h:Wd (allG W) S W') (may:MemPlace→Prop):W.keptBut W' may:=by
 refine ⟨h.os,h.out,fun i hi=>?_⟩
 have h1:W.heap[i]? = some W.heap[i]:=Array.getElem?_eq_getElem hi
 have h2:=h.imm i W.heap[i] h1
 rw [h1,h2]
 cases W.heap[i] <;> simp
theorem post_wd {H:Type} {enc:TypeId × Value→H} {f:Func} {s:ChangeSpec} {W W':World} {S:List Res} {args:Array Value} {v:Value} {ds gs:List (DataW H)} {before pa pv:List MemPlace} {apart:Bool}
  (hW:DataW.Whole enc Tryz.prog f.params.toList s.vars apart W args.toList ds gs before)
  (hres:∀ (b:Nat) (sp:Nat→Bool) (hd:Bool),DataW.TrodAll enc Tryz.prog W' b sp hd f.resultTypes.toList (v.resultList f.resultTypes.size) (s.fn H (ds++gs)).results [])
  (hargs:∀ sp:Nat→Bool,(∀ p∈before,sp p.block=true)→DataW.TrodAll enc Tryz.prog W' 0 sp true f.params.toList args.toList (s.fn H (ds++gs)).args pa)
  (hvars:∀ sp:Nat→Bool,(∀ p∈before,sp p.block=true)→DataW.TrodVars enc Tryz.prog W' sp s.vars (s.fn H (ds++gs)).vars pv)
  (hps:before=pa++pv) (hk:Wd (allG W) S W'):s.post enc Tryz.prog f apart true false false W args v W':=by
 have hold:∀ p∈before,(fun b=>decide (b < W.heap.size)) p.block=true:=fun p hp=>by simpa using hW.lt p hp
 exact ⟨ds,gs,before,[],pa,pv,hW,hres _ _ _,hargs _ hold,hvars _ hold,keptBut_wd hk _,fun h=>by cases h⟩
section
variable {H:Type} {en:TypeId × Value→H} {W W':World} {base:Nat} {sp:Nat→Bool} {held:Bool} {S:List Res}
theorem flat_inv {sz:Nat}:∀ {rows:List (List Value)},(∀ r∈rows,r.length=sz)→∀ {j:Nat} {u:Value},rows.flatten[j]? = some u→∃ i r row,rows[i]? = some row∧row[r]? = some u∧j=i * sz+r
  | [],_,j,u,h=>by simp at h
  | a::rows,hl,j,u,h=>by
    rw [List.flatten_cons] at h
    by_cases hj:j < a.length
    · rw [List.getElem?_append_left hj] at h
      exact ⟨0,j,a,rfl,h,by omega⟩
    · rw [List.getElem?_append_right (by omega)] at h
      obtain ⟨i,r,row,h1,h2,h3⟩:=flat_inv (fun r hr=>hl r (List.mem_cons_of_mem _ hr)) h
      have ha:=hl a (List.mem_cons_self ..)
      refine ⟨i+1,r,row,by simpa using h1,h2,?_⟩
      rw [Nat.add_mul,Nat.one_mul];omega
theorem read_slice {α : Type} [Inhabited α] {F : α → List Value} {p : α → Prop} {t e sz : Nat} (hc : Tryz.prog.cellsOf e = sz) (h0 : 0 < sz) (hF : ∀ x, (F x).length = sz) (ht : Tryz.prog.underlying t = some (.slice e))
    (hel:∀ {n:Nat} {cs:List Value} {y:DataW H × List MemPlace},DataW.trod en Tryz.prog W base sp held n e cs=some y→∃ x:α,cs=F x∧p x)
    {n:Nat} {v:Value} {y:DataW H × List MemPlace} (h:DataW.trod en Tryz.prog W base sp held n t [v]=some y):∃ xs:List α,RepS (allG W) v sz (xs.map F)∧∀ x∈xs,p x:=by
  rcases Deep.open_slice ht h with ⟨h0, -⟩ | ⟨a,len,cap,m,k,D,Pl,h1, -,hlc,hcm,hm, -,hel2⟩
  · cases h0
    exact ⟨[],RepS.nil,fun x hx=>by cases hx⟩
  · cases h1
    have hlm:len≤m:=by rw [hm];split <;> omega
    have hx:∀ i,i < len→∃ x:α,p x∧∀ j u,(F x)[j]? = some u→W.cell? (a.add (i * sz+j))=some u:=fun i hi=>by
      obtain ⟨cs',h1,h2⟩:=hel2 i (by omega)
      rw [hc] at h1
      obtain ⟨-,hl,hat⟩:=World.cells?_some h1
      obtain ⟨x,rfl,hp⟩:=hel h2
      refine ⟨x,hp,fun j u hu=>?_⟩
      have hj:j < sz:=by rw [← hl];exact (List.getElem?_eq_some_iff.1 hu).1
      have:=hat j hj
      rw [hu,Go.Deep.add_add] at this
      exact this
    obtain ⟨f,hf⟩:∃ f:Nat→α,∀ i,i < len→p (f i)∧∀ j u,(F (f i))[j]? = some u→W.cell? (a.add (i * sz+j))=some u:=by
      refine ⟨fun i=>if hi:i < len then (hx i hi).choose else default,fun i hi=>?_⟩
      simp only [hi,dif_pos]
      exact (hx i hi).choose_spec
    refine ⟨(List.range len).map f,?_,fun x hx=>?_⟩
    · unfold RepS
      refine ⟨fun r hr=>?_,some a,len,cap,rfl,by simp,hlc,hcm,fun hpos=>?_⟩
      · obtain ⟨x, -,rfl⟩:=List.mem_map.1 hr
        exact hF x
      · have hpos:0 < len:=by simpa using hpos
        obtain ⟨u0,hu0⟩:∃ u,(F (f 0))[0]? = some u:=⟨_,List.getElem?_eq_getElem (by rw [hF];exact h0)⟩
        have h00:=(hf 0 hpos).2 0 u0 hu0
        obtain ⟨g,o,spt⟩:=a
        have h01:W.cell? ⟨g,o,spt⟩=some u0:=by
          rw [Nat.zero_mul] at h00
          simpa [Addr.add] using h00
        unfold World.cell? at h01
        cases hg:W.heap[g]? with
        | none=>rw [hg] at h01;simp at h01
        | some ob=>
          rw [hg] at h01
          cases ob with
          | cells cur e fr=>
            cases spt with
            | some q=>simp at h01
            | none=>
              refine ⟨g,o,cur,e,fr,rfl,hg,fun j u hj=>?_⟩
              obtain ⟨i,r,row,h1,h2,h3⟩:=flat_inv (sz:=sz) (rows:=((List.range len).map f).map F) (fun r hr=>by
                obtain ⟨x, -,rfl⟩:=List.mem_map.1 hr
                exact hF x) hj
              rw [List.getElem?_map,List.getElem?_map] at h1
              have hi:i < len:=by
                by_cases hi:i < len
                · exact hi
                · rw [List.getElem?_eq_none (by simpa using hi)] at h1;simp at h1
              rw [List.getElem?_range hi] at h1
              simp only [Option.map_some,Option.some.injEq] at h1
              subst h1
              have h4:W.cell? ⟨g,o+(i * sz+r),none⟩=some u:=by
                have h5:=(hf i hi).2 r u h2
                rwa [show Addr.add ⟨g,o,none⟩ (i * sz+r)=⟨g,o+(i * sz+r),none⟩ from by
                  unfold Addr.add
                  by_cases h0:i * sz+r=0
                  · rw [if_pos h0,h0];rfl
                  · rw [if_neg h0]] at h5
              unfold World.cell? at h4
              rw [hg] at h4
              rw [h3]
              simpa using h4
          | _=>simp at h01
    · obtain ⟨i,hi,rfl⟩:=List.mem_map.1 hx
      exact (hf i (List.mem_range.1 hi)).1
theorem list3:∀ cs:List Value,cs.length=3→∃ a b c,cs=[a,b,c]
 | [a,b,c],_=>⟨a,b,c,rfl⟩
theorem carry_all (hk:Wd (allG W) S W'):∀ {ts:List TypeId} {vs:List Value} {ds:List (DataW H)} {ps:List MemPlace},DataW.TrodAll en Tryz.prog W base sp held ts vs ds ps→(∀ p∈ps,p.block < W.heap.size)→DataW.TrodAll en Tryz.prog W' base sp held ts vs ds ps
  | [],[],[],_,h,_=>h
  | _ :: _, _ :: _, _ :: _, _, ⟨p, q, ⟨n, h1⟩, h2, e⟩, hs => ⟨p, q, ⟨n, DataW.trod_carry n _ _ _ h1 fun x hx => by
      have hb:=hs x (by rw [e];exact List.mem_append_left _ hx)
      cases x with
      | cell b off=>
        have h3:W'.heap[b]? = W.heap[b]?:=by
          have h4:W.heap[b]? = some (W.heap[b]'hb):=Array.getElem?_eq_getElem hb
          rw [h4];exact hk.imm b _ h4
        show W'.cell? _=W.cell? _
        unfold World.cell?
        rw [h3]
      | map b=>
        have h4:W.heap[b]? = some (W.heap[b]'hb):=Array.getElem?_eq_getElem hb
        show W'.heap[b]? = W.heap[b]?
        rw [h4];exact hk.imm b _ h4⟩,carry_all hk h2 (fun x hx=>hs x (by rw [e];exact List.mem_append_right _ hx)),e⟩
end
theorem own_kids:Kids Tryz.prog (· < Tryz.prog.types.size):=kids_rows (by kernel_rfl) (by kernel_rfl)
theorem own_full:∀ t e,t < Tryz.prog.types.size→Tryz.prog.underlying t=some (.slice e)→0 < Tryz.prog.cellsOf e:=slices_full_of _ (by kernel_rfl)
abbrev laidL:List (String × DataW Unit):=[("math/bits.deBruijn64tab",Rows.laid_math_bits_deBruijn64tab)]
theorem of_laid {W:World} (h:laidMetH Tryz.prog laidL W):Lib.TabIs Tryz.prog W "math/bits.deBruijn64tab" .u8 brTab:=by
 rw [MakeChecks.laidMetH_plain _ _ _ (by kernel_rfl)] at h
 exact Lib.tabIs_of_head (rest:=[]) (g:=0) (by kernel_rfl) (by kernel_rfl) Tryz.underlying125 Tryz.underlying5 (by kernel_rfl) (by kernel_rfl) h
section
variable {H:Type} {en:TypeId × Value→H} {W W':World} {base:Nat} {sp:Nat→Bool} {held:Bool} {S:List Res}
def okI (n:Int):Prop:=-9223372036854775808≤n∧n≤9223372036854775807
theorem list4:∀ cs:List Value,cs.length=4→∃ a b c d,cs=[a,b,c,d]
 | [a,b,c,d],_=>⟨a,b,c,d,rfl⟩
theorem list5:∀ cs:List Value,cs.length=5→∃ a b c d e,cs=[a,b,c,d,e]
 | [a,b,c,d,e],_=>⟨a,b,c,d,e,rfl⟩
theorem list6:∀ cs:List Value,cs.length=6→∃ a b c d e f,cs=[a,b,c,d,e,f]
 | [a,b,c,d,e,f],_=>⟨a,b,c,d,e,f,rfl⟩
theorem read_i {n:Nat} {cs:List Value} {y:DataW H × List MemPlace} (h:DataW.trod en Tryz.prog W base sp held n 3 cs=some y):∃ x:Int,cs=[.int .i64 x]∧okI x:=by
 obtain ⟨a,ha, -,hw⟩:=DataW.trod_int Tryz.underlying3 h
 subst ha
 refine ⟨a,rfl,?_⟩
 simp only [Lit.wf,IntKind.min,IntKind.max,IntKind.bits,IntKind.signed] at hw
 simpa [okI] using hw
theorem read_ints {n:Nat} {v:Value} {y:DataW H × List MemPlace} (h:DataW.trod en Tryz.prog W base sp held n 29 [v]=some y):∃ xs:List Int,RepS (allG W) v 1 (intRows xs)∧∀ x∈xs,okI x:=
 read_slice (F:=fun x:Int=>[.int .i64 x]) (sz:=1) (e:=3) (by kernel_rfl) (by decide) (fun x=>rfl) Tryz.underlying29 (fun h=>read_i h) h
end
end Go.Proofs.YthgighljhoneeaaGreatDoor
end
section
open Go Mk
namespace Go.Proofs.YthgighljhoneeaaGreatDoor
open Go.ChangeShapes Go.WideShapes Go.ChangeAt Go.RowKit
def wideI (n:Int):Prop:=0≤n∧n≤18446744073709551615
section
variable {H:Type} {en:TypeId × Value→H} {W W':World} {base:Nat} {sp:Nat→Bool} {held:Bool} {S:List Res}
theorem read_u {n:Nat} {cs:List Value} {y:DataW H × List MemPlace} (h:DataW.trod en Tryz.prog W base sp held n 57 cs=some y):∃ x:Int,cs=[.int .u64 x]∧wideI x:=by
 obtain ⟨a,ha, -,hw⟩:=DataW.trod_int Tryz.underlying57 h
 subst ha
 refine ⟨a,rfl,?_⟩
 simp only [Lit.wf,IntKind.min,IntKind.max,IntKind.bits,IntKind.signed] at hw
 simpa [wideI] using hw
theorem read_s {n:Nat} {cs:List Value} {y:DataW H × List MemPlace} (h:DataW.trod en Tryz.prog W base sp held n 9 cs=some y):∃ x:ByteArray,cs=[.string x]:=by
 obtain ⟨s,hs, -, -⟩:=DataW.trod_string Tryz.underlying9 h
 exact ⟨s,hs⟩
theorem read_core {n:Nat} {cs:List Value} {y:DataW H × List MemPlace} (h:DataW.trod en Tryz.prog W base sp held n 54 cs=some y):∃ x:CoreT,cs=enc x∧(okI x.ID∧okI x.Width∧okI x.Node∧okI x.Speed):=by
 obtain ⟨xs,k, -, -,hl,hxl,hf⟩:=DataW.trod_struct Tryz.underlying54 h
 have hl:cs.length=4:=hl.trans (by kernel_rfl)
 obtain ⟨c0,c1,c2,c3,rfl⟩:=list4 cs hl
 have hxl:xs.length=4:=hxl
 have e0:Tryz.prog.cellsOf 3=1:=by kernel_rfl
 have g0:DataW.trod en Tryz.prog W base sp held k 3 (([c0,c1,c2,c3].drop 0).take (Tryz.prog.cellsOf 3))=xs[0]?:=hf 0 { name:= "ID",type:=3,offset:=0,embedded:=false,tag:= "",pkgPath:= "",byteOffset:=0 } rfl
 rw [e0,List.getElem?_eq_getElem (by omega)] at g0
 have e1:Tryz.prog.cellsOf 3=1:=by kernel_rfl
 have g1:DataW.trod en Tryz.prog W base sp held k 3 (([c0,c1,c2,c3].drop 1).take (Tryz.prog.cellsOf 3))=xs[1]?:=hf 1 { name:= "Width",type:=3,offset:=1,embedded:=false,tag:= "",pkgPath:= "",byteOffset:=8 } rfl
 rw [e1,List.getElem?_eq_getElem (by omega)] at g1
 have e2:Tryz.prog.cellsOf 3=1:=by kernel_rfl
 have g2:DataW.trod en Tryz.prog W base sp held k 3 (([c0,c1,c2,c3].drop 2).take (Tryz.prog.cellsOf 3))=xs[2]?:=hf 2 { name:= "Node",type:=3,offset:=2,embedded:=false,tag:= "",pkgPath:= "",byteOffset:=16 } rfl
 rw [e2,List.getElem?_eq_getElem (by omega)] at g2
 have e3:Tryz.prog.cellsOf 3=1:=by kernel_rfl
 have g3:DataW.trod en Tryz.prog W base sp held k 3 (([c0,c1,c2,c3].drop 3).take (Tryz.prog.cellsOf 3))=xs[3]?:=hf 3 { name:= "Speed",type:=3,offset:=3,embedded:=false,tag:= "",pkgPath:= "",byteOffset:=24 } rfl
 rw [e3,List.getElem?_eq_getElem (by omega)] at g3
 obtain ⟨x0,h0,i0⟩:=read_i g0
 obtain ⟨x1,h1,i1⟩:=read_i g1
 obtain ⟨x2,h2,i2⟩:=read_i g2
 obtain ⟨x3,h3,i3⟩:=read_i g3
 simp only [List.drop_zero,List.take_succ_cons,List.take_zero,List.drop_succ_cons,List.cons.injEq,and_true] at h0
 subst h0
 simp only [List.drop_zero,List.take_succ_cons,List.take_zero,List.drop_succ_cons,List.cons.injEq,and_true] at h1
 subst h1
 simp only [List.drop_zero,List.take_succ_cons,List.take_zero,List.drop_succ_cons,List.cons.injEq,and_true] at h2
 subst h2
 simp only [List.drop_zero,List.take_succ_cons,List.take_zero,List.drop_succ_cons,List.cons.injEq,and_true] at h3
 subst h3
 exact ⟨⟨x0,x1,x2,x3⟩,rfl,i0,i1,i2,i3⟩
theorem read_link {n:Nat} {cs:List Value} {y:DataW H × List MemPlace} (h:DataW.trod en Tryz.prog W base sp held n 98 cs=some y):∃ x:LinkT,cs=enc x∧(okI x.A∧okI x.B∧okI x.Latency):=by
 obtain ⟨xs,k, -, -,hl,hxl,hf⟩:=DataW.trod_struct Tryz.underlying98 h
 have hl:cs.length=3:=hl.trans (by kernel_rfl)
 obtain ⟨c0,c1,c2,rfl⟩:=list3 cs hl
 have hxl:xs.length=3:=hxl
 have e0:Tryz.prog.cellsOf 3=1:=by kernel_rfl
 have g0:DataW.trod en Tryz.prog W base sp held k 3 (([c0,c1,c2].drop 0).take (Tryz.prog.cellsOf 3))=xs[0]?:=hf 0 { name:= "A",type:=3,offset:=0,embedded:=false,tag:= "",pkgPath:= "",byteOffset:=0 } rfl
 rw [e0,List.getElem?_eq_getElem (by omega)] at g0
 have e1:Tryz.prog.cellsOf 3=1:=by kernel_rfl
 have g1:DataW.trod en Tryz.prog W base sp held k 3 (([c0,c1,c2].drop 1).take (Tryz.prog.cellsOf 3))=xs[1]?:=hf 1 { name:= "B",type:=3,offset:=1,embedded:=false,tag:= "",pkgPath:= "",byteOffset:=8 } rfl
 rw [e1,List.getElem?_eq_getElem (by omega)] at g1
 have e2:Tryz.prog.cellsOf 3=1:=by kernel_rfl
 have g2:DataW.trod en Tryz.prog W base sp held k 3 (([c0,c1,c2].drop 2).take (Tryz.prog.cellsOf 3))=xs[2]?:=hf 2 { name:= "Latency",type:=3,offset:=2,embedded:=false,tag:= "",pkgPath:= "",byteOffset:=16 } rfl
 rw [e2,List.getElem?_eq_getElem (by omega)] at g2
 obtain ⟨x0,h0,i0⟩:=read_i g0
 obtain ⟨x1,h1,i1⟩:=read_i g1
 obtain ⟨x2,h2,i2⟩:=read_i g2
 simp only [List.drop_zero,List.take_succ_cons,List.take_zero,List.drop_succ_cons,List.cons.injEq,and_true] at h0
 subst h0
 simp only [List.drop_zero,List.take_succ_cons,List.take_zero,List.drop_succ_cons,List.cons.injEq,and_true] at h1
 subst h1
 simp only [List.drop_zero,List.take_succ_cons,List.take_zero,List.drop_succ_cons,List.cons.injEq,and_true] at h2
 subst h2
 exact ⟨⟨x0,x1,x2⟩,rfl,i0,i1,i2⟩
theorem read_mem {n:Nat} {cs:List Value} {y:DataW H × List MemPlace} (h:DataW.trod en Tryz.prog W base sp held n 61 cs=some y):∃ x:MemT,cs=enc x∧(wideI x.Base∧wideI x.Size∧okI x.Node∧okI x.Latency):=by
 obtain ⟨xs,k, -, -,hl,hxl,hf⟩:=DataW.trod_struct Tryz.underlying61 h
 have hl:cs.length=5:=hl.trans (by kernel_rfl)
 obtain ⟨c0,c1,c2,c3,c4,rfl⟩:=list5 cs hl
 have hxl:xs.length=5:=hxl
 have e0:Tryz.prog.cellsOf 9=1:=by kernel_rfl
 have g0:DataW.trod en Tryz.prog W base sp held k 9 (([c0,c1,c2,c3,c4].drop 0).take (Tryz.prog.cellsOf 9))=xs[0]?:=hf 0 { name:= "Name",type:=9,offset:=0,embedded:=false,tag:= "",pkgPath:= "",byteOffset:=0 } rfl
 rw [e0,List.getElem?_eq_getElem (by omega)] at g0
 have e1:Tryz.prog.cellsOf 57=1:=by kernel_rfl
 have g1:DataW.trod en Tryz.prog W base sp held k 57 (([c0,c1,c2,c3,c4].drop 1).take (Tryz.prog.cellsOf 57))=xs[1]?:=hf 1 { name:= "Base",type:=57,offset:=1,embedded:=false,tag:= "",pkgPath:= "",byteOffset:=16 } rfl
 rw [e1,List.getElem?_eq_getElem (by omega)] at g1
 have e2:Tryz.prog.cellsOf 57=1:=by kernel_rfl
 have g2:DataW.trod en Tryz.prog W base sp held k 57 (([c0,c1,c2,c3,c4].drop 2).take (Tryz.prog.cellsOf 57))=xs[2]?:=hf 2 { name:= "Size",type:=57,offset:=2,embedded:=false,tag:= "",pkgPath:= "",byteOffset:=24 } rfl
 rw [e2,List.getElem?_eq_getElem (by omega)] at g2
 have e3:Tryz.prog.cellsOf 3=1:=by kernel_rfl
 have g3:DataW.trod en Tryz.prog W base sp held k 3 (([c0,c1,c2,c3,c4].drop 3).take (Tryz.prog.cellsOf 3))=xs[3]?:=hf 3 { name:= "Node",type:=3,offset:=3,embedded:=false,tag:= "",pkgPath:= "",byteOffset:=32 } rfl
 rw [e3,List.getElem?_eq_getElem (by omega)] at g3
 have e4:Tryz.prog.cellsOf 3=1:=by kernel_rfl
 have g4:DataW.trod en Tryz.prog W base sp held k 3 (([c0,c1,c2,c3,c4].drop 4).take (Tryz.prog.cellsOf 3))=xs[4]?:=hf 4 { name:= "Latency",type:=3,offset:=4,embedded:=false,tag:= "",pkgPath:= "",byteOffset:=40 } rfl
 rw [e4,List.getElem?_eq_getElem (by omega)] at g4
 obtain ⟨x0,h0⟩:=read_s g0
 obtain ⟨x1,h1,i1⟩:=read_u g1
 obtain ⟨x2,h2,i2⟩:=read_u g2
 obtain ⟨x3,h3,i3⟩:=read_i g3
 obtain ⟨x4,h4,i4⟩:=read_i g4
 simp only [List.drop_zero,List.take_succ_cons,List.take_zero,List.drop_succ_cons,List.cons.injEq,and_true] at h0
 subst h0
 simp only [List.drop_zero,List.take_succ_cons,List.take_zero,List.drop_succ_cons,List.cons.injEq,and_true] at h1
 subst h1
 simp only [List.drop_zero,List.take_succ_cons,List.take_zero,List.drop_succ_cons,List.cons.injEq,and_true] at h2
 subst h2
 simp only [List.drop_zero,List.take_succ_cons,List.take_zero,List.drop_succ_cons,List.cons.injEq,and_true] at h3
 subst h3
 simp only [List.drop_zero,List.take_succ_cons,List.take_zero,List.drop_succ_cons,List.cons.injEq,and_true] at h4
 subst h4
 exact ⟨⟨x0,x1,x2,x3,x4⟩,rfl,i1,i2,i3,i4⟩
theorem read_dev {n:Nat} {cs:List Value} {y:DataW H × List MemPlace} (h:DataW.trod en Tryz.prog W base sp held n 63 cs=some y):∃ x:DevT,cs=enc x∧(okI x.Node∧okI x.IRQ∧wideI x.Base∧wideI x.Size):=by
 obtain ⟨xs,k, -, -,hl,hxl,hf⟩:=DataW.trod_struct Tryz.underlying63 h
 have hl:cs.length=5:=hl.trans (by kernel_rfl)
 obtain ⟨c0,c1,c2,c3,c4,rfl⟩:=list5 cs hl
 have hxl:xs.length=5:=hxl
 have e0:Tryz.prog.cellsOf 9=1:=by kernel_rfl
 have g0:DataW.trod en Tryz.prog W base sp held k 9 (([c0,c1,c2,c3,c4].drop 0).take (Tryz.prog.cellsOf 9))=xs[0]?:=hf 0 { name:= "Name",type:=9,offset:=0,embedded:=false,tag:= "",pkgPath:= "",byteOffset:=0 } rfl
 rw [e0,List.getElem?_eq_getElem (by omega)] at g0
 have e1:Tryz.prog.cellsOf 3=1:=by kernel_rfl
 have g1:DataW.trod en Tryz.prog W base sp held k 3 (([c0,c1,c2,c3,c4].drop 1).take (Tryz.prog.cellsOf 3))=xs[1]?:=hf 1 { name:= "Node",type:=3,offset:=1,embedded:=false,tag:= "",pkgPath:= "",byteOffset:=16 } rfl
 rw [e1,List.getElem?_eq_getElem (by omega)] at g1
 have e2:Tryz.prog.cellsOf 3=1:=by kernel_rfl
 have g2:DataW.trod en Tryz.prog W base sp held k 3 (([c0,c1,c2,c3,c4].drop 2).take (Tryz.prog.cellsOf 3))=xs[2]?:=hf 2 { name:= "IRQ",type:=3,offset:=2,embedded:=false,tag:= "",pkgPath:= "",byteOffset:=24 } rfl
 rw [e2,List.getElem?_eq_getElem (by omega)] at g2
 have e3:Tryz.prog.cellsOf 57=1:=by kernel_rfl
 have g3:DataW.trod en Tryz.prog W base sp held k 57 (([c0,c1,c2,c3,c4].drop 3).take (Tryz.prog.cellsOf 57))=xs[3]?:=hf 3 { name:= "Base",type:=57,offset:=3,embedded:=false,tag:= "",pkgPath:= "",byteOffset:=32 } rfl
 rw [e3,List.getElem?_eq_getElem (by omega)] at g3
 have e4:Tryz.prog.cellsOf 57=1:=by kernel_rfl
 have g4:DataW.trod en Tryz.prog W base sp held k 57 (([c0,c1,c2,c3,c4].drop 4).take (Tryz.prog.cellsOf 57))=xs[4]?:=hf 4 { name:= "Size",type:=57,offset:=4,embedded:=false,tag:= "",pkgPath:= "",byteOffset:=40 } rfl
 rw [e4,List.getElem?_eq_getElem (by omega)] at g4
 obtain ⟨x0,h0⟩:=read_s g0
 obtain ⟨x1,h1,i1⟩:=read_i g1
 obtain ⟨x2,h2,i2⟩:=read_i g2
 obtain ⟨x3,h3,i3⟩:=read_u g3
 obtain ⟨x4,h4,i4⟩:=read_u g4
 simp only [List.drop_zero,List.take_succ_cons,List.take_zero,List.drop_succ_cons,List.cons.injEq,and_true] at h0
 subst h0
 simp only [List.drop_zero,List.take_succ_cons,List.take_zero,List.drop_succ_cons,List.cons.injEq,and_true] at h1
 subst h1
 simp only [List.drop_zero,List.take_succ_cons,List.take_zero,List.drop_succ_cons,List.cons.injEq,and_true] at h2
 subst h2
 simp only [List.drop_zero,List.take_succ_cons,List.take_zero,List.drop_succ_cons,List.cons.injEq,and_true] at h3
 subst h3
 simp only [List.drop_zero,List.take_succ_cons,List.take_zero,List.drop_succ_cons,List.cons.injEq,and_true] at h4
 subst h4
 exact ⟨⟨x0,x1,x2,x3,x4⟩,rfl,i1,i2,i3,i4⟩
theorem read_cache {n:Nat} {cs:List Value} {y:DataW H × List MemPlace} (h:DataW.trod en Tryz.prog W base sp held n 59 cs=some y):∃ x:CacheH,cs=cC x∧(COk (allG W) x∧okI x.Level∧okI x.Line∧wideI x.Size∧∀ v∈x.Cores,okI v):=by
 obtain ⟨xs,k, -, -,hl,hxl,hf⟩:=DataW.trod_struct Tryz.underlying59 h
 have hl:cs.length=5:=hl.trans (by kernel_rfl)
 obtain ⟨c0,c1,c2,c3,c4,rfl⟩:=list5 cs hl
 have hxl:xs.length=5:=hxl
 have e0:Tryz.prog.cellsOf 9=1:=by kernel_rfl
 have g0:DataW.trod en Tryz.prog W base sp held k 9 (([c0,c1,c2,c3,c4].drop 0).take (Tryz.prog.cellsOf 9))=xs[0]?:=hf 0 { name:= "Name",type:=9,offset:=0,embedded:=false,tag:= "",pkgPath:= "",byteOffset:=0 } rfl
 rw [e0,List.getElem?_eq_getElem (by omega)] at g0
 have e1:Tryz.prog.cellsOf 3=1:=by kernel_rfl
 have g1:DataW.trod en Tryz.prog W base sp held k 3 (([c0,c1,c2,c3,c4].drop 1).take (Tryz.prog.cellsOf 3))=xs[1]?:=hf 1 { name:= "Level",type:=3,offset:=1,embedded:=false,tag:= "",pkgPath:= "",byteOffset:=16 } rfl
 rw [e1,List.getElem?_eq_getElem (by omega)] at g1
 have e2:Tryz.prog.cellsOf 3=1:=by kernel_rfl
 have g2:DataW.trod en Tryz.prog W base sp held k 3 (([c0,c1,c2,c3,c4].drop 2).take (Tryz.prog.cellsOf 3))=xs[2]?:=hf 2 { name:= "Line",type:=3,offset:=2,embedded:=false,tag:= "",pkgPath:= "",byteOffset:=24 } rfl
 rw [e2,List.getElem?_eq_getElem (by omega)] at g2
 have e3:Tryz.prog.cellsOf 57=1:=by kernel_rfl
 have g3:DataW.trod en Tryz.prog W base sp held k 57 (([c0,c1,c2,c3,c4].drop 3).take (Tryz.prog.cellsOf 57))=xs[3]?:=hf 3 { name:= "Size",type:=57,offset:=3,embedded:=false,tag:= "",pkgPath:= "",byteOffset:=32 } rfl
 rw [e3,List.getElem?_eq_getElem (by omega)] at g3
 have e4:Tryz.prog.cellsOf 29=1:=by kernel_rfl
 have g4:DataW.trod en Tryz.prog W base sp held k 29 (([c0,c1,c2,c3,c4].drop 4).take (Tryz.prog.cellsOf 29))=xs[4]?:=hf 4 { name:= "Cores",type:=29,offset:=4,embedded:=false,tag:= "",pkgPath:= "",byteOffset:=40 } rfl
 rw [e4,List.getElem?_eq_getElem (by omega)] at g4
 obtain ⟨x0,h0⟩:=read_s g0
 obtain ⟨x1,h1,i1⟩:=read_i g1
 obtain ⟨x2,h2,i2⟩:=read_i g2
 obtain ⟨x3,h3,i3⟩:=read_u g3
 have g4:DataW.trod en Tryz.prog W base sp held k 29 [c4]=some _:=g4
 obtain ⟨x4,r4,i4⟩:=read_ints g4
 obtain ⟨va,vm,vc,rfl, -⟩:=r4.shape
 simp only [List.drop_zero,List.take_succ_cons,List.take_zero,List.drop_succ_cons,List.cons.injEq,and_true] at h0
 subst h0
 simp only [List.drop_zero,List.take_succ_cons,List.take_zero,List.drop_succ_cons,List.cons.injEq,and_true] at h1
 subst h1
 simp only [List.drop_zero,List.take_succ_cons,List.take_zero,List.drop_succ_cons,List.cons.injEq,and_true] at h2
 subst h2
 simp only [List.drop_zero,List.take_succ_cons,List.take_zero,List.drop_succ_cons,List.cons.injEq,and_true] at h3
 subst h3
 exact ⟨⟨x0,x1,x2,x3,va,vm,vc,x4⟩,rfl,r4,i1,i2,i3,i4⟩
instance:Inhabited CoreT:=⟨⟨0,0,0,0⟩⟩
structure HwIn64 (H:HwT):Prop where
 c:∀ x∈H.Cores,okI x.ID∧okI x.Width∧okI x.Node∧okI x.Speed
 h:∀ x∈H.Caches,okI x.Level∧okI x.Line∧wideI x.Size∧∀ v∈x.Cores,okI v
 l:∀ x∈H.Links,okI x.A∧okI x.B∧okI x.Latency
 m:∀ x∈H.Mems,wideI x.Base∧wideI x.Size∧okI x.Node∧okI x.Latency
 d:∀ x∈H.Devs,okI x.Node∧okI x.IRQ∧wideI x.Base∧wideI x.Size
theorem HwIn64.memWide {H:HwT} (h:HwIn64 H):MemWide H:=fun x hx=>by have:=(h.m x hx).1;unfold wideI at this;unfold u64I;omega
set_option maxRecDepth 100000 in
theorem read_hwV {r:Go.Reach} {b:Nat} {v:Value} {d:DataW H} {pl:List MemPlace} (hk:Value.okWide Tryz.prog W r b 28 v) (h:DataW.Trod en Tryz.prog W base sp held 28 v d pl):∃ H:HwT,HwQ (allG W) v H∧HwIn64 H:=by
 obtain ⟨cs,rfl, -⟩:=okWide_struct Tryz.underlying28 hk
 obtain ⟨n,h⟩:=h
 have h:DataW.trod en Tryz.prog W base sp held n 28 cs.toList=some _:=h
 obtain ⟨xs,k, -, -,hl,hxl,hf⟩:=DataW.trod_struct Tryz.underlying28 h
 have hl:cs.toList.length=6:=hl.trans (by kernel_rfl)
 obtain ⟨c0,c1,c2,c3,c4,c5,hcs⟩:=list6 cs.toList hl
 have hxl:xs.length=6:=hxl
 rw [hcs] at hf
 have e0:Tryz.prog.cellsOf 9=1:=by kernel_rfl
 have g0:DataW.trod en Tryz.prog W base sp held k 9 (([c0,c1,c2,c3,c4,c5].drop 0).take (Tryz.prog.cellsOf 9))=xs[0]?:=hf 0 { name:= "Name",type:=9,offset:=0,embedded:=false,tag:= "",pkgPath:= "",byteOffset:=0 } rfl
 rw [e0,List.getElem?_eq_getElem (by omega)] at g0
 have e1:Tryz.prog.cellsOf 22=1:=by kernel_rfl
 have g1:DataW.trod en Tryz.prog W base sp held k 22 (([c0,c1,c2,c3,c4,c5].drop 1).take (Tryz.prog.cellsOf 22))=xs[1]?:=hf 1 { name:= "Cores",type:=22,offset:=1,embedded:=false,tag:= "",pkgPath:= "",byteOffset:=16 } rfl
 rw [e1,List.getElem?_eq_getElem (by omega)] at g1
 have e2:Tryz.prog.cellsOf 23=1:=by kernel_rfl
 have g2:DataW.trod en Tryz.prog W base sp held k 23 (([c0,c1,c2,c3,c4,c5].drop 2).take (Tryz.prog.cellsOf 23))=xs[2]?:=hf 2 { name:= "Caches",type:=23,offset:=2,embedded:=false,tag:= "",pkgPath:= "",byteOffset:=40 } rfl
 rw [e2,List.getElem?_eq_getElem (by omega)] at g2
 have e3:Tryz.prog.cellsOf 24=1:=by kernel_rfl
 have g3:DataW.trod en Tryz.prog W base sp held k 24 (([c0,c1,c2,c3,c4,c5].drop 3).take (Tryz.prog.cellsOf 24))=xs[3]?:=hf 3 { name:= "Links",type:=24,offset:=3,embedded:=false,tag:= "",pkgPath:= "",byteOffset:=64 } rfl
 rw [e3,List.getElem?_eq_getElem (by omega)] at g3
 have e4:Tryz.prog.cellsOf 25=1:=by kernel_rfl
 have g4:DataW.trod en Tryz.prog W base sp held k 25 (([c0,c1,c2,c3,c4,c5].drop 4).take (Tryz.prog.cellsOf 25))=xs[4]?:=hf 4 { name:= "Memories",type:=25,offset:=4,embedded:=false,tag:= "",pkgPath:= "",byteOffset:=88 } rfl
 rw [e4,List.getElem?_eq_getElem (by omega)] at g4
 have e5:Tryz.prog.cellsOf 26=1:=by kernel_rfl
 have g5:DataW.trod en Tryz.prog W base sp held k 26 (([c0,c1,c2,c3,c4,c5].drop 5).take (Tryz.prog.cellsOf 26))=xs[5]?:=hf 5 { name:= "Devices",type:=26,offset:=5,embedded:=false,tag:= "",pkgPath:= "",byteOffset:=112 } rfl
 rw [e5,List.getElem?_eq_getElem (by omega)] at g5
 obtain ⟨s,hs⟩:=read_s g0
 simp only [List.drop_zero,List.take_succ_cons,List.take_zero,List.cons.injEq,and_true] at hs
 subst hs
 have g1:DataW.trod en Tryz.prog W base sp held k 22 [c1]=some _:=g1
 have g2:DataW.trod en Tryz.prog W base sp held k 23 [c2]=some _:=g2
 have g3:DataW.trod en Tryz.prog W base sp held k 24 [c3]=some _:=g3
 have g4:DataW.trod en Tryz.prog W base sp held k 25 [c4]=some _:=g4
 have g5:DataW.trod en Tryz.prog W base sp held k 26 [c5]=some _:=g5
 obtain ⟨x1,r1,i1⟩:=read_slice (F:=fun x:CoreT=>enc x) (sz:=4) (e:=54) (by kernel_rfl) (by decide) (fun x=>rfl) Tryz.underlying22 (fun h=>read_core h) g1
 obtain ⟨x2,r2,i2⟩:=read_slice (F:=cC) (sz:=5) (e:=59) (by kernel_rfl) (by decide) (fun x=>rfl) Tryz.underlying23 (fun h=>read_cache h) g2
 obtain ⟨x3,r3,i3⟩:=read_slice (F:=fun x:LinkT=>enc x) (sz:=3) (e:=98) (by kernel_rfl) (by decide) (fun x=>rfl) Tryz.underlying24 (fun h=>read_link h) g3
 obtain ⟨x4,r4,i4⟩:=read_slice (F:=fun x:MemT=>enc x) (sz:=5) (e:=61) (by kernel_rfl) (by decide) (fun x=>rfl) Tryz.underlying25 (fun h=>read_mem h) g4
 obtain ⟨x5,r5,i5⟩:=read_slice (F:=fun x:DevT=>enc x) (sz:=5) (e:=63) (by kernel_rfl) (by decide) (fun x=>rfl) Tryz.underlying26 (fun h=>read_dev h) g5
 obtain ⟨a1,n1,k1,rfl, -⟩:=r1.shape
 obtain ⟨a2,n2,k2,rfl, -⟩:=r2.shape
 obtain ⟨a3,n3,k3,rfl, -⟩:=r3.shape
 obtain ⟨a4,n4,k4,rfl, -⟩:=r4.shape
 obtain ⟨a5,n5,k5,rfl, -⟩:=r5.shape
 refine ⟨⟨s,x1,x2.map CacheH.T,x3,x4,x5⟩,⟨a1,n1,k1,a2,n2,k2,a3,n3,k3,a4,n4,k4,a5,n5,k5,x2,?_,rfl,fun c hc=>(i2 c hc).1,r1,r2,r3,r4,r5⟩,i1,fun x hx=>?_,i3,i4,i5⟩
 ·have:cs = #[.string s,.slice a1 n1 k1,.slice a2 n2 k2,.slice a3 n3 k3,.slice a4 n4 k4,.slice a5 n5 k5]:=by
   apply Array.toList_inj.1;exact hcs
  rw [this]
 ·obtain ⟨c,hc,rfl⟩:=List.mem_map.1 hx
  exact (i2 c hc).2
end
end Go.Proofs.YthgighljhoneeaaGreatDoor
end
section
open Go Mk
namespace Go.Proofs.YthgighljhoneeaaGreatDoor
set_option maxHeartbeats 8000000
attribute [local irreducible] Calls
structure HwLen (H:HwT):Prop where
 c:H.Cores.length≤1000000
 h:H.Caches.length≤1000000
 l:H.Links.length≤1000000
 m:H.Mems.length≤1000000
 d:H.Devs.length≤1000000
 k:∀ x∈H.Caches,x.Cores.length≤1000000
def ownC (c:CacheH):Res:=.own (.slice c.A c.N c.C) 3 1 (intRows c.Cores)
structure HwV where
 v1:Value
 v2:Value
 v3:Value
 v4:Value
 v5:Value
 cs:List CacheH
def HwV.L (p:HwV) (H:HwT):List Res:=.own p.v1 54 4 (H.Cores.map enc)::.own p.v2 59 5 (p.cs.map cC)::.own p.v3 98 3 (H.Links.map enc)::.own p.v4 61 5 (H.Mems.map enc)::.own p.v5 63 5 (H.Devs.map enc)::p.cs.map ownC
def Res.hw (u:Value) (H:HwT):Res:=Res.ex (α:={p:HwV // u=.agg #[.string H.Name,p.v1,p.v2,p.v3,p.v4,p.v5]∧p.cs.map CacheH.T=H.Caches}) fun p=>p.1.L H
theorem freezeC {w:World} {S:List Res}:∀ {cs:List CacheH} {Γ:Gho},Wd Γ (cs.map ownC++S) w→∃ Γ',Γ.le Γ'∧(∀ c∈cs,COk Γ' c)∧Wd Γ' S w
  | [],Γ,hw=>⟨Γ,Gho.le.refl _,by simp,hw⟩
  | c::cs,Γ,hw=>by
    obtain ⟨Γ1,e1,r1,hw⟩:=Wd.freeze (hw:Wd Γ (.own (.slice c.A c.N c.C) 3 1 (intRows c.Cores)::(cs.map ownC++S)) w)
    obtain ⟨Γ2,e2,h2,hw⟩:=freezeC (S:=S) hw
    refine ⟨Γ2,e1.trans e2,fun x hx=>?_,hw⟩
    rcases List.mem_cons.1 hx with rfl | hx
    · exact RepS.mono r1 e2
    · exact h2 x hx
theorem wd_tuck {Γ:Gho} {w:World} {a:Res} {A X R:List Res} (h:Wd Γ (a::(A++(X++R))) w):Wd Γ (A++((X++[a])++R)) w:=h.perm (by
 rw [← List.append_assoc,List.append_assoc X,← List.append_assoc]
 exact List.perm_middle.symm)
theorem Copy_any {Γ:Gho} {S:List Res} {w:World} {u:Value} {H:HwT} [hh:HwR Γ u H] (hs:HwLen H) (hw:Wd Γ S w) :
  Calls Tryz.prog 7 #[u] w fun e w'=>∃ u',e=.returned u'∧Wd Γ (Res.hw u' H::S) w':=by
 obtain ⟨a1,n1,c1,a2,n2,c2,a3,n3,c3,a4,n4,c4,a5,n5,c5,cs,rfl,hcs,hok,hsz,r1,r2,r3,r4,r5⟩:=hh.h
 obtain ⟨hn1,hm1,hx1⟩:=rep_facts r1
 obtain ⟨hn2,hm2,hx2⟩:=rep_facts r2
 obtain ⟨hn3,hm3,hx3⟩:=rep_facts r3
 obtain ⟨hn4,hm4,hx4⟩:=rep_facts r4
 obtain ⟨hn5,hm5,hx5⟩:=rep_facts r5
 simp only [List.length_map] at hn1 hn2 hn3 hn4 hn5
 have hcl:cs.length=H.Caches.length:=by rw [← hcs];simp
 obtain ⟨l1,l2,l3,l4,l5,l6⟩:=hs
 refine calls_of_WC Tryz.func7 rfl rfl ?_
 repeat (first | refine byW ?_ | (refine byV ?_;intro w hw))
 refine lBox ?_
 intro b1 w hw
 refine lAlloc ?_
 intro b2 w hw
 repeat (first | refine byW ?_ | (refine byV ?_;intro w hw))
 have hw:Wd Γ (.blk b2 (.cells hwZ.toArray 28)::.blk b1 (hwC H a1 n1 c1 a2 n2 c2 a3 n3 c3 a4 n4 c4 a5 n5 c5)::S) w:=hw
 have hw:=hw.ps [1]
 have hw:Wd Γ (.blk b1 (hwC H a1 n1 c1 a2 n2 c2 a3 n3 c3 a4 n4 c4 a5 n5 c5)::.blk b2 (.cells hwZ.toArray 28)::S) w:=hw
 repeat (first | refine byW ?_ | (refine byV ?_;intro w hw))
 refine lAlloc ?_
 intro b3 w hw
 refine lStore ?_
 intro w hw
 have hw:Wd Γ (.own (.slice none 0 0) 54 4 []::.blk b3 (hwC H a1 n1 c1 a2 n2 c2 a3 n3 c3 a4 n4 c4 a5 n5 c5)::.blk b1 (hwC H a1 n1 c1 a2 n2 c2 a3 n3 c3 a4 n4 c4 a5 n5 c5)::.blk b2 (.cells hwZ.toArray 28)::S) w:=Wd.addNil hw
 repeat (first | refine byW ?_ | (refine byV ?_;intro w hw))
 refine lApp (i:=0) (rows2:=H.Cores.map enc) ?_ (r1.rd hw) (h1:=encs_one _) (hm:=by simp;omega)
 intro v1 w hw
 obtain ⟨A1,N1,C1,rfl, -, -, -⟩:=hw.own_shape (i:=0) rfl
 have hw:Wd Γ (.own (.slice A1 N1 C1) 54 4 (H.Cores.map enc)::.blk b3 (hwC H a1 n1 c1 a2 n2 c2 a3 n3 c3 a4 n4 c4 a5 n5 c5)::.blk b1 (hwC H a1 n1 c1 a2 n2 c2 a3 n3 c3 a4 n4 c4 a5 n5 c5)::.blk b2 (.cells hwZ.toArray 28)::S) w:=hw
 repeat (first | refine byW ?_ | (refine byV ?_;intro w hw))
 refine lStore (i:=1) ?_
 intro w hw
 have hw:Wd Γ (.own (.slice none 0 0) 98 3 []::.own (.slice A1 N1 C1) 54 4 (H.Cores.map enc)::.blk b3 (hwC H A1 N1 C1 a2 n2 c2 a3 n3 c3 a4 n4 c4 a5 n5 c5)::.blk b1 (hwC H a1 n1 c1 a2 n2 c2 a3 n3 c3 a4 n4 c4 a5 n5 c5)::.blk b2 (.cells hwZ.toArray 28)::S) w:=Wd.addNil hw
 repeat (first | refine byW ?_ | (refine byV ?_;intro w hw))
 refine lApp (i:=0) (rows2:=H.Links.map enc) ?_ (r3.rd hw) (h1:=encs_one _) (hm:=by simp;omega)
 intro v3 w hw
 obtain ⟨A3,N3,C3,rfl, -, -, -⟩:=hw.own_shape (i:=0) rfl
 have hw:Wd Γ (.own (.slice A3 N3 C3) 98 3 (H.Links.map enc)::.own (.slice A1 N1 C1) 54 4 (H.Cores.map enc)::.blk b3 (hwC H A1 N1 C1 a2 n2 c2 a3 n3 c3 a4 n4 c4 a5 n5 c5)::.blk b1 (hwC H a1 n1 c1 a2 n2 c2 a3 n3 c3 a4 n4 c4 a5 n5 c5)::.blk b2 (.cells hwZ.toArray 28)::S) w:=hw
 repeat (first | refine byW ?_ | (refine byV ?_;intro w hw))
 refine lStore (i:=2) ?_
 intro w hw
 have hw:Wd Γ (.own (.slice none 0 0) 61 5 []::.own (.slice A3 N3 C3) 98 3 (H.Links.map enc)::.own (.slice A1 N1 C1) 54 4 (H.Cores.map enc)::.blk b3 (hwC H A1 N1 C1 a2 n2 c2 A3 N3 C3 a4 n4 c4 a5 n5 c5)::.blk b1 (hwC H a1 n1 c1 a2 n2 c2 a3 n3 c3 a4 n4 c4 a5 n5 c5)::.blk b2 (.cells hwZ.toArray 28)::S) w:=Wd.addNil hw
 repeat (first | refine byW ?_ | (refine byV ?_;intro w hw))
 refine lApp (i:=0) (rows2:=H.Mems.map enc) ?_ (r4.rd hw) (h1:=encs_one _) (hm:=by simp;omega)
 intro v4 w hw
 obtain ⟨A4,N4,C4,rfl, -, -, -⟩:=hw.own_shape (i:=0) rfl
 have hw:Wd Γ (.own (.slice A4 N4 C4) 61 5 (H.Mems.map enc)::.own (.slice A3 N3 C3) 98 3 (H.Links.map enc)::.own (.slice A1 N1 C1) 54 4 (H.Cores.map enc)::.blk b3 (hwC H A1 N1 C1 a2 n2 c2 A3 N3 C3 a4 n4 c4 a5 n5 c5)::.blk b1 (hwC H a1 n1 c1 a2 n2 c2 a3 n3 c3 a4 n4 c4 a5 n5 c5)::.blk b2 (.cells hwZ.toArray 28)::S) w:=hw
 repeat (first | refine byW ?_ | (refine byV ?_;intro w hw))
 refine lStore (i:=3) ?_
 intro w hw
 have hw:Wd Γ (.own (.slice none 0 0) 63 5 []::.own (.slice A4 N4 C4) 61 5 (H.Mems.map enc)::.own (.slice A3 N3 C3) 98 3 (H.Links.map enc)::.own (.slice A1 N1 C1) 54 4 (H.Cores.map enc)::.blk b3 (hwC H A1 N1 C1 a2 n2 c2 A3 N3 C3 A4 N4 C4 a5 n5 c5)::.blk b1 (hwC H a1 n1 c1 a2 n2 c2 a3 n3 c3 a4 n4 c4 a5 n5 c5)::.blk b2 (.cells hwZ.toArray 28)::S) w:=Wd.addNil hw
 repeat (first | refine byW ?_ | (refine byV ?_;intro w hw))
 refine lApp (i:=0) (rows2:=H.Devs.map enc) ?_ (r5.rd hw) (h1:=encs_one _) (hm:=by simp;omega)
 intro v5 w hw
 obtain ⟨A5,N5,C5,rfl, -, -, -⟩:=hw.own_shape (i:=0) rfl
 have hw:Wd Γ (.own (.slice A5 N5 C5) 63 5 (H.Devs.map enc)::.own (.slice A4 N4 C4) 61 5 (H.Mems.map enc)::.own (.slice A3 N3 C3) 98 3 (H.Links.map enc)::.own (.slice A1 N1 C1) 54 4 (H.Cores.map enc)::.blk b3 (hwC H A1 N1 C1 a2 n2 c2 A3 N3 C3 A4 N4 C4 a5 n5 c5)::.blk b1 (hwC H a1 n1 c1 a2 n2 c2 a3 n3 c3 a4 n4 c4 a5 n5 c5)::.blk b2 (.cells hwZ.toArray 28)::S) w:=hw
 repeat (first | refine byW ?_ | (refine byV ?_;intro w hw))
 refine lStore (i:=4) ?_
 intro w hw
 repeat (first | refine byW ?_ | (refine byV ?_;intro w hw))
 refine lStore (i:=4) ?_
 intro w hw
 have hw:Wd Γ (.own (.slice A5 N5 C5) 63 5 (H.Devs.map enc)::.own (.slice A4 N4 C4) 61 5 (H.Mems.map enc)::.own (.slice A3 N3 C3) 98 3 (H.Links.map enc)::.own (.slice A1 N1 C1) 54 4 (H.Cores.map enc)::.blk b3 (hwC H A1 N1 C1 none 0 0 A3 N3 C3 A4 N4 C4 A5 N5 C5)::.blk b1 (hwC H a1 n1 c1 a2 n2 c2 a3 n3 c3 a4 n4 c4 a5 n5 c5)::.blk b2 (.cells hwZ.toArray 28)::S) w:=hw
 obtain ⟨R,hR⟩:∃ R:List Res,R=.own (.slice A1 N1 C1) 54 4 (H.Cores.map enc)::.own (.slice A3 N3 C3) 98 3 (H.Links.map enc)::.own (.slice A4 N4 C4) 61 5 (H.Mems.map enc)::.own (.slice A5 N5 C5) 63 5 (H.Devs.map enc)::S:=⟨_,rfl⟩
 have hw:Wd Γ (.own (.slice none 0 0) 59 5 ((([]:List CacheH)).map cC)::.blk b1 (hwC H a1 n1 c1 a2 n2 c2 a3 n3 c3 a4 n4 c4 a5 n5 c5)::.blk b2 (.cells hwZ.toArray 28)::.blk b3 (hwC H A1 N1 C1 none 0 0 A3 N3 C3 A4 N4 C4 A5 N5 C5)::R) w:=by
  rw [hR];exact Wd.addNil (hw.ps [1,2,3,4,6,6])
 repeat (first | refine byW ?_ | (refine byV ?_;intro w hw))
 have hw:Wd Γ (.own (.slice none 0 0) 59 5 (([]:List CacheH).map cC)::.blk b1 (hwC H a1 n1 c1 a2 n2 c2 a3 n3 c3 a4 n4 c4 a5 n5 c5)::.blk b2 (.cells hwZ.toArray 28)::.blk b3 (hwC H A1 N1 C1 none 0 0 A3 N3 C3 A4 N4 C4 A5 N5 C5)::(([]:List CacheH).map ownC++R)) w:=hw
 refine W_loop (fun μ ρ w=>∃ (k:Nat) (q:Option Addr) (m d:Nat) (xs:List CacheH),μ+k=n2∧xs.map CacheH.T=(cs.take k).map CacheH.T∧Has ρ [(1,.pointer (some ⟨b1,0,none⟩)),(2,.pointer (some ⟨b2,0,none⟩)),(3,.pointer (some ⟨b3,0,none⟩)),(4,.int .i64 k)]∧Wd Γ (.own (.slice q m d) 59 5 (xs.map cC)::.blk b1 (hwC H a1 n1 c1 a2 n2 c2 a3 n3 c3 a4 n4 c4 a5 n5 c5)::.blk b2 (.cells hwZ.toArray 28)::.blk b3 (hwC H A1 N1 C1 q m d A3 N3 C3 A4 N4 C4 A5 N5 C5)::(xs.map ownC++R)) w) n2 ⟨0,none,0,0,[],by omega,rfl,⟨rfl,rfl,rfl,rfl,trivial⟩,hw⟩ ?_
 clear hw
 rintro μ ρ w ⟨k,q,m,d,xs,hk,hxs,hρ,hw⟩
 have hm:=own_len (i:=0) hw rfl
 have hxl:xs.length=k:=by have:=congrArg List.length hxs;simp at this;omega
 simp only [List.length_map] at hm
 rw [hρ.eq]
 repeat (first | refine byW ?_ | (refine byV ?_;intro w hw))
 refine W_cond rfl (fun h=>?_) (fun h=>?_)
 ·have hkn:k < n2:=by have:=of_decide_eq_true h;omega
  obtain ⟨x,hx⟩:=get_lt (l:=cs) (k:=k) (by omega)
  have hcx:=hok x (List.mem_of_getElem? hx)
  obtain ⟨hxn,hxm,hxc⟩:=hcx.facts
  unfold COk at hcx
  have hx6:=l6 x.T (by rw [← hcs];exact List.mem_map.2 ⟨x,List.mem_of_getElem? hx,rfl⟩)
  have hx6:x.Cores.length≤1000000:=hx6
  repeat (first | refine byW ?_ | (refine byV ?_;intro w hw))
  refine lAlloc ?_
  intro b5 w hw
  refine lStore ?_
  intro w hw
  have hw:Wd Γ (.blk b5 (.cells (cC x).toArray 59)::.own (.slice q m d) 59 5 (xs.map cC)::.blk b1 (hwC H a1 n1 c1 a2 n2 c2 a3 n3 c3 a4 n4 c4 a5 n5 c5)::.blk b2 (.cells hwZ.toArray 28)::.blk b3 (hwC H A1 N1 C1 q m d A3 N3 C3 A4 N4 C4 A5 N5 C5)::(xs.map ownC++R)) w:=hw
  repeat (first | refine byW ?_ | (refine byV ?_;intro w hw))
  have hw:Wd Γ (.own (.slice none 0 0) 3 1 []::.blk b5 (.cells (cC x).toArray 59)::.own (.slice q m d) 59 5 (xs.map cC)::.blk b1 (hwC H a1 n1 c1 a2 n2 c2 a3 n3 c3 a4 n4 c4 a5 n5 c5)::.blk b2 (.cells hwZ.toArray 28)::.blk b3 (hwC H A1 N1 C1 q m d A3 N3 C3 A4 N4 C4 A5 N5 C5)::(xs.map ownC++R)) w:=Wd.addNil hw
  refine lApp (i:=0) (rows2:=intRows x.Cores) ?_ (hcx.rd hw) (h1:=ints_one _) (hm:=by simp [intRows];omega)
  intro v9 w hw
  obtain ⟨Q,M,D,rfl, -, -, -⟩:=hw.own_shape (i:=0) rfl
  obtain ⟨y,hy⟩:∃ y:CacheH,y=⟨x.Name,x.Level,x.Line,x.Size,Q,M,D,x.Cores⟩:=⟨_,rfl⟩
  have hyT:y.T=x.T:=by rw [hy];rfl
  have hw:Wd Γ (ownC y::.blk b5 (.cells (cC x).toArray 59)::.own (.slice q m d) 59 5 (xs.map cC)::.blk b1 (hwC H a1 n1 c1 a2 n2 c2 a3 n3 c3 a4 n4 c4 a5 n5 c5)::.blk b2 (.cells hwZ.toArray 28)::.blk b3 (hwC H A1 N1 C1 q m d A3 N3 C3 A4 N4 C4 A5 N5 C5)::(xs.map ownC++R)) w:=by rw [hy];exact hw
  repeat (first | refine byW ?_ | (refine byV ?_;intro w hw))
  refine lStore (i:=1) ?_
  intro w hw
  have hw:Wd Γ (ownC y::.blk b5 (.cells (cC y).toArray 59)::.own (.slice q m d) 59 5 (xs.map cC)::.blk b1 (hwC H a1 n1 c1 a2 n2 c2 a3 n3 c3 a4 n4 c4 a5 n5 c5)::.blk b2 (.cells hwZ.toArray 28)::.blk b3 (hwC H A1 N1 C1 q m d A3 N3 C3 A4 N4 C4 A5 N5 C5)::(xs.map ownC++R)) w:=by rw [hy] at hw ⊢;exact hw
  repeat (first | refine byW ?_ | (refine byV ?_;intro w hw))
  refine lBuildSlice [cC y] ?_
  intro ab w hw
  refine lApp (i:=3) (rows2:=[cC y]) ?_ (Wd.own_rd (i:=0) hw rfl)
  intro v' w hw
  obtain ⟨q',m',d',rfl, -, -, -⟩:=hw.own_shape (i:=3) rfl
  repeat (first | refine byW ?_ | (refine byV ?_;intro w hw))
  have hw:=(hw.drop).dropAt 1
  have hw:Wd Γ (ownC y::.own (.slice q' m' d') 59 5 (xs.map cC++[cC y])::.blk b1 (hwC H a1 n1 c1 a2 n2 c2 a3 n3 c3 a4 n4 c4 a5 n5 c5)::.blk b2 (.cells hwZ.toArray 28)::.blk b3 (hwC H A1 N1 C1 q m d A3 N3 C3 A4 N4 C4 A5 N5 C5)::(xs.map ownC++R)) w:=hw
  refine lStore (i:=4) ?_
  intro w hw
  have hw:Wd Γ (.own (.slice q' m' d') 59 5 ((xs++[y]).map cC)::.blk b1 (hwC H a1 n1 c1 a2 n2 c2 a3 n3 c3 a4 n4 c4 a5 n5 c5)::.blk b2 (.cells hwZ.toArray 28)::.blk b3 (hwC H A1 N1 C1 q' m' d' A3 N3 C3 A4 N4 C4 A5 N5 C5)::((xs++[y]).map ownC++R)) w:=by
   rw [List.map_append,List.map_append]
   exact wd_tuck (A:=[.own (.slice q' m' d') 59 5 (xs.map cC++[cC y]),.blk b1 _,.blk b2 _,.blk b3 _]) hw
  repeat (first | refine byW ?_ | (refine byV ?_;intro w hw))
  refine ⟨μ - 1,by omega,k+1,_,_,_,_,by omega,?_,⟨rfl,rfl,rfl,rfl,trivial⟩,hw⟩
  rw [List.map_append,hxs,take_succ_of hx,List.map_append];simp [hyT]
 ·have hkn:¬ k < n2:=by have:=of_decide_eq_false h;omega
  rw [List.take_of_length_le (by omega),hcs] at hxs
  repeat (first | refine byW ?_ | (refine byV ?_;intro w hw))
  refine lStore (i:=2) ?_
  intro w hw
  have hw:Wd Γ (.own (.slice q m d) 59 5 (xs.map cC)::.blk b1 (hwC H a1 n1 c1 a2 n2 c2 a3 n3 c3 a4 n4 c4 a5 n5 c5)::.blk b2 (hwC H A1 N1 C1 q m d A3 N3 C3 A4 N4 C4 A5 N5 C5)::.blk b3 (hwC H A1 N1 C1 q m d A3 N3 C3 A4 N4 C4 A5 N5 C5)::(xs.map ownC++R)) w:=hw
  repeat (first | refine byW ?_ | (refine byV ?_;intro w hw))
  refine ⟨[.agg #[.string H.Name,.slice A1 N1 C1,.slice q m d,.slice A3 N3 C3,.slice A4 N4 C4,.slice A5 N5 C5]],⟨resC (i:=2) hw rfl rfl rfl,trivial⟩,_,rfl,?_⟩
  have hw:=hw.ds [1,1,1]
  rw [hR] at hw
  refine Wd.closeEx (X:=fun p:{p:HwV // Value.agg #[.string H.Name,.slice A1 N1 C1,.slice q m d,.slice A3 N3 C3,.slice A4 N4 C4,.slice A5 N5 C5]=.agg #[.string H.Name,p.v1,p.v2,p.v3,p.v4,p.v5]∧p.cs.map CacheH.T=H.Caches}=>p.1.L H) ⟨⟨.slice A1 N1 C1,.slice q m d,.slice A3 N3 C3,.slice A4 N4 C4,.slice A5 N5 C5,xs⟩,rfl,hxs⟩ ?_
  have hw:Wd Γ ((.own (.slice q m d) 59 5 (xs.map cC)::xs.map ownC)++([.own (.slice A1 N1 C1) 54 4 (H.Cores.map enc),.own (.slice A3 N3 C3) 98 3 (H.Links.map enc),.own (.slice A4 N4 C4) 61 5 (H.Mems.map enc),.own (.slice A5 N5 C5) 63 5 (H.Devs.map enc)]++S)) w:=hw
  exact hw.swapApp.ps [4,1]
end Go.Proofs.YthgighljhoneeaaGreatDoor
end
section
open Go Mk
namespace Go.Proofs.YthgighljhoneeaaGreatDoor
set_option maxHeartbeats 8000000
attribute [local irreducible] Calls
section
variable {n:Nat} {ops:List Oper} {Γ:Gho} {K:List Res} {wr tc stab:List (List Nat)} {Q:Fr→World→Prop} {i:Nat} {rest:List Oper} {ρ:Fr} {M:Nat→Fr→List Res} {ty:TypeId} {pos:String} {es:Array Edge}
end
end Go.Proofs.YthgighljhoneeaaGreatDoor
end
section
open Go Mk
namespace Go.Proofs.YthgighljhoneeaaGreatDoor
set_option maxHeartbeats 8000000
attribute [local irreducible] Calls
section
variable {P:Program} {n:Nat} {ops:List Oper} {Γ:Gho} {K:List Res} {wr tc stab:List (List Nat)} {Q:Fr→World→Prop} {i:Nat} {rest:List Oper} {ρ:Fr} {M:Nat→Fr→List Res} {T ty:TypeId} {pos:String} {es:Array Edge} {x:Operand}
end
theorem pw_iff {α:Type} {R:α→α→Prop}:∀ {l:List α},l.Pairwise R↔∀ (i k:Nat) (a b:α),k < i→l[i]? = some a→l[k]? = some b→R b a
  | []=>by simp
  | x::l=>by
    rw [List.pairwise_cons,pw_iff]
    constructor
    · rintro ⟨h1,h2⟩ i k a b hki ha hb
      cases i with
      | zero=>omega
      | succ i=>
        simp at ha
        cases k with
        | zero=>simp at hb;subst hb;exact h1 a (List.mem_of_getElem? ha)
        | succ k=>simp at hb;exact h2 i k a b (by omega) ha hb
    · intro h
      refine ⟨fun a ha=>?_,fun i k a b hki ha hb=>h (i+1) (k+1) a b (by omega) (by simpa using ha) (by simpa using hb)⟩
      obtain ⟨i,hi,he⟩:=mem_get ha
      exact h (i+1) 0 a x (by omega) (by simpa using he) rfl
theorem disj_pw {H:HwT}:DisjP H↔(regs H).Pairwise fun b a=>apartB a b=true:=by
 rw [pw_iff];exact Iff.rfl
structure ValidP (H:HwT):Prop where
 n:namesB H=true
 c:countsB H=true
 r:coresRB H=true
 g:regionsRB H=true
 a:alignRB H=true
 u:uniqueB H=true
 k:knownB H=true
 h:hierB H=true
 d:disjB H=true
 o:connB H=true
theorem valid_iff {H:HwT}:validS H=0↔ValidP H:=by
 constructor
 ·intro h
  unfold validS at h
  repeat' split at h
  all_goals first | (exact absurd h (by decide)) | skip
  rename_i h1 h2 h3 h4 h5 h6 h7 h8 h9
  simp only [Bool.not_eq_false,Bool.and_eq_true] at h1 h2 h3 h4 h5 h6 h7 h8 h9
  exact ⟨h1,h2,h3.1,h3.2,h4,h5,h6,h7,h8,h9⟩
 ·rintro ⟨h1,h2,h3,h4,h5,h6,h7,h8,h9,h10⟩
  simp [validS,h1,h2,h3,h4,h5,h6,h7,h8,h9,h10]
end Go.Proofs.YthgighljhoneeaaGreatDoor
end
section
open Go Mk
namespace Go.Proofs.YthgighljhoneeaaGreatDoor
def szR (b:RangeT):Int:=2 ^ b.Bits.toNat
def endR (b:RangeT):Int:=b.Base+szR b
def inM (b:RangeT) (m:MemT):Prop:=m.Base≤b.Base∧endR b≤m.Base+m.Size
def apR (a b:RangeT):Prop:=¬ (a.Base < endR b∧b.Base < endR a)
theorem apR_symm {a b:RangeT} (h:apR a b):apR b a:=fun hh=>h ⟨hh.2,hh.1⟩
structure BlkP (b:RangeT):Prop where
 lo:12≤b.Bits
 hi:b.Bits≤40
 base:0≤b.Base
 al:b.Base % szR b=0
 top:endR b≤1099511627776
theorem szR_pos (b:RangeT):0 < szR b:=Int.pow_pos (by omega)
section
variable {D:Mx} {cs:List CoreT} {m:MemT} {e:Nat}
theorem blk_shape (hm:MemP m e):∃ j,j≤e - 12∧blkOf D cs m=(List.range (2 ^ j)).map fun i=>((nearL D cs m).getD (i % (nearL D cs m).length) 0,(⟨((blkN m.Base.toNat e j i:Nat):Int),((e - j:Nat):Int)⟩:RangeT)):=by
 obtain ⟨j,hj,h1,h2⟩:=cut_pow hm (nearL D cs m).length
 refine ⟨j,hj,?_⟩
 unfold blkOf
 rw [h2,h1,Nat.log2_two_pow]
 refine List.map_congr_left fun i _=>?_
 have:m.Base+i * ((2 ^ (e - j):Nat):Int)=((blkN m.Base.toNat e j i:Nat):Int):=by
  unfold blkN
  have:=hm.base
  push_cast
  rw [Int.toNat_of_nonneg this]
 rw [this]
theorem blk_range (hm:MemP m e) {j i:Nat} (hj:j≤e - 12) (hi:i < 2 ^ j):BlkP ⟨((blkN m.Base.toNat e j i:Nat):Int),((e - j:Nat):Int)⟩∧inM ⟨((blkN m.Base.toNat e j i:Nat):Int),((e - j:Nat):Int)⟩ m:=by
 have h1:=hm.lo;have h2:=hm.hi;have h3:=hm.base;have h4:=hm.fin;have h5:=hm.size
 have hs:szR ⟨((blkN m.Base.toNat e j i:Nat):Int),((e - j:Nat):Int)⟩=((2 ^ (e - j):Nat):Int):=by unfold szR;simp
 have g1:=blk_aligned (i:=i) hm.al (by omega:j≤e)
 have g2:=blk_end (b:=m.Base.toNat) (by omega:j≤e) hi
 have g3:m.Base.toNat≤blkN m.Base.toNat e j i:=by unfold blkN;omega
 have he:endR ⟨((blkN m.Base.toNat e j i:Nat):Int),((e - j:Nat):Int)⟩=((blkN m.Base.toNat e j i+2 ^ (e - j):Nat):Int):=by unfold endR;rw [hs];push_cast;rfl
 refine ⟨⟨by simp only;omega,by simp only;omega,by simp only;omega,?_,?_⟩,?_,?_⟩
 ·rw [hs];simp only;rw [← Int.natCast_emod,g1];rfl
 ·rw [he];omega
 ·simp only;omega
 ·rw [he];omega
theorem blkOf_in (hm:MemP m e) {p:Blk} (hp:p∈blkOf D cs m):BlkP p.2∧inM p.2 m:=by
 obtain ⟨j,hj,h⟩:=blk_shape (D:=D) (cs:=cs) hm
 rw [h] at hp
 obtain ⟨i,hi,rfl⟩:=List.mem_map.1 hp
 exact blk_range hm hj (by simpa using hi)
theorem blkOf_apart (hm:MemP m e):(blkOf D cs m).Pairwise fun p q=>apR p.2 q.2:=by
 obtain ⟨j,hj,h⟩:=blk_shape (D:=D) (cs:=cs) hm
 rw [h,List.pairwise_map]
 refine (List.pairwise_lt_range (n:=2 ^ j)).imp_of_mem fun {i k} hi hk hik=>?_
 have g:=blk_apart (b:=m.Base.toNat) (e:=e) (j:=j) hik
 intro hh
 have h1:=hh.2
 unfold endR szR at h1
 simp only [Int.toNat_natCast] at h1
 have:(2:Int) ^ (e - j)=((2 ^ (e - j):Nat):Int):=by push_cast;rfl
 rw [this] at h1
 omega
end
theorem mems_apart {H:HwT} (hv:validS H=0):H.Mems.Pairwise fun a b=>∀ x y:RangeT,inM x a→inM y b→(∃ e,MemP a e)→(∃ e,MemP b e)→apR x y:=by
 obtain ⟨-, -, -, -, -, -, -,h8, -⟩:=valid_all hv
 have h:=(disj_pw (H:=H)).1 (@of_decide_eq_true _ (Classical.propDecidable _) h8)
 unfold regs at h
 have h1:=(List.pairwise_append.1 h).1
 rw [List.pairwise_map] at h1
 refine h1.imp fun {a b} hab x y hx hy ⟨ea,ha⟩ ⟨eb,hb⟩ hh=>?_
 unfold apartB memBlk at hab
 have w1:∀ {c:MemT} {ec:Nat},MemP c ec→IntKind.u64.wrap (c.Base+c.Size)=c.Base+c.Size:=fun {c ec} hc=>by
  have:=hc.base;have:=hc.fin;have:=hc.size
  have:0≤c.Size:=by rw [this];exact Int.natCast_nonneg _
  simp [IntKind.wrap,IntKind.bits,IntKind.signed];omega
 rw [w1 ha,w1 hb] at hab
 simp only [Bool.not_eq_true',Bool.and_eq_false_iff,decide_eq_false_iff_not] at hab
 obtain ⟨hx1,hx2⟩:=hx
 obtain ⟨hy1,hy2⟩:=hy
 have:=hh.1
 have:=hh.2
 omega
section
variable {D:Mx} {cs:List CoreT} {H:HwT}
theorem all_apart (hv:validS H=0) (hp:∀ m∈H.Mems,∃ e,MemP m e):(H.Mems.flatMap (blkOf D cs)).Pairwise fun p q=>apR p.2 q.2:=by
 rw [List.pairwise_flatMap]
 refine ⟨fun m hm=>?_,?_⟩
 ·obtain ⟨e,he⟩:=hp m hm
  exact blkOf_apart he
 ·refine (mems_apart hv).imp_of_mem fun {a b} ha hb hab x hx y hy=>?_
  obtain ⟨ea,hea⟩:=hp a ha
  obtain ⟨eb,heb⟩:=hp b hb
  exact hab _ _ (blkOf_in hea hx).2 (blkOf_in heb hy).2 ⟨ea,hea⟩ ⟨eb,heb⟩
end
end Go.Proofs.YthgighljhoneeaaGreatDoor
end
section
open Go Mk
namespace Go.Proofs.YthgighljhoneeaaGreatDoor
set_option maxHeartbeats 64000000
attribute [local irreducible] Calls
attribute [local irreducible] matL
structure PoolsF (Γ:Gho) (v:Value) (cs:List CoreT) (vs:List Value) (B:List (List RangeT)):Prop where
 out:RepS Γ v 2 (poolsR cs vs)
 inn:∀ (k:Nat) (v:Value) (b:List RangeT),vs[k]? = some v→B[k]? = some b→RepS Γ v 2 (b.map enc)
theorem pools_freeze {Γ:Gho} {S:List Res} {w:World} {v:Value} {cs:List CoreT} {vs:List Value} {B:List (List RangeT)} (hw:Wd Γ (.own v 66 2 (poolsR cs vs)::(inn 68 2 (poolsI vs B)++S)) w) :
  ∃ Γ',Γ.le Γ'∧PoolsF Γ' v cs vs B∧Wd Γ' S w:=by
 obtain ⟨Γ1,e1,rp,hw⟩:=hw.freeze
 unfold inn at hw
 obtain ⟨Γ2,e2,hb,hw⟩:=freeze_list (f:=fun p:Value × List (List Value)=>p.1) (g:=fun p=>p.2) (poolsI vs B) hw
 refine ⟨Γ2,e1.trans e2,⟨rp.mono e2,fun k v b h1 h2=>?_⟩,hw⟩
 exact hb _ (List.mem_of_getElem? (poolsI_get h1 h2))
theorem wrapU {z:Int} (h1:0≤z) (h2:z < 18446744073709551616):IntKind.u64.wrap z=z:=by simp [IntKind.wrap,IntKind.bits,IntKind.signed];omega
end Go.Proofs.YthgighljhoneeaaGreatDoor
end
section
open Go
namespace Mk
theorem iRows_flat (xs:List Int):(iRows xs).flatten=xs.map (Value.int .i64):=by
 induction xs with
 | nil=>rfl
 | cons x xs ih=>simp only [iRows,List.map_cons,List.flatten_cons] at ih ⊢;rw [ih];rfl
section
variable {P:Program} {n:Nat} {opa:Array Oper} {Γ:Gho} {S:List Res} {QQ:Exit→Fr→World→Prop} {K:Value→World→Prop} {ρ:Fr} {w:World} {rest:List Oper}
variable {d:Option Tmp} {T U ty:TypeId} {pos:String} {es:Array Edge} {g:Option (Nat × Bool)} {x y z:Operand}
theorem s_copyI {E by' i l m c n2 c2:Nat} {zs:List Value} {a a2:Option Addr} {xs ys:List Int} [hT:TL P T E 1 by' zs] (hw:Wd Γ S w) (hi:S[i]? = some (.own (.slice a m c) E 1 (iRows xs))) (hx:ev ρ x=.slice (cutA a l c 1) (m - l) (c - l)) (hy:ev ρ y=.slice a2 n2 c2)
  (hl:l < m) (hr2:Rd w a2 1 (iRows ys)) (hm:n2=ys.length) (h0:0 < n2)
  (hk:∀ w',Wd Γ (S.set i (.own (.slice a m c) E 1 (iRows (xs.take l++ys.take (m - l)++xs.drop (l+min n2 (m - l)))))) w'→K (.int .i64 (min n2 (m - l):Nat)) w') :
  Step P ⟨d,.call { callee:=.builtin .copy,args:=#[x,y],argTypes:=#[T,U] },ty,pos,es,g⟩ ρ w K:=by
 obtain ⟨bs0,hr0⟩:=hw.own_holds hi
 unfold Res.own at hr0
 obtain ⟨q0,a',n',c',e1,e2,e3,e4,e5⟩:=hr0
 cases e1
 have hml:m=xs.length:=by simpa [iRows] using e2
 rcases e5 with ⟨hc,_⟩ | ⟨b,cur,g1,g2,g3,g4,g5⟩
 ·omega
 ·subst g1
  have hcut:cutA (some ⟨b,0,none⟩) l c 1=some ⟨b,l,none⟩:=by
   unfold cutA
   rw [if_neg (by omega)]
   simp only [Option.map_some]
   rw [Addr.add_mid];simp
  rw [hcut] at hx
  have ha2:=hr2.at_ (by simp [iRows];omega)
  obtain ⟨q,hq,hs,_⟩:=sizeBytes_info hT.s
  have hcs:((ys.take (m - l)).map (Value.int .i64)).length=Nat.min n2 (m - l):=by
   rw [List.length_map,List.length_take,← hm,Nat.min_comm]
  have hrun:=run_copy_row (P:=P) w T U ty E b l (m - l) (c - l) ⟨aB a2,aO a2,none⟩ n2 c2 cur E ((ys.take (m - l)).map (Value.int .i64)) hT.h (by rw [hq];simp [hs]) g3 hcs (fun j v hj=>by
   rw [Addr.add_mid]
   refine hr2.range j v ?_
   rw [iRows_flat]
   rw [List.getElem?_map] at hj ⊢
   have hjl:j < m - l:=by
    cases hh:(ys.take (m - l))[j]? with
    | none=>rw [hh] at hj;cases hj
    | some u=>have:=(List.getElem?_eq_some_iff.1 hh).1;simp at this;omega
   rw [List.getElem?_take_of_lt hjl] at hj;exact hj) (by rw [hcs,g4];have:Nat.min n2 (m - l)≤m - l:=Nat.min_le_right _ _;omega) (by intro v hv;obtain ⟨u, -,rfl⟩:=List.mem_map.1 hv;rfl)
  have hlen:((ys.take (m - l)).map (Value.int .i64)).length=min n2 (m - l):=hcs
  have hr:(execOp (ev ρ) ⟨d,.call { callee:=.builtin .copy,args:=#[x,y],argTypes:=#[T,U] },ty,pos,es,g⟩).run P w=.ok (.value (.int .i64 (min n2 (m - l):Nat))) (w.setRow b (cur.toList.take l++(ys.take (m - l)).map (Value.int .i64)++cur.toList.drop (l+min n2 (m - l))).toArray):=by
   rw [← ha2,hlen] at hrun
   simp only [execOp,resolve,invoke,builtin,Sem.run_bind,Sem.run_pure,Result.andThen_ok,List.map_toArray,List.map_cons,List.map_nil,hx,hy,hrun]
   rfl
  have hfin:=hk _ (hw.upd hi (w':=w.setRow b (cur.toList.take l++(ys.take (m - l)).map (Value.int .i64)++cur.toList.drop (l+min n2 (m - l))).toArray) ⟨rfl,rfl,rfl,(by first | exact Nat.le_refl _ | exact Nat.le_succ _),by simp⟩ fun bs hr' hnd hlt=>by
   unfold Res.own at hr' ⊢
   obtain ⟨q0',a3,n3,c3,f1,f2,f3,f4,f5⟩:=hr'
   cases f1
   rcases f5 with ⟨hc,_⟩ | ⟨b2,cur2,k1,k2,k3,k4,k5⟩
   ·omega
   ·cases k1
    rw [show hp w b=some (.cells cur E (0,0)) from g3] at k3;cases k3
    have hnew:(xs.take l++ys.take (m - l)++xs.drop (l+min n2 (m - l))).length=m:=by
     simp only [List.length_append,List.length_take,List.length_drop,← hm,← hml];omega
    refine ⟨bs,⟨?_,_,_,_,rfl,by rw [iRows,List.length_map];exact hnew.symm,f3,f4,.inr ⟨b,_,rfl,k2,setRow_heap w b cur _ E _ g3,?_,?_⟩⟩,hnd,fun x hx=>⟨by have:=hlt x hx;simpa using this,.inl hx⟩,fun k' _ hne=>setRow_other w b k' _ (fun e=>hne (by simp [k2,e]))⟩
    ·intro r' hr'
     obtain ⟨u, -,rfl⟩:=List.mem_map.1 hr';rfl
    ·simp only [List.size_toArray,List.length_append,List.length_take,List.length_drop,Array.length_toList,hlen,List.length_map]
     simp only [List.length_map,List.length_take] at hlen
     omega
    ·rw [iRows_flat] at g5 ⊢
     rw [Nat.mul_one] at g5 ⊢
     simp only [List.map_append,List.map_take,List.map_drop]
     rw [← g5]
     have hcl:cur.toList.length=c:=by rw [Array.length_toList,g4];omega
     refine List.ext_getElem? fun j=>?_
     have hyl:((ys.map (Value.int .i64)).take (m - l)).length=min n2 (m - l):=by simp [hm,Nat.min_comm]
     have hl1:(cur.toList.take l).length=l:=by rw [List.length_take,hcl];omega
     have hl2:((cur.toList.take m).take l).length=l:=by rw [List.length_take,List.length_take,hcl];omega
     have gp1:∀ A B C:List Value,A.length=l→j < l→(A++B++C)[j]? = A[j]?:=fun A B C ha hj=>by
      rw [List.append_assoc,List.getElem?_append_left (by omega)]
     have gp2:∀ A B C:List Value,A.length=l→B.length=min n2 (m - l)→¬ j < l→j - l < min n2 (m - l)→(A++B++C)[j]? = B[j - l]?:=fun A B C ha hb h1 h2=>by
      rw [List.append_assoc,List.getElem?_append_right (by omega),ha,List.getElem?_append_left (by omega)]
     have gp3:∀ A B C:List Value,A.length=l→B.length=min n2 (m - l)→¬ j < l→¬ j - l < min n2 (m - l)→(A++B++C)[j]? = C[j - (l+min n2 (m - l))]?:=fun A B C ha hb h1 h2=>by
      rw [List.getElem?_append_right (by rw [List.length_append];omega),List.length_append,ha,hb]
     by_cases hj:j < m
     ·rw [List.getElem?_take_of_lt hj]
      by_cases h1:j < l
      ·rw [gp1 _ _ _ hl1 h1,gp1 _ _ _ hl2 h1,List.getElem?_take_of_lt h1,List.getElem?_take_of_lt h1,List.getElem?_take_of_lt hj]
      ·by_cases h2:j - l < min n2 (m - l)
       ·rw [gp2 _ _ _ hl1 hyl h1 h2,gp2 _ _ _ hl2 hyl h1 h2]
       ·rw [gp3 _ _ _ hl1 hyl h1 h2,gp3 _ _ _ hl2 hyl h1 h2,List.getElem?_drop,List.getElem?_drop,List.getElem?_take_of_lt (by omega)]
     ·rw [List.getElem?_eq_none (by rw [List.length_take];omega),List.getElem?_eq_none]
      simp only [List.length_append,List.length_take,List.length_drop,hyl,hcl]
      have:=hyl
      simp only [List.length_take,List.length_map] at this
      omega
    )
  unfold Step;rw [hr];exact hfin
theorem lCopyI {E by' i l m c n2 c2:Nat} {zs:List Value} {a a2:Option Addr} {xs ys:List Int} [TL P T E 1 by' zs] (h:∀ w',Wd Γ (S.set i (.own (.slice a m c) E 1 (iRows (xs.take l++ys.take (m - l)++xs.drop (l+min n2 (m - l)))))) w'→L P n opa QQ rest (putO ρ d (.int .i64 (min n2 (m - l):Nat))) w')
  (hr2:Rd w a2 1 (iRows ys)) (hm:n2=ys.length) (h0:0 < n2) (hl:l < m) (hi:S[i]? = some (.own (.slice a m c) E 1 (iRows xs))) (hx:ev ρ x=.slice (cutA a l c 1) (m - l) (c - l)) (hy:ev ρ y=.slice a2 n2 c2) (hw:Wd Γ S w) (hd:okDst n d=true:=by exact rfl) :
  L P n opa QQ (⟨d,.call { callee:=.builtin .copy,args:=#[x,y],argTypes:=#[T,U] },ty,pos,es,none⟩::rest) ρ w:=
 L_step rfl hd (s_copyI hw hi hx hy hl hr2 hm h0 h)
end
end Mk
end
section
open Go Mk
namespace Go.Proofs.YthgighljhoneeaaGreatDoor
set_option maxHeartbeats 16000000
attribute [local irreducible] Calls
theorem pc_mul64 {k:Int} (hk:0≤k∧k < 4294967296):PC Tryz.prog 173 [.int .u64 1,.int .u64 k] (.tuple #[.int .u64 0,.int .u64 k]):=⟨fun w=>by
 have e1:bitsZ .and .u64 1 4294967295=1:=by decide +kernel
 have e2:(1:Int).fdiv (2 ^ (min (32:Int).toNat IntKind.u64.bits))=0:=by decide +kernel
 have e3:bitsZ .and .u64 k 4294967295=k:=by
  rw [bitsU ⟨by omega,by omega⟩ ⟨by omega,by omega⟩]
  have h:=Nat.and_two_pow_sub_one_eq_mod k.toNat 32
  rw [show (4294967295:Int).toNat=2 ^ 32 - 1 from rfl,h]
  have:k.toNat % 2 ^ 32=k.toNat:=Nat.mod_eq_of_lt (by omega)
  rw [this];omega
 have e4:∀ z:Int,0≤z→z < 4294967296→z.fdiv (2 ^ (min (32:Int).toNat IntKind.u64.bits))=0:=fun z h1 h2=>by
  show z.fdiv 4294967296=0
  rw [Int.fdiv_eq_ediv_of_nonneg _ (by omega)];omega
 have e5:bitsZ .and .u64 0 4294967295=0:=by decide +kernel
 have e6:IntKind.u64.wrap k=k:=wrapU (by omega) (by omega)
 have e7:IntKind.u64.wrap 0=0:=rfl
 have e8:=e4 k hk.1 hk.2
 have e9:=e4 0 (by omega) (by omega)
 refine calls_of_W Tryz.func173 rfl rfl ?_
 obtain ⟨Γ,hw⟩:∃ Γ,Wd Γ [] w:=⟨_,allG_wd w⟩
 repeat (first | refine byW ?_ | (refine byV ?_;intro w hw))
 refine ⟨_,rfl,?_,rfl⟩
 refine congrArg Ending.returned (congrArg Value.tuple ?_)
 show #[Value.int IntKind.u64 _,Value.int IntKind.u64 (IntKind.u64.wrap (1 * k))] = #[Value.int IntKind.u64 0,Value.int IntKind.u64 k]
 simp only [e1,e2,e3,e8,Int.zero_mul,Int.mul_zero,Int.one_mul,e6,e7,e9,e5,Int.add_zero]⟩
theorem pc_mul {k:Int} (hk:0≤k∧k < 4294967296):PC Tryz.prog 161 [.int .u64 1,.int .u64 k] (.tuple #[.int .u64 0,.int .u64 k]):=⟨fun w=>by
 haveI:=pc_mul64 hk
 refine calls_of_W Tryz.func161 rfl rfl ?_
 obtain ⟨Γ,hw⟩:∃ Γ,Wd Γ [] w:=⟨_,allG_wd w⟩
 repeat (first | refine byW ?_ | (refine byV ?_;intro w hw))
 refine W_cond_false rfl ?_
 repeat (first | refine byW ?_ | (refine byV ?_;intro w hw))
 exact ⟨_,rfl,rfl,rfl⟩⟩
theorem repeat_any {Γ:Gho} {S:List Res} {w:World} {a:Option Addr} {c k:Nat} {x:Int} (hk:1≤k∧k≤1000) (hw:Wd Γ (.own (.slice a 1 c) 3 1 (intRows [x])::S) w) :
  Calls Tryz.prog 135 #[.slice a 1 c,.int .i64 (k:Nat)] w fun e w'=>∃ a':Addr,e=.returned (.slice (some a') k k)∧Wd Γ (.own (.slice (some a') k k) 3 1 (intRows (List.replicate k x))::.own (.slice a 1 c) 3 1 (intRows [x])::S) w':=by
 have e1:IntKind.u64.wrap (k:Int)=k:=wrapU (by omega) (by omega)
 have e2:IntKind.i64.wrap (k:Int)=k:=wrap_i64 (by omega) (by omega)
 haveI:PC Tryz.prog 161 [.int .u64 (IntKind.u64.wrap ((1:Nat):Int)),.int .u64 (IntKind.u64.wrap (k:Int))] (.tuple #[.int .u64 0,.int .u64 k]):=by
  rw [e1];exact pc_mul ⟨by omega,by omega⟩
 refine calls_of_W Tryz.func135 rfl rfl ?_
 repeat (first | refine byW ?_ | (refine byV ?_;intro w hw))
 refine W_cond_false (by show Value.bool (decide ((k:Int) < 0))=_;rw [decide_eq_false (by omega)]) ?_
 repeat (first | refine byW ?_ | (refine byV ?_;intro w hw))
 refine W_cond rfl (fun h=>?_) (fun h=>?_)
 ·exfalso
  have h:(9223372036854775807:Int) < k:=by simpa using h
  omega
 clear h
 repeat (first | refine byW ?_ | (refine byV ?_;intro w hw))
 refine lMakeSlice (len:=k) ?_ (hx:=by show Value.int .i64 (IntKind.i64.wrap (k:Int))=_;rw [e2]) (hy:=by show Value.int .i64 (IntKind.i64.wrap (k:Int))=_;rw [e2])
 intro a7 w hw
 have hw:Wd Γ (.own (.slice (some a7) k k) 3 1 (iRows (List.replicate k 0))::.own (.slice a 1 c) 3 1 (iRows [x])::S) w:=by
  have:iRows (List.replicate k 0)=List.replicate k [.int .i64 0]:=by simp [iRows]
  rw [this];exact hw
 repeat (first | refine byW ?_ | (refine byV ?_;intro w hw))
 refine lCopyI (i:=0) (l:=0) (m:=k) (c:=k) (n2:=1) (a:=some a7) (xs:=List.replicate k 0) (ys:=[x]) (c2:=c) ?_ (hw.own_rd (i:=1) rfl) rfl (by omega) (by omega) rfl (by rw [cutA_zero];rfl) rfl hw
 intro w hw
 have hm1:min 1 (k - 0)=1:=by omega
 rw [hm1] at hw ⊢
 have hw:Wd Γ (.own (.slice (some a7) k k) 3 1 (iRows (List.replicate 1 x++List.replicate (k - 1) 0))::.own (.slice a 1 c) 3 1 (iRows [x])::S) w:=by
  have:(List.replicate k (0:Int)).take 0++[x].take (k - 0)++(List.replicate k 0).drop (0+1)=List.replicate 1 x++List.replicate (k - 1) 0:=by
   rw [List.take_zero,List.nil_append,List.take_of_length_le (by simp;omega),List.drop_replicate];rfl
  rw [this] at hw;exact hw
 repeat (first | refine byW ?_ | (refine byV ?_;intro w hw))
 refine W_loop (fun μ ρ w=>∃ j:Nat,μ+j=k∧1≤j∧Has ρ [(7,.slice (some a7) k k),(8,.int .i64 j)]∧Wd Γ (.own (.slice (some a7) k k) 3 1 (iRows (List.replicate j x++List.replicate (k - j) 0))::.own (.slice a 1 c) 3 1 (iRows [x])::S) w) (k - 1) ⟨1,by omega,by omega,⟨rfl,rfl,trivial⟩,hw⟩ ?_
 clear hw
 rintro μ ρ w ⟨j,hj,hj1,hρ,hw⟩
 rw [hρ.eq]
 clear hρ
 repeat (first | refine byW ?_ | (refine byV ?_;intro w hw))
 refine W_cond rfl (fun h=>?_) (fun h=>?_)
 ·have hjk:j < k:=by have:=of_decide_eq_true h;omega
  clear h
  have ht:min j (k - j)≤k - j∧1≤min j (k - j):=by omega
  have hnew:(List.replicate j x++List.replicate (k - j) 0).take j++(List.replicate j x).take (k - j)++(List.replicate j x++List.replicate (k - j) 0).drop (j+min j (k - j))=List.replicate (j+min j (k - j)) x++List.replicate (k - (j+min j (k - j))) 0:=by
   rw [List.take_left' (by simp),List.take_replicate,List.drop_append,List.drop_replicate,List.drop_replicate,List.length_replicate]
   rw [show j - (j+min j (k - j))=0 by omega,List.replicate_zero,List.nil_append,Nat.min_comm (k - j) j]
   rw [show k - j - (j+min j (k - j) - j)=k - (j+min j (k - j)) by omega,← List.replicate_append_replicate]
  generalize hte:min j (k - j)=t at *
  repeat (first | refine byW ?_ | (refine byV ?_;intro w hw))
  refine W_mix1 [] _ [[],[],[],[],[],[],[],[0],[],[]] [[],[],[],[],[],[],[],[0],[],[]] hw ?_
  repeat (first | refine mY ?_ | refine mP ?_ | refine mPg ?_)
  refine mS (c:=0) (v:=.int .i64 (t:Nat)) (F:=fun _=>.own (.slice (some a7) k k) 3 1 (iRows (List.replicate j x++List.replicate (k - j) 0))::.own (.slice a 1 c) 3 1 (iRows [x])::S) (fun _=>.own (.slice (some a7) k k) 3 1 (iRows (List.replicate (j+t) x++List.replicate (k - (j+t)) 0))::.own (.slice a 1 c) 3 1 (iRows [x])::S) (fun g w Y hw=>?_) ?_ (hM:=rfl)
  ·have hrd:=(hw.own_rd (i:=0) rfl).take j
   have:(iRows (List.replicate j x++List.replicate (k - j) 0)).take j=iRows (List.replicate j x):=by
    unfold iRows;rw [← List.map_take,List.take_left' (by simp)]
   rw [this] at hrd
   refine s_copyI (i:=0) (l:=j) (m:=k) (c:=k) (n2:=j) (c2:=k) (xs:=List.replicate j x++List.replicate (k - j) 0) (ys:=List.replicate j x) hw rfl rfl rfl hjk hrd (by simp) (by omega) (fun w' hw'=>⟨fun _=>by rw [hte],?_⟩)
   rw [hte,hnew] at hw'
   exact hw'
  repeat (first | refine mY ?_ | refine mP ?_ | refine mPg ?_)
  refine mEnd0 ?_
  clear hw
  intro w hw
  have hw:Wd Γ ((.own (.slice (some a7) k k) 3 1 (iRows (List.replicate (j+t) x++List.replicate (k - (j+t)) 0))::.own (.slice a 1 c) 3 1 (iRows [x])::S)++[]) w:=hw
  rw [List.append_nil] at hw
  repeat (first | refine byW ?_ | (refine byV ?_;intro w hw))
  exact ⟨μ - t,by omega,j+t,by omega,by omega,⟨rfl,by show Value.int .i64 ((j:Int)+(t:Nat))=_;rw [← Int.natCast_add],trivial⟩,hw⟩
 ·have hjk:j=k:=by have:=of_decide_eq_false h;omega
  subst hjk
  rw [Nat.sub_self,List.replicate_zero,List.append_nil] at hw
  repeat (first | refine byW ?_ | (refine byV ?_;intro w hw))
  exact ⟨_,rfl,a7,rfl,hw⟩
end Go.Proofs.YthgighljhoneeaaGreatDoor
end
section
open Go Mk
namespace Go.Proofs.YthgighljhoneeaaGreatDoor
set_option maxHeartbeats 16000000
attribute [local irreducible] Calls
def rowN (N:Nat) (c:Nat→Int):List Int:=(List.range N).map c
def mat (k N:Nat) (C:Nat→Nat→Int):List (List Int):=(List.range k).map fun u=>rowN N (C u)
def updN (C:Nat→Nat→Int) (u v:Nat) (z:Int):Nat→Nat→Int:=fun a b=>if a=u∧b=v then z else C a b
theorem rowN_len (N:Nat) (c:Nat→Int):(rowN N c).length=N:=by simp [rowN]
theorem rowN_get {N:Nat} {c:Nat→Int} {v:Nat} (h:v < N):(rowN N c)[v]? = some (c v):=by unfold rowN;rw [List.getElem?_map,List.getElem?_range h];rfl
theorem rowN_set {N:Nat} {C:Nat→Nat→Int} {u v:Nat} {z:Int}:(rowN N (C u)).set v z=rowN N (updN C u v z u):=by
 refine List.ext_getElem? fun i=>?_
 rw [List.getElem?_set]
 by_cases h:i < N
 ·rw [rowN_get h,rowN_get h,rowN_len]
  unfold updN
  by_cases e:v=i
  ·rw [if_pos e,if_pos (by omega),if_pos ⟨rfl,e.symm⟩]
  ·rw [if_neg e,if_neg (fun hh=>e hh.2.symm)]
 ·rw [List.getElem?_eq_none (by rw [rowN_len];omega),List.getElem?_eq_none (by rw [rowN_len];omega),rowN_len]
  split
  ·rw [if_neg (by omega)]
  ·rfl
theorem rowN_congr {N:Nat} {c c':Nat→Int} (h:∀ v,v < N→c v=c' v):rowN N c=rowN N c':=List.map_congr_left fun v hv=>h v (by simpa using hv)
theorem mat_len (k N:Nat) (C:Nat→Nat→Int):(mat k N C).length=k:=by simp [mat]
theorem mat_get {k N u:Nat} {C:Nat→Nat→Int} (h:u < k):(mat k N C)[u]? = some (rowN N (C u)):=by unfold mat;rw [List.getElem?_map,List.getElem?_range h];rfl
theorem mat_set {k N u v:Nat} {C:Nat→Nat→Int} {z:Int}:(mat k N C).set u (rowN N (updN C u v z u))=mat k N (updN C u v z):=by
 refine List.ext_getElem? fun i=>?_
 rw [List.getElem?_set]
 by_cases h:i < k
 ·rw [mat_get h,mat_get h,mat_len]
  by_cases e:u=i
  ·subst e;rw [if_pos rfl,if_pos h]
  ·rw [if_neg e]
   congr 1
   exact rowN_congr fun v _=>by unfold updN;rw [if_neg (fun hh=>e hh.1.symm)]
 ·rw [List.getElem?_eq_none (by rw [mat_len];omega),List.getElem?_eq_none (by rw [mat_len];omega),mat_len]
  split
  ·rw [if_neg (by omega)]
  ·rfl
theorem mat_congr {k N:Nat} {C C':Nat→Nat→Int} (h:∀ u v,u < k→v < N→C u v=C' u v):mat k N C=mat k N C':=List.map_congr_left fun u hu=>rowN_congr fun v hv=>h u v (by simpa using hu) hv
theorem mat_succ {k N:Nat} {C:Nat→Nat→Int}:mat (k+1) N C=mat k N C++[rowN N (C k)]:=by unfold mat;rw [List.range_succ];simp
def innM (hs:List Value) (M:List (List Int)):List (Value × List (List Value)):=(hs.zip M).map fun p=>(p.1,intRows p.2)
def hdrs (hs:List Value):List (List Value):=hs.map fun h=>[h]
theorem innM_get {hs:List Value} {M:List (List Int)} {k:Nat} {h:Value} {r:List Int} (h1:hs[k]? = some h) (h2:M[k]? = some r):(innM hs M)[k]? = some (h,intRows r):=by
 unfold innM
 rw [List.getElem?_map,zip_get h1 h2];rfl
theorem innM_set {hs:List Value} {M:List (List Int)} {k:Nat} {h:Value} {r:List Int} (h1:hs[k]? = some h):(innM hs M).set k (h,intRows r)=innM hs (M.set k r):=by
 have:=zip_set (f:=fun p:Value × List Int=>(p.1,intRows p.2)) (xs:=hs) (ys:=M) (k:=k) (x:=h) (y:=r)
 rw [set_same h1] at this
 exact this
theorem innM_snoc {hs:List Value} {M:List (List Int)} {h:Value} {r:List Int} (hl:hs.length=M.length):innM (hs++[h]) (M++[r])=innM hs M++[(h,intRows r)]:=by
 unfold innM;rw [List.zip_append hl,List.map_append];rfl
theorem hdrs_get {hs:List Value} {k:Nat} {h:Value} (h1:hs[k]? = some h):(hdrs hs)[k]? = some [h]:=by unfold hdrs;rw [List.getElem?_map,h1];rfl
structure MatF (Γ:Gho) (v:Value) (M:List (List Int)):Prop where
 ex:∃ hs,hs.length=M.length∧RepS Γ v 1 (hdrs hs)∧∀ (u:Nat) (h:Value) (r:List Int),hs[u]? = some h→M[u]? = some r→RepS Γ h 1 (intRows r)
theorem MatF.mono {Γ Γ':Gho} {v:Value} {M:List (List Int)} (h:MatF Γ v M) (hl:Γ.le Γ'):MatF Γ' v M:=by
 obtain ⟨hs,h1,h2,h3⟩:=h.ex
 exact ⟨hs,h1,h2.mono hl,fun u a r q1 q2=>(h3 u a r q1 q2).mono hl⟩
theorem MatF.row {Γ:Gho} {a:Option Addr} {n c:Nat} {M:List (List Int)} (h:MatF Γ (.slice a n c) M):n=M.length∧∀ (u:Nat) (r:List Int),M[u]? = some r→∃ (a':Option Addr) (n' c':Nat),n'=r.length∧RepS Γ (.slice a' n' c') 1 (intRows r)∧∀ (S:List Res) (w:World),Wd Γ S w→Rd w a 1 ([]:List (List Value))∨∃ hs,Rd w a 1 (hdrs hs)∧(hdrs hs)[u]? = some [.slice a' n' c']:=by
 obtain ⟨hs,h1,h2,h3⟩:=h.ex
 obtain ⟨q1, -, -⟩:=rep_facts h2
 refine ⟨by rw [q1];unfold hdrs;simpa using h1,fun u r hr=>?_⟩
 obtain ⟨hv,hhv⟩:=get_lt (l:=hs) (k:=u) (by have:=(List.getElem?_eq_some_iff.1 hr).1;omega)
 have h4:=h3 u hv r hhv hr
 obtain ⟨a',n',c',rfl,hn, -, -⟩:=h4.shape
 exact ⟨a',n',c',by simpa [intRows] using hn,h4,fun S w hw=>.inr ⟨hs,h2.rd hw,hdrs_get hhv⟩⟩
theorem MatF.at {Γ:Gho} {a:Option Addr} {n c:Nat} {M:List (List Int)} (h:MatF Γ (.slice a n c) M) {u:Nat} {r:List Int} (hr:M[u]? = some r):∃ (a':Option Addr) (n' c':Nat) (hs:List Value),n'=r.length∧RepS Γ (.slice a' n' c') 1 (intRows r)∧RepS Γ (.slice a n c) 1 (hdrs hs)∧(hdrs hs)[u]? = some [.slice a' n' c']:=by
 obtain ⟨hs,h1,h2,h3⟩:=h.ex
 obtain ⟨hv,hhv⟩:=get_lt (l:=hs) (k:=u) (by have:=(List.getElem?_eq_some_iff.1 hr).1;omega)
 have h4:=h3 u hv r hhv hr
 obtain ⟨a',n',c',rfl,hn, -, -⟩:=h4.shape
 exact ⟨a',n',c',hs,by simpa [intRows] using hn,h4,h2,hdrs_get hhv⟩
theorem mat_freeze {Γ:Gho} {S:List Res} {w:World} {v:Value} {hs:List Value} {M:List (List Int)} (hl:hs.length=M.length) (hw:Wd Γ (.own v 29 1 (hdrs hs)::(inn 3 1 (innM hs M)++S)) w) :
  ∃ Γ',Γ.le Γ'∧MatF Γ' v M∧Wd Γ' S w:=by
 obtain ⟨Γ1,e1,rp,hw⟩:=hw.freeze
 unfold inn at hw
 obtain ⟨Γ2,e2,hb,hw⟩:=freeze_list (f:=fun p:Value × List (List Value)=>p.1) (g:=fun p=>p.2) (innM hs M) hw
 exact ⟨Γ2,e1.trans e2,⟨hs,hl,rp.mono e2,fun u h r h1 h2=>hb _ (List.mem_of_getElem? (innM_get h1 h2))⟩,hw⟩
structure GP (n cap first:Nat) (a:Nat→Int→Int) (x:List Int) (d v:Nat) (W V:Nat→Nat→Int):Prop where
 real:∀ u v,u≤n→v≤n→W u v < farV →
  (u < n∧v=n∧x.count (u:Int) < cap∧W u v=0∧V u v = -1)∨(u=n∧v < n∧0 < x.count (v:Int)∧W u v=0∧V u v = -1) ∨
  (u < n∧v < n∧u≠v∧∃ d:Nat,first≤d∧d < x.length∧V u v=d∧atI x d=u∧W u v=a d v - a d u)
 dev:∀ d' u z:Nat,first≤d'→(d' < d∨(d'=d∧z < v))→d' < x.length→atI x d'=(u:Int)→u < n→z < n→u≠z→W u z≤a d' z - a d' u
 out:∀ u,u < n→x.count (u:Int) < cap→W u n≤0
 inn:∀ v,v < n→0 < x.count (v:Int)→W n v≤0
section
variable {n cap first d v:Nat} {a:Nat→Int→Int} {x:List Int} {W V:Nat→Nat→Int}
theorem GP.done (h:GP n cap first a x x.length 0 W V):GOk n cap first a x W V:=⟨h.real,fun d u v h1 h2=>h.dev d u v h1 (.inl h2) h2,h.out,h.inn⟩
theorem GP.row (h:GP n cap first a x d n W V):GP n cap first a x (d+1) 0 W V:=
 ⟨h.real,fun d' u z h1 h2 h3 h4 h5 h6 h7=>h.dev d' u z h1 (by omega) h3 h4 h5 h6 h7,h.out,h.inn⟩
theorem GP.pass (h:GP n cap first a x d 0 W V) (hx:atI x d < 0):GP n cap first a x (d+1) 0 W V:=
 ⟨h.real,fun d' u z h1 h2 h3 h4 h5 h6 h7=>h.dev d' u z h1 (by
  by_cases e:d'=d
  ·subst e;omega
  ·omega) h3 h4 h5 h6 h7,h.out,h.inn⟩
theorem GP.skip {u:Nat} (h:GP n cap first a x d v W V) (hx:atI x d=(u:Int)) (hc:¬ (u≠v∧a d v - a d u < W u v)):GP n cap first a x d (v+1) W V:=
 ⟨h.real,fun d' u' z h1 h2 h3 h4 h5 h6 h7=>by
  by_cases e:d'=d∧z=v
  ·obtain ⟨rfl,rfl⟩:=e
   have:u'=u:=by omega
   subst this;omega
  ·exact h.dev d' u' z h1 (by omega) h3 h4 h5 h6 h7,h.out,h.inn⟩
theorem GP.take {u:Nat} (h:GP n cap first a x d v W V) (hf:first≤d) (hd:d < x.length) (hx:atI x d=(u:Int)) (hu:u < n) (hv:v < n) (hc:u≠v∧a d v - a d u < W u v) :
  GP n cap first a x d (v+1) (updN W u v (a d v - a d u)) (updN V u v d):=by
 refine ⟨fun p q hp hq hw=>?_,fun d' p z h1 h2 h3 h4 h5 h6 h7=>?_,fun p hp hh=>?_,fun p hp hh=>?_⟩
 ·by_cases e:p=u∧q=v
  ·obtain ⟨rfl,rfl⟩:=e
   exact .inr (.inr ⟨hu,hv,hc.1,d,hf,hd,by unfold updN;rw [if_pos ⟨rfl,rfl⟩],hx,by unfold updN;rw [if_pos ⟨rfl,rfl⟩]⟩)
  ·have e1:updN W u v (a d v - a d u) p q=W p q:=by unfold updN;rw [if_neg e]
   have e2:updN V u v d p q=V p q:=by unfold updN;rw [if_neg e]
   rw [e1] at hw
   rw [e1,e2]
   exact h.real p q hp hq hw
 ·unfold updN
  by_cases e:p=u∧z=v
  ·rw [if_pos e]
   obtain ⟨rfl,rfl⟩:=e
   by_cases e2:d'=d
   ·subst e2;omega
   ·have:=h.dev d' p z h1 (by omega) h3 h4 h5 h6 h7;omega
  ·rw [if_neg e]
   by_cases e3:d'=d∧z=v
   ·obtain ⟨rfl,rfl⟩:=e3
    have:p=u:=by omega
    exact absurd ⟨this,rfl⟩ e
   ·exact h.dev d' p z h1 (by omega) h3 h4 h5 h6 h7
 ·unfold updN;rw [if_neg (by omega)];exact h.out p hp hh
 ·unfold updN;rw [if_neg (by omega)];exact h.inn p hp hh
def freeC (n cap:Nat) (x:List Int) (u v:Nat):Int:=if (u < n∧v=n∧x.count (u:Int) < cap)∨(u=n∧v < n∧0 < x.count (v:Int)) then 0 else farV
theorem GP.start:GP n cap first a x first 0 (freeC n cap x) fun _ _=>-1:=by
 refine ⟨fun u v hu hv hw=>?_,fun d' u z h1 h2=>by omega,fun u hu hc=>?_,fun v hv hc=>?_⟩
 ·unfold freeC at hw ⊢
  by_cases e:(u < n∧v=n∧x.count (u:Int) < cap)∨(u=n∧v < n∧0 < x.count (v:Int))
  ·rw [if_pos e]
   rcases e with ⟨h1,h2,h3⟩ | ⟨h1,h2,h3⟩
   ·exact .inl ⟨h1,h2,h3,rfl,rfl⟩
   ·exact .inr (.inl ⟨h1,h2,h3,rfl,rfl⟩)
  ·rw [if_neg e] at hw;exact absurd hw (Int.lt_irrefl _)
 ·unfold freeC;rw [if_pos (.inl ⟨hu,rfl,hc⟩)];exact Int.le_refl _
 ·unfold freeC;rw [if_pos (.inr ⟨rfl,hv,hc⟩)];exact Int.le_refl _
end
end Go.Proofs.YthgighljhoneeaaGreatDoor
end
section
open Go Mk
namespace Go.Proofs.YthgighljhoneeaaGreatDoor
set_option maxHeartbeats 64000000
attribute [local irreducible] Calls
structure AsgF (Γ:Gho) (bA n cap:Nat) (A:List (List Int)) (x:List Int):Prop where
 ex:∃ (va:Option Addr) (vn vc:Nat) (xa:Option Addr) (xn xc:Nat) (la:Option Addr) (ln lc:Nat),ImB Γ bA #[.slice va vn vc,.int .i64 cap,.slice xa xn xc,.slice la ln lc] 105∧MatF Γ (.slice va vn vc) A∧RepS Γ (.slice xa xn xc) 1 (intRows x)∧RepS Γ (.slice la ln lc) 1 (intRows (rowN n fun u=>(x.count (u:Int):Int)))
def aF (A:List (List Int)) (i:Nat) (z:Int):Int:=(A.getD i []).getD z.toNat 0
structure CostM (n:Nat) (A:List (List Int)):Prop where
 row:∀ r∈A,r.length=n
 rng:∀ r∈A,∀ z∈r,0≤z∧z≤1000000000
theorem CostM.get {n:Nat} {A:List (List Int)} (h:CostM n A) {i:Nat} (hi:i < A.length):∃ r,A[i]? = some r∧r.length=n∧∀ z:Nat,z < n→r[z]? = some (aF A i z)∧0≤aF A i z∧aF A i z≤1000000000:=by
 have hm:=List.getElem_mem hi
 refine ⟨A[i],List.getElem?_eq_getElem hi,h.row _ hm,fun z hz=>?_⟩
 have hl:=h.row _ hm
 have he:aF A i z=A[i][z]'(by omega):=by
  unfold aF
  simp only [List.getD_eq_getElem?_getD,List.getElem?_eq_getElem hi,Option.getD_some,Int.toNat_natCast,List.getElem?_eq_getElem (show z < A[i].length by omega)]
 rw [he]
 exact ⟨List.getElem?_eq_getElem _,h.rng _ hm _ (List.getElem_mem _)⟩
def cstC (n cap:Nat) (x:List Int) (u v:Nat):Nat→Nat→Int:=fun a b=>if a < u∨(a=u∧b < v) then freeC n cap x a b else farV
theorem cst_row {n cap u:Nat} {x:List Int}:mat u (n+1) (freeC n cap x)++[rowN (n+1) fun _=>farV]=mat (u+1) (n+1) (cstC n cap x u 0):=by
 rw [mat_succ]
 congr 1
 ·exact mat_congr fun a b ha hb=>by unfold cstC;rw [if_pos (.inl ha)]
 ·congr 1
  exact rowN_congr fun b hb=>by unfold cstC;rw [if_neg (by omega)]
theorem cst_end {n cap u:Nat} {x:List Int}:mat (u+1) (n+1) (cstC n cap x u (n+1))=mat (u+1) (n+1) (freeC n cap x):=mat_congr fun a b ha hb=>by unfold cstC;rw [if_pos (by omega)]
theorem cst_pass {n cap u v:Nat} {x:List Int} (h:freeC n cap x u v=farV):mat (u+1) (n+1) (cstC n cap x u v)=mat (u+1) (n+1) (cstC n cap x u (v+1)):=mat_congr fun a b ha hb=>by
 unfold cstC
 by_cases e:a < u∨(a=u∧b < v)
 ·rw [if_pos e,if_pos (show a < u∨(a=u∧b < v+1) by omega)]
 ·rw [if_neg e]
  by_cases e2:a=u∧b=v
  ·rw [if_pos (show a < u∨(a=u∧b < v+1) by omega),e2.1,e2.2,h]
  ·rw [if_neg (show ¬ (a < u∨(a=u∧b < v+1)) by omega)]
theorem cst_zero {n cap u v:Nat} {x:List Int} (h:freeC n cap x u v=0):mat (u+1) (n+1) (updN (cstC n cap x u v) u v 0)=mat (u+1) (n+1) (cstC n cap x u (v+1)):=mat_congr fun a b ha hb=>by
 unfold updN cstC
 by_cases e2:a=u∧b=v
 ·rw [if_pos e2,if_pos (show a < u∨(a=u∧b < v+1) by omega),e2.1,e2.2,h]
 ·rw [if_neg e2]
  by_cases e:a < u∨(a=u∧b < v)
  ·rw [if_pos e,if_pos (show a < u∨(a=u∧b < v+1) by omega)]
  ·rw [if_neg e,if_neg (show ¬ (a < u∨(a=u∧b < v+1)) by omega)]
theorem rep_row {k:Nat} {z:Int}:List.replicate k z=rowN k fun _=>z:=by
 refine List.ext_getElem? fun i=>?_
 rw [List.getElem?_replicate]
 by_cases h:i < k
 ·rw [if_pos h,rowN_get h]
 ·rw [if_neg h,List.getElem?_eq_none (by rw [rowN_len];omega)]
theorem inn_snoc {Γ:Gho} {A S:List Res} {w:World} {hs:List Value} {M:List (List Int)} {h:Value} {r:List Int} (hl:hs.length=M.length) (hw:Wd Γ (.own h 3 1 (intRows r)::(A++(inn 3 1 (innM hs M)++S))) w) :
  Wd Γ (A++(inn 3 1 (innM (hs++[h]) (M++[r]))++S)) w:=by
 rw [innM_snoc hl]
 unfold inn at hw ⊢
 rw [List.map_append]
 refine hw.rot.perm (List.Perm.append_left A ?_)
 rw [List.append_assoc]
 exact List.perm_middle.symm
theorem row_open {Γ:Gho} {A S:List Res} {w:World} {hs:List Value} {k N u:Nat} {C:Nat→Nat→Int} {h:Value} (hl:hs[u]? = some h) (hu:u < k) (hw:Wd Γ (A++(inn 3 1 (innM hs (mat k N C))++S)) w) :
  Wd Γ (.own h 3 1 (intRows (rowN N (C u)))::(A++(inn 3 1 ((innM hs (mat k N C)).eraseIdx u)++S))) w:=inn_openA (innM_get hl (mat_get hu)) hw
theorem row_close {Γ:Gho} {A S:List Res} {w:World} {hs:List Value} {k N u v:Nat} {z:Int} {C:Nat→Nat→Int} {h:Value} (hl:hs[u]? = some h) (hu:u < k) (hk:hs.length=k)
  (hw:Wd Γ (.own h 3 1 ((intRows (rowN N (C u))).set v [.int .i64 z])::(A++(inn 3 1 ((innM hs (mat k N C)).eraseIdx u)++S))) w):Wd Γ (A++(inn 3 1 (innM hs (mat k N (updN C u v z)))++S)) w:=by
 have e:(intRows (rowN N (C u))).set v [.int .i64 z]=intRows (rowN N (updN C u v z u)):=by
  rw [← rowN_set]
  unfold intRows
  rw [List.map_set]
 rw [e] at hw
 have hlt:u < (innM hs (mat k N C)).length:=(List.getElem?_eq_some_iff.1 (innM_get hl (mat_get hu))).1
 have:=inn_closeA (q:=(h,intRows (rowN N (updN C u v z u)))) hlt hw
 rw [innM_set hl,mat_set] at this
 exact this
theorem row_back {Γ:Gho} {A S:List Res} {w:World} {hs:List Value} {k N u:Nat} {C:Nat→Nat→Int} {h:Value} (hl:hs[u]? = some h) (hu:u < k)
  (hw:Wd Γ (.own h 3 1 (intRows (rowN N (C u)))::(A++(inn 3 1 ((innM hs (mat k N C)).eraseIdx u)++S))) w):Wd Γ (A++(inn 3 1 (innM hs (mat k N C))++S)) w:=by
 have hg:=innM_get hl (mat_get (N:=N) (C:=C) hu)
 have:=inn_closeA (q:=(h,intRows (rowN N (C u)))) (List.getElem?_eq_some_iff.1 hg).1 hw
 rw [set_same hg] at this
 exact this
set_option maxRecDepth 8000 in
theorem graph_core {Γ:Gho} {bA n cap first:Nat} {A:List (List Int)} {x:List Int} (hF:AsgF Γ bA n cap A x) (hn:n≤64) (hC:CostM n A) (hAl:A.length=x.length) (hx:∀ v∈x, -1≤v∧v < n) (hl:x.length≤1000) (hfi:first≤x.length) {S:List Res} {w:World} (hw:Wd Γ S w) :
  Calls Tryz.prog 84 #[.pointer (some ⟨bA,0,none⟩),.int .i64 (first:Nat)] w fun e w'=>∃ (dv cv:Value) (hd hc:List Value) (W V:Nat→Nat→Int),e=.returned (.agg #[dv,cv])∧hd.length=n+1∧hc.length=n+1∧GP n cap first (aF A) x x.length 0 W V ∧
   Wd Γ (.own dv 29 1 (hdrs hd)::.own cv 29 1 (hdrs hc)::(inn 3 1 (innM hc (mat (n+1) (n+1) W))++(inn 3 1 (innM hd (mat (n+1) (n+1) V))++S))) w':=by
 obtain ⟨va,vn,vc,xa,xn,xc,la,ln,lc,hB,hM,rx,rl⟩:=hF.ex
 obtain ⟨hxn,hxc,hxm⟩:=rep_facts rx
 obtain ⟨hln,hlc,hlm⟩:=rep_facts rl
 simp only [intRows,List.length_map,rowN_len] at hxn hln
 have hcl:∀ u:Nat,u < n→(intRows (rowN n fun u=>(x.count (u:Int):Int)))[u]? = some [.int .i64 (x.count (u:Int):Nat)]:=fun u hu=>by simp [intRows,rowN_get hu]
 refine calls_of_WC Tryz.func84 rfl rfl ?_
 repeat (first | refine byW ?_ | (refine byV ?_;intro w hw))
 refine lAlloc ?_
 intro b4 w hw
 repeat (first | refine byW ?_ | (refine byV ?_;intro w hw))
 refine lY (v:=.slice la ln lc) ?_ (hy:=y_l1m hw rfl rfl)
 repeat (first | refine byW ?_ | (refine byV ?_;intro w hw))
 refine lAlloc ?_
 intro b6 w hw
 have hw:=Wd.addNil (a:=none) (E:=29) (sz:=1) hw
 have hw:=Wd.addNil (a:=none) (E:=29) (sz:=1) hw
 have hw:Wd Γ (.blk b6 (.cells #[.slice none 0 0,.slice none 0 0] 129)::.own (.slice none 0 0) 29 1 (hdrs [])::.own (.slice none 0 0) 29 1 (hdrs [])::.blk b4 (.cells #[.slice none 0 0,.slice none 0 0] 129)::(inn 3 1 (innM [] (mat 0 (n+1) (freeC n cap x)))++(inn 3 1 (innM [] (mat 0 (n+1) (fun _ _=>-1)))++S))) w:=hw.ps [1,1,2]
 have hln:=hln.symm
 subst hln
 repeat (first | refine byW ?_ | (refine byV ?_;intro w hw))
 refine W_loop (fun μ ρ w=>∃ (u:Nat) (dv cv:Value) (hd hc:List Value),μ+u=n+1∧hd.length=u∧hc.length=u∧Has ρ [(0,.pointer (some ⟨bA,0,none⟩)),(1,.int .i64 first),(4,.pointer (some ⟨b4,0,none⟩)),(5,.int .i64 n),(6,.pointer (some ⟨b6,0,none⟩)),(19,.int .i64 ((n:Int)+1)),(20,.int .i64 u)]∧Wd Γ (.blk b6 (.cells #[dv,cv] 129)::.own (dv) 29 1 (hdrs hd)::.own (cv) 29 1 (hdrs hc)::.blk b4 (.cells #[.slice none 0 0,.slice none 0 0] 129)::(inn 3 1 (innM hc (mat u (n+1) (freeC n cap x)))++(inn 3 1 (innM hd (mat u (n+1) (fun _ _=>-1)))++S))) w) (n+1) ⟨0,.slice none 0 0,.slice none 0 0,[],[],by omega,rfl,rfl,⟨rfl,rfl,rfl,rfl,rfl,rfl,rfl,trivial⟩,hw⟩ ?_
 clear hw
 rintro μ ρ w ⟨u,dv,cv,hd,hc,hμ,hhd,hhc,hρ,hw⟩
 rw [hρ.eq]
 clear hρ
 obtain ⟨da,dn,dc,rfl,hdn,hdc, -⟩:=hw.own_shape (i:=1) rfl
 obtain ⟨ca,cn,cc,rfl,hcn,hcc, -⟩:=hw.own_shape (i:=2) rfl
 simp only [hdrs,List.length_map] at hdn hcn
 repeat (first | refine byW ?_ | (refine byV ?_;intro w hw))
 refine W_cond rfl (fun h=>?_) (fun h=>?_)
 ·have hun:u < n+1:=by have:=of_decide_eq_true h;omega
  clear h
  repeat (first | refine byW ?_ | (refine byV ?_;intro w hw))
  obtain ⟨T,hT⟩:∃ T,T=(inn 3 1 (innM hc (mat u (n+1) (freeC n cap x)))++(inn 3 1 (innM hd (mat u (n+1) (fun _ _=>-1)))++S)):=⟨_,rfl⟩
  rw [← hT] at hw
  refine W_mixed [] [fun _=>[],fun _=>.blk b6 (.cells #[.slice da dn dc,.slice ca cn cc] 129)::.own (.slice da dn dc) 29 1 (hdrs hd)::.own (.slice ca cn cc) 29 1 (hdrs hc)::.blk b4 (.cells #[.slice none 0 0,.slice none 0 0] 129)::T] [[],[],[0],[],[],[0],[0],[0,1],[],[0]] [[],[1],[0],[],[],[0],[0],[0,1],[],[0]] [[25,28,29,30],[]] (by have:=hw;simpa [List.range,List.range.loop,ML] using this) ?_
  repeat (first | refine mY ?_ | refine mP ?_ | refine mPg ?_)
  refine mS (c:=0) (v:=undef) (F:=fun _=>[]) (fun g=>[.own (g 25) 3 1 (intRows [-1])]) (fun g w Y hw=>s_buildSlice (rws:=intRows [-1]) hw rfl rfl rfl (by simp [intRows]) (by decide) fun a w' hw'=>⟨(fun h=>by cases h),hw'⟩) ?_
  repeat (first | refine mY ?_ | refine mP ?_ | refine mPg ?_)
  refine mCallG (c:=0) (F:=fun g=>[.own (g 25) 3 1 (intRows [-1])]) (fun g=>[.own (g 28) 3 1 (intRows (List.replicate (n+1) (-1)))]) (fun g=>[g 25,.int .i64 ((n:Int)+1)]) (fun g w Y hw=>?_) ?_
  ·have hw:Wd Γ (.own (ovr [25,28,29,30] g noFr 25) 3 1 (intRows [-1])::([]++Y)) w:=hw
   obtain ⟨p1,p2,p3,hg,e1, -, -⟩:=hw.own_shape (i:=0) rfl
   rw [hg] at hw
   have e1:p2=1:=e1
   subst e1
   show Calls _ _ #[ovr [25,28,29,30] g noFr 25,.int .i64 ((n+1:Nat):Int)] w _
   rw [hg]
   refine (repeat_any (k:=n+1) ⟨by omega,by omega⟩ hw).mono fun e w' hq=>?_
   obtain ⟨a',rfl,hw'⟩:=hq
   exact ⟨_,rfl,hw'.ds [1]⟩
  refine mS (c:=0) (v:=undef) (F:=fun g=>[.own (g 28) 3 1 (intRows (List.replicate (n+1) (-1)))]) (fun g=>[.own (g 29) 29 1 (hdrs [g 28]),.own (g 28) 3 1 (intRows (List.replicate (n+1) (-1)))]) (fun g w Y hw=>?_) ?_
  ·have hw:Wd Γ (.own (ovr [25,28,29,30] g noFr 28) 3 1 (intRows (List.replicate (n+1) (-1)))::([]++Y)) w:=hw
   obtain ⟨p1,p2,p3,hg,e1, -, -⟩:=hw.own_shape (i:=0) rfl
   refine s_buildSlice (rws:=hdrs [.slice p1 p2 p3]) hw (by show fillL _ _ [(0,ovr [25,28,29,30] g noFr 28)]=_;rw [hg];rfl) rfl rfl (by simp [hdrs]) (by decide) fun a w' hw'=>⟨(fun h=>by cases h),?_⟩
   show Wd Γ (.own (.slice (some a) 1 1) 29 1 (hdrs [ovr [25,28,29,30] g noFr 28])::.own (ovr [25,28,29,30] g noFr 28) 3 1 (intRows (List.replicate (n+1) (-1)))::([]++Y)) w'
   rw [hg] at hw' ⊢
   exact hw'
  refine mS2 (c:=0) (c2:=1) (v:=undef) (F:=fun g=>[.own (g 29) 29 1 (hdrs [g 28]),.own (g 28) 3 1 (intRows (List.replicate (n+1) (-1)))]) (G:=fun _=>.blk b6 (.cells #[.slice da dn dc,.slice ca cn cc] 129)::.own (.slice da dn dc) 29 1 (hdrs hd)::.own (.slice ca cn cc) 29 1 (hdrs hc)::.blk b4 (.cells #[.slice none 0 0,.slice none 0 0] 129)::T) (fun g=>.own (g 28) 3 1 (intRows (List.replicate (n+1) (-1)))::.blk b6 (.cells #[.slice da dn dc,.slice ca cn cc] 129)::.own (g 30) 29 1 (hdrs hd++hdrs [g 28])::.own (.slice ca cn cc) 29 1 (hdrs hc)::.blk b4 (.cells #[.slice none 0 0,.slice none 0 0] 129)::T) (fun _=>[]) (fun g w Y hw=>?_) ?_
  ·have hw:Wd Γ (.own (ovr [25,28,29,30] g noFr 29) 29 1 (hdrs [ovr [25,28,29,30] g noFr 28])::.own (ovr [25,28,29,30] g noFr 28) 3 1 (intRows (List.replicate (n+1) (-1)))::((.blk b6 (.cells #[.slice da dn dc,.slice ca cn cc] 129)::.own (.slice da dn dc) 29 1 (hdrs hd)::.own (.slice ca cn cc) 29 1 (hdrs hc)::.blk b4 (.cells #[.slice none 0 0,.slice none 0 0] 129)::T)++([]++Y))) w:=hw
   obtain ⟨p1,p2,p3,hg1,e1, -, -⟩:=hw.own_shape (i:=0) rfl
   obtain ⟨q1,q2,q3,hg2, -, -, -⟩:=hw.own_shape (i:=1) rfl
   rw [hg1,hg2] at hw
   have e1:p2=1:=e1
   subst e1
   refine s_append (i:=3) (rows2:=hdrs [.slice q1 q2 q3]) hw rfl hg1 rfl (hw.own_rd (i:=0) rfl) rfl (by simp [hdrs,Value.oneCell']) (by omega) (by omega) fun v' w' hw'=>⟨(fun h=>by cases h),?_⟩
   have hw':=hw'.ds [0]
   show Wd Γ (.own (ovr [25,28,29,30] g noFr 28) 3 1 (intRows (List.replicate (n+1) (-1)))::((.blk b6 (.cells #[.slice da dn dc,.slice ca cn cc] 129)::.own (v') 29 1 (hdrs hd++hdrs [ovr [25,28,29,30] g noFr 28])::.own (.slice ca cn cc) 29 1 (hdrs hc)::.blk b4 (.cells #[.slice none 0 0,.slice none 0 0] 129)::T)++([]++Y))) w'
   rw [hg2]
   exact hw'
  repeat (first | refine mY ?_ | refine mP ?_ | refine mPg ?_)
  refine mS (c:=0) (v:=undef) (F:=fun g=>.own (g 28) 3 1 (intRows (List.replicate (n+1) (-1)))::.blk b6 (.cells #[.slice da dn dc,.slice ca cn cc] 129)::.own (g 30) 29 1 (hdrs hd++hdrs [g 28])::.own (.slice ca cn cc) 29 1 (hdrs hc)::.blk b4 (.cells #[.slice none 0 0,.slice none 0 0] 129)::T) (fun g=>.own (g 28) 3 1 (intRows (List.replicate (n+1) (-1)))::.blk b6 (.cells #[g 30,.slice ca cn cc] 129)::.own (g 30) 29 1 (hdrs hd++hdrs [g 28])::.own (.slice ca cn cc) 29 1 (hdrs hc)::.blk b4 (.cells #[.slice none 0 0,.slice none 0 0] 129)::T) (fun g w Y hw=>?_) ?_
  ·have hw:Wd Γ (.own (ovr [25,28,29,30] g noFr 28) 3 1 (intRows (List.replicate (n+1) (-1)))::((.blk b6 (.cells #[.slice da dn dc,.slice ca cn cc] 129)::.own (ovr [25,28,29,30] g noFr 30) 29 1 (hdrs hd++hdrs [ovr [25,28,29,30] g noFr 28])::.own (.slice ca cn cc) 29 1 (hdrs hc)::.blk b4 (.cells #[.slice none 0 0,.slice none 0 0] 129)::T)++([]++Y))) w:=hw
   obtain ⟨p1,p2,p3,hg, -, -, -⟩:=hw.own_shape (i:=2) rfl
   rw [hg] at hw
   refine s_store (n:=1) (o:=0+0) (vs:=[.slice p1 p2 p3]) (i:=1) (TSz.h (P:=Tryz.prog) (T:=103)) hw rfl hg rfl rfl (by simp [Value.oneCell']) rfl (by simp) fun w' hw'=>⟨fun _=>rfl,?_⟩
   show Wd Γ (.own (ovr [25,28,29,30] g noFr 28) 3 1 (intRows (List.replicate (n+1) (-1)))::((.blk b6 (.cells #[ovr [25,28,29,30] g noFr 30,.slice ca cn cc] 129)::.own (ovr [25,28,29,30] g noFr 30) 29 1 (hdrs hd++hdrs [ovr [25,28,29,30] g noFr 28])::.own (.slice ca cn cc) 29 1 (hdrs hc)::.blk b4 (.cells #[.slice none 0 0,.slice none 0 0] 129)::T)++([]++Y))) w'
   rw [hg]
   exact hw'
  refine mEnd fun w g hw=>?_
  have hw:Wd Γ ((.own (ovr [25,28,29,30] g noFr 28) 3 1 (intRows (List.replicate (n+1) (-1)))::.blk b6 (.cells #[ovr [25,28,29,30] g noFr 30,.slice ca cn cc] 129)::.own (ovr [25,28,29,30] g noFr 30) 29 1 (hdrs hd++hdrs [ovr [25,28,29,30] g noFr 28])::.own (.slice ca cn cc) 29 1 (hdrs hc)::.blk b4 (.cells #[.slice none 0 0,.slice none 0 0] 129)::T)++[]) w:=hw
  generalize ovr [25,28,29,30] g noFr 28=h1 at hw
  generalize ovr [25,28,29,30] g noFr 30=dv2 at hw
  rw [List.append_nil,hT,show hdrs hd++hdrs [h1]=hdrs (hd++[h1]) by simp [hdrs],rep_row] at hw
  obtain ⟨da2,dn2,dc2,hdv2,hdn2,hdc2, -⟩:=hw.own_shape (i:=2) rfl
  subst hdv2
  clear hT
  have hw:Wd Γ (.own h1 3 1 (intRows (rowN (n+1) fun _=>-1))::([.blk b6 (.cells #[.slice da2 dn2 dc2,.slice ca cn cc] 129),.own (.slice da2 dn2 dc2) 29 1 (hdrs (hd++[h1])),.own (.slice ca cn cc) 29 1 (hdrs hc),.blk b4 (.cells #[.slice none 0 0,.slice none 0 0] 129)]++(inn 3 1 (innM hc (mat u (n+1) (freeC n cap x)))++(inn 3 1 (innM hd (mat u (n+1) (fun _ _=>-1)))++S)))) w:=hw
  have hw:=inn_snoc (A:=[.blk b6 (.cells #[.slice da2 dn2 dc2,.slice ca cn cc] 129),.own (.slice da2 dn2 dc2) 29 1 (hdrs (hd++[h1])),.own (.slice ca cn cc) 29 1 (hdrs hc),.blk b4 (.cells #[.slice none 0 0,.slice none 0 0] 129)]++inn 3 1 (innM hc (mat u (n+1) (freeC n cap x)))) (hs:=hd) (M:=mat u (n+1) (fun _ _=>-1)) (S:=S) (by rw [mat_len];exact hhd) (by simpa using hw)
  rw [← mat_succ] at hw
  have hhd2:(hd++[h1]).length=u+1:=by simp [hhd]
  generalize hd++[h1]=hd2 at *
  have hw:Wd Γ (.blk b6 (.cells #[.slice da2 dn2 dc2,.slice ca cn cc] 129)::.own (.slice da2 dn2 dc2) 29 1 (hdrs hd2)::.own (.slice ca cn cc) 29 1 (hdrs hc)::.blk b4 (.cells #[.slice none 0 0,.slice none 0 0] 129)::(inn 3 1 (innM hc (mat u (n+1) (freeC n cap x)))++(inn 3 1 (innM hd2 (mat (u+1) (n+1) (fun _ _=>-1)))++S))) w:=by rw [List.append_assoc] at hw;exact hw
  repeat (first | refine byW ?_ | (refine byV ?_;intro w hw))
  obtain ⟨TT,hT⟩:∃ T,T=(inn 3 1 (innM hc (mat u (n+1) (freeC n cap x)))++(inn 3 1 (innM hd2 (mat (u+1) (n+1) (fun _ _=>-1)))++S)):=⟨_,rfl⟩
  rw [← hT] at hw
  refine W_mixed [] [fun _=>[],fun _=>.blk b6 (.cells #[.slice da2 dn2 dc2,.slice ca cn cc] 129)::.own (.slice da2 dn2 dc2) 29 1 (hdrs hd2)::.own (.slice ca cn cc) 29 1 (hdrs hc)::.blk b4 (.cells #[.slice none 0 0,.slice none 0 0] 129)::TT] [[],[],[0],[],[],[0],[0],[0,1],[],[0]] [[],[1],[0],[],[],[0],[0],[0,1],[],[0]] [[34,37,38,39],[]] (by have:=hw;simpa [List.range,List.range.loop,ML] using this) ?_
  repeat (first | refine mY ?_ | refine mP ?_ | refine mPg ?_)
  refine mS (c:=0) (v:=undef) (F:=fun _=>[]) (fun g=>[.own (g 34) 3 1 (intRows [1152921504606846976])]) (fun g w Y hw=>s_buildSlice (rws:=intRows [1152921504606846976]) hw rfl rfl rfl (by simp [intRows]) (by decide) fun a w' hw'=>⟨(fun h=>by cases h),hw'⟩) ?_
  repeat (first | refine mY ?_ | refine mP ?_ | refine mPg ?_)
  refine mCallG (c:=0) (F:=fun g=>[.own (g 34) 3 1 (intRows [1152921504606846976])]) (fun g=>[.own (g 37) 3 1 (intRows (List.replicate (n+1) (1152921504606846976)))]) (fun g=>[g 34,.int .i64 ((n:Int)+1)]) (fun g w Y hw=>?_) ?_
  ·have hw:Wd Γ (.own (ovr [34,37,38,39] g noFr 34) 3 1 (intRows [1152921504606846976])::([]++Y)) w:=hw
   obtain ⟨p1,p2,p3,hg,e1, -, -⟩:=hw.own_shape (i:=0) rfl
   rw [hg] at hw
   have e1:p2=1:=e1
   subst e1
   show Calls _ _ #[ovr [34,37,38,39] g noFr 34,.int .i64 ((n+1:Nat):Int)] w _
   rw [hg]
   refine (repeat_any (k:=n+1) ⟨by omega,by omega⟩ hw).mono fun e w' hq=>?_
   obtain ⟨a',rfl,hw'⟩:=hq
   exact ⟨_,rfl,hw'.ds [1]⟩
  refine mS (c:=0) (v:=undef) (F:=fun g=>[.own (g 37) 3 1 (intRows (List.replicate (n+1) (1152921504606846976)))]) (fun g=>[.own (g 38) 29 1 (hdrs [g 37]),.own (g 37) 3 1 (intRows (List.replicate (n+1) (1152921504606846976)))]) (fun g w Y hw=>?_) ?_
  ·have hw:Wd Γ (.own (ovr [34,37,38,39] g noFr 37) 3 1 (intRows (List.replicate (n+1) (1152921504606846976)))::([]++Y)) w:=hw
   obtain ⟨p1,p2,p3,hg,e1, -, -⟩:=hw.own_shape (i:=0) rfl
   refine s_buildSlice (rws:=hdrs [.slice p1 p2 p3]) hw (by show fillL _ _ [(0,ovr [34,37,38,39] g noFr 37)]=_;rw [hg];rfl) rfl rfl (by simp [hdrs]) (by decide) fun a w' hw'=>⟨(fun h=>by cases h),?_⟩
   show Wd Γ (.own (.slice (some a) 1 1) 29 1 (hdrs [ovr [34,37,38,39] g noFr 37])::.own (ovr [34,37,38,39] g noFr 37) 3 1 (intRows (List.replicate (n+1) (1152921504606846976)))::([]++Y)) w'
   rw [hg] at hw' ⊢
   exact hw'
  refine mS2 (c:=0) (c2:=1) (v:=undef) (F:=fun g=>[.own (g 38) 29 1 (hdrs [g 37]),.own (g 37) 3 1 (intRows (List.replicate (n+1) (1152921504606846976)))]) (G:=fun _=>.blk b6 (.cells #[.slice da2 dn2 dc2,.slice ca cn cc] 129)::.own (.slice da2 dn2 dc2) 29 1 (hdrs hd2)::.own (.slice ca cn cc) 29 1 (hdrs hc)::.blk b4 (.cells #[.slice none 0 0,.slice none 0 0] 129)::TT) (fun g=>.own (g 37) 3 1 (intRows (List.replicate (n+1) (1152921504606846976)))::.blk b6 (.cells #[.slice da2 dn2 dc2,.slice ca cn cc] 129)::.own (.slice da2 dn2 dc2) 29 1 (hdrs hd2)::.own (g 39) 29 1 (hdrs hc++hdrs [g 37])::.blk b4 (.cells #[.slice none 0 0,.slice none 0 0] 129)::TT) (fun _=>[]) (fun g w Y hw=>?_) ?_
  ·have hw:Wd Γ (.own (ovr [34,37,38,39] g noFr 38) 29 1 (hdrs [ovr [34,37,38,39] g noFr 37])::.own (ovr [34,37,38,39] g noFr 37) 3 1 (intRows (List.replicate (n+1) (1152921504606846976)))::((.blk b6 (.cells #[.slice da2 dn2 dc2,.slice ca cn cc] 129)::.own (.slice da2 dn2 dc2) 29 1 (hdrs hd2)::.own (.slice ca cn cc) 29 1 (hdrs hc)::.blk b4 (.cells #[.slice none 0 0,.slice none 0 0] 129)::TT)++([]++Y))) w:=hw
   obtain ⟨p1,p2,p3,hg1,e1, -, -⟩:=hw.own_shape (i:=0) rfl
   obtain ⟨q1,q2,q3,hg2, -, -, -⟩:=hw.own_shape (i:=1) rfl
   rw [hg1,hg2] at hw
   have e1:p2=1:=e1
   subst e1
   refine s_append (i:=4) (rows2:=hdrs [.slice q1 q2 q3]) hw rfl hg1 rfl (hw.own_rd (i:=0) rfl) rfl (by simp [hdrs,Value.oneCell']) (by omega) (by omega) fun v' w' hw'=>⟨(fun h=>by cases h),?_⟩
   have hw':=hw'.ds [0]
   show Wd Γ (.own (ovr [34,37,38,39] g noFr 37) 3 1 (intRows (List.replicate (n+1) (1152921504606846976)))::((.blk b6 (.cells #[.slice da2 dn2 dc2,.slice ca cn cc] 129)::.own (.slice da2 dn2 dc2) 29 1 (hdrs hd2)::.own (v') 29 1 (hdrs hc++hdrs [ovr [34,37,38,39] g noFr 37])::.blk b4 (.cells #[.slice none 0 0,.slice none 0 0] 129)::TT)++([]++Y))) w'
   rw [hg2]
   exact hw'
  repeat (first | refine mY ?_ | refine mP ?_ | refine mPg ?_)
  refine mS (c:=0) (v:=undef) (F:=fun g=>.own (g 37) 3 1 (intRows (List.replicate (n+1) (1152921504606846976)))::.blk b6 (.cells #[.slice da2 dn2 dc2,.slice ca cn cc] 129)::.own (.slice da2 dn2 dc2) 29 1 (hdrs hd2)::.own (g 39) 29 1 (hdrs hc++hdrs [g 37])::.blk b4 (.cells #[.slice none 0 0,.slice none 0 0] 129)::TT) (fun g=>.own (g 37) 3 1 (intRows (List.replicate (n+1) (1152921504606846976)))::.blk b6 (.cells #[.slice da2 dn2 dc2,g 39] 129)::.own (.slice da2 dn2 dc2) 29 1 (hdrs hd2)::.own (g 39) 29 1 (hdrs hc++hdrs [g 37])::.blk b4 (.cells #[.slice none 0 0,.slice none 0 0] 129)::TT) (fun g w Y hw=>?_) ?_
  ·have hw:Wd Γ (.own (ovr [34,37,38,39] g noFr 37) 3 1 (intRows (List.replicate (n+1) (1152921504606846976)))::((.blk b6 (.cells #[.slice da2 dn2 dc2,.slice ca cn cc] 129)::.own (.slice da2 dn2 dc2) 29 1 (hdrs hd2)::.own (ovr [34,37,38,39] g noFr 39) 29 1 (hdrs hc++hdrs [ovr [34,37,38,39] g noFr 37])::.blk b4 (.cells #[.slice none 0 0,.slice none 0 0] 129)::TT)++([]++Y))) w:=hw
   obtain ⟨p1,p2,p3,hg, -, -, -⟩:=hw.own_shape (i:=3) rfl
   rw [hg] at hw
   refine s_store (n:=1) (o:=0+1) (vs:=[.slice p1 p2 p3]) (i:=1) (TSz.h (P:=Tryz.prog) (T:=103)) hw rfl hg rfl rfl (by simp [Value.oneCell']) rfl (by simp) fun w' hw'=>⟨fun _=>rfl,?_⟩
   show Wd Γ (.own (ovr [34,37,38,39] g noFr 37) 3 1 (intRows (List.replicate (n+1) (1152921504606846976)))::((.blk b6 (.cells #[.slice da2 dn2 dc2,ovr [34,37,38,39] g noFr 39] 129)::.own (.slice da2 dn2 dc2) 29 1 (hdrs hd2)::.own (ovr [34,37,38,39] g noFr 39) 29 1 (hdrs hc++hdrs [ovr [34,37,38,39] g noFr 37])::.blk b4 (.cells #[.slice none 0 0,.slice none 0 0] 129)::TT)++([]++Y))) w'
   rw [hg]
   exact hw'
  refine mEnd fun w g hw=>?_
  have hw:Wd Γ ((.own (ovr [34,37,38,39] g noFr 37) 3 1 (intRows (List.replicate (n+1) (1152921504606846976)))::.blk b6 (.cells #[.slice da2 dn2 dc2,ovr [34,37,38,39] g noFr 39] 129)::.own (.slice da2 dn2 dc2) 29 1 (hdrs hd2)::.own (ovr [34,37,38,39] g noFr 39) 29 1 (hdrs hc++hdrs [ovr [34,37,38,39] g noFr 37])::.blk b4 (.cells #[.slice none 0 0,.slice none 0 0] 129)::TT)++[]) w:=hw
  generalize ovr [34,37,38,39] g noFr 37=h2 at hw
  generalize ovr [34,37,38,39] g noFr 39=cv2 at hw
  rw [List.append_nil,hT,show hdrs hc++hdrs [h2]=hdrs (hc++[h2]) by simp [hdrs],rep_row] at hw
  obtain ⟨ca2,cn2,cc2,hcv2,hcn2,hcc2, -⟩:=hw.own_shape (i:=3) rfl
  subst hcv2
  clear hT
  have hw:=inn_snoc (A:=[.blk b6 (.cells #[.slice da2 dn2 dc2,.slice ca2 cn2 cc2] 129),.own (.slice da2 dn2 dc2) 29 1 (hdrs hd2),.own (.slice ca2 cn2 cc2) 29 1 (hdrs (hc++[h2])),.blk b4 (.cells #[.slice none 0 0,.slice none 0 0] 129)]) (hs:=hc) (M:=mat u (n+1) (freeC n cap x)) (S:=inn 3 1 (innM hd2 (mat (u+1) (n+1) (fun _ _=>-1)))++S) (by rw [mat_len];exact hhc) hw
  rw [show (fun _:Nat=>(1152921504606846976:Int))=fun _=>farV from rfl,cst_row] at hw
  have hhc2:(hc++[h2]).length=u+1:=by simp [hhc]
  generalize hc++[h2]=hc2 at *
  have hw:Wd Γ (.blk b6 (.cells #[.slice da2 dn2 dc2,.slice ca2 cn2 cc2] 129)::.own (.slice da2 dn2 dc2) 29 1 (hdrs hd2)::.own (.slice ca2 cn2 cc2) 29 1 (hdrs hc2)::.blk b4 (.cells #[.slice none 0 0,.slice none 0 0] 129)::(inn 3 1 (innM hc2 (mat (u+1) (n+1) (cstC n cap x u 0)))++(inn 3 1 (innM hd2 (mat (u+1) (n+1) (fun _ _=>-1)))++S))) w:=hw
  have hdn3:dn2=u+1:=by simpa [hdrs,hhd2] using hdn2
  have hcn3:cn2=u+1:=by simpa [hdrs,hhc2] using hcn2
  repeat (first | refine byW ?_ | (refine byV ?_;intro w hw))
  refine W_loop (fun μ2 ρ w=>∃ v:Nat,μ2+v=n+1∧Has ρ [(0,.pointer (some ⟨bA,0,none⟩)),(1,.int .i64 first),(4,.pointer (some ⟨b4,0,none⟩)),(5,.int .i64 n),(6,.pointer (some ⟨b6,0,none⟩)),(7,.int .i64 u),(19,.int .i64 ((n:Int)+1)),(20,.int .i64 u),(42,.int .i64 ((n:Int)+1)),(43,.int .i64 v)]∧Wd Γ (.blk b6 (.cells #[.slice da2 dn2 dc2,.slice ca2 cn2 cc2] 129)::.own (.slice da2 dn2 dc2) 29 1 (hdrs hd2)::.own (.slice ca2 cn2 cc2) 29 1 (hdrs hc2)::.blk b4 (.cells #[.slice none 0 0,.slice none 0 0] 129)::(inn 3 1 (innM hc2 (mat (u+1) (n+1) (cstC n cap x u v)))++(inn 3 1 (innM hd2 (mat (u+1) (n+1) (fun _ _=>-1)))++S))) w) (n+1) ⟨0,by omega,⟨rfl,rfl,rfl,rfl,rfl,rfl,rfl,rfl,rfl,rfl,trivial⟩,hw⟩ ?_
  clear hw
  rintro μ2 ρ w ⟨v,hμ2,hρ,hw⟩
  rw [hρ.eq]
  clear hρ
  repeat (first | refine byW ?_ | (refine byV ?_;intro w hw))
  refine W_cond rfl (fun h=>?_) (fun h=>?_)
  ·have hvn:v < n+1:=by have:=of_decide_eq_true h;omega
   clear h
   repeat (first | refine byW ?_ | (refine byV ?_;intro w hw))
   refine W_quiet (by kernel_rfl) (by kernel_rfl) hw ?_
   repeat (first | refine Q_nil ?_ | (apply Q_plain;first | (apply Q_go;first | refine qP ?_ | refine qPg ?_) | refine qY ?_) | (apply Q_guarded;first | (apply Q_go;first | refine qPG ?_ | refine qPgG ?_) | refine qG ?_))
   refine qG (v:=.slice la n lc) ?_ (hy:=fun hc w hw=>y_l1m hw (gvT hc rfl) rfl)
   repeat (first | refine Q_nil ?_ | (apply Q_plain;first | (apply Q_go;first | refine qP ?_ | refine qPg ?_) | refine qY ?_) | (apply Q_guarded;first | (apply Q_go;first | refine qPG ?_ | refine qPgG ?_) | refine qG ?_))
   refine qG (v:=.int .i64 (x.count (u:Int):Nat)) ?_ (hy:=fun hc w hw=>y_loadE1 (gvT hc rfl) (rl.rd hw) (hcl u (by simp only [Bool.and_eq_true,decide_eq_true_eq] at hc;omega)))
   repeat (first | refine Q_nil ?_ | (apply Q_plain;first | (apply Q_go;first | refine qP ?_ | refine qPg ?_) | refine qY ?_) | (apply Q_guarded;first | (apply Q_go;first | refine qPG ?_ | refine qPgG ?_) | refine qG ?_))
   refine qG (v:=.int .i64 cap) ?_ (hy:=fun hc w hw=>y_l1m hw (gvT hc rfl) rfl)
   repeat (first | refine Q_nil ?_ | (apply Q_plain;first | (apply Q_go;first | refine qP ?_ | refine qPg ?_) | refine qY ?_) | (apply Q_guarded;first | (apply Q_go;first | refine qPG ?_ | refine qPgG ?_) | refine qG ?_))
   refine qG (v:=.slice la n lc) ?_ (hy:=fun hc w hw=>y_l1m hw (gvT hc rfl) rfl)
   repeat (first | refine Q_nil ?_ | (apply Q_plain;first | (apply Q_go;first | refine qP ?_ | refine qPg ?_) | refine qY ?_) | (apply Q_guarded;first | (apply Q_go;first | refine qPG ?_ | refine qPgG ?_) | refine qG ?_))
   refine qG (v:=.int .i64 (x.count (v:Int):Nat)) ?_ (hy:=fun hc w hw=>y_loadE1 (gvT hc rfl) (rl.rd hw) (hcl v (by simp only [Bool.and_eq_true,decide_eq_true_eq] at hc;omega)))
   repeat (first | refine Q_nil ?_ | (apply Q_plain;first | (apply Q_go;first | refine qP ?_ | refine qPg ?_) | refine qY ?_) | (apply Q_guarded;first | (apply Q_go;first | refine qPG ?_ | refine qPgG ?_) | refine qG ?_))
   intro w hw
   repeat (first | refine byW ?_ | (refine byV ?_;intro w hw))
   refine W_cond rfl (fun h=>?_) (fun h=>?_)
   ·have hfz:freeC n cap x u v=0:=by
     unfold freeC
     simp only [Bool.or_eq_true,Bool.and_eq_true,decide_eq_true_eq] at h
     rw [if_pos (by omega)]
    clear h
    obtain ⟨hh,hhh⟩:=get_lt (l:=hc2) (k:=u) (by omega)
    have hop:=row_open (A:=[.blk b6 (.cells #[.slice da2 dn2 dc2,.slice ca2 cn2 cc2] 129),.own (.slice da2 dn2 dc2) 29 1 (hdrs hd2),.own (.slice ca2 cn2 cc2) 29 1 (hdrs hc2),.blk b4 (.cells #[.slice none 0 0,.slice none 0 0] 129)]) hhh (show u < u+1 by omega) hw
    obtain ⟨ha,hn',hc',rfl,hen, -, -⟩:=hop.own_shape (i:=0) rfl
    simp only [intRows,List.length_map,rowN_len] at hen
    clear hw
    have hw:Wd Γ (.own (.slice ha hn' hc') 3 1 (intRows (rowN (n+1) (cstC n cap x u v u)))::.blk b6 (.cells #[.slice da2 dn2 dc2,.slice ca2 cn2 cc2] 129)::.own (.slice da2 dn2 dc2) 29 1 (hdrs hd2)::.own (.slice ca2 cn2 cc2) 29 1 (hdrs hc2)::.blk b4 (.cells #[.slice none 0 0,.slice none 0 0] 129)::(inn 3 1 ((innM hc2 (mat (u+1) (n+1) (cstC n cap x u v))).eraseIdx u)++(inn 3 1 (innM hd2 (mat (u+1) (n+1) (fun _ _=>-1)))++S))) w:=hop
    clear hop
    repeat (first | refine byW ?_ | (refine byV ?_;intro w hw))
    refine lStoreE (k:=v) (v:=.int .i64 0) ?_
    intro w hw
    have hw:=row_close (A:=[.blk b6 (.cells #[.slice da2 dn2 dc2,.slice ca2 cn2 cc2] 129),.own (.slice da2 dn2 dc2) 29 1 (hdrs hd2),.own (.slice ca2 cn2 cc2) 29 1 (hdrs hc2),.blk b4 (.cells #[.slice none 0 0,.slice none 0 0] 129)]) hhh (show u < u+1 by omega) hhc2 hw
    rw [cst_zero hfz] at hw
    repeat (first | refine byW ?_ | (refine byV ?_;intro w hw))
    exact ⟨n - v,by omega,v+1,by omega,⟨rfl,rfl,rfl,rfl,rfl,rfl,rfl,rfl,rfl,rfl,trivial⟩,hw⟩
   ·have hfz:freeC n cap x u v=farV:=by
     unfold freeC
     simp only [Bool.or_eq_false_iff,Bool.and_eq_false_iff,decide_eq_false_iff_not] at h
     rw [if_neg (by omega)]
    clear h
    rw [cst_pass hfz] at hw
    repeat (first | refine byW ?_ | (refine byV ?_;intro w hw))
    exact ⟨n - v,by omega,v+1,by omega,⟨rfl,rfl,rfl,rfl,rfl,rfl,rfl,rfl,rfl,rfl,trivial⟩,hw⟩
  ·have hv:v=n+1:=by have:=of_decide_eq_false h;omega
   clear h
   repeat (first | refine byW ?_ | (refine byV ?_;intro w hw))
   refine ⟨n - u,by omega,u+1,.slice da2 dn2 dc2,.slice ca2 cn2 cc2,hd2,hc2,by omega,hhd2,hhc2,⟨rfl,rfl,rfl,rfl,rfl,rfl,rfl,trivial⟩,?_⟩
   subst hv
   rw [cst_end] at hw
   exact hw
 ·have hun:u=n+1:=by have:=of_decide_eq_false h;omega
  clear h
  subst hun
  have hdn:dn=n+1:=by omega
  have hcn:cn=n+1:=by omega
  subst hdn hcn
  repeat (first | refine byW ?_ | (refine byV ?_;intro w hw))
  refine W_loop (fun μ2 ρ w=>∃ (d:Nat) (W V:Nat→Nat→Int),μ2+d=x.length∧first≤d∧GP n cap first (aF A) x d 0 W V∧Has ρ [(0,.pointer (some ⟨bA,0,none⟩)),(1,.int .i64 first),(4,.pointer (some ⟨b4,0,none⟩)),(5,.int .i64 n),(6,.pointer (some ⟨b6,0,none⟩)),(9,.int .i64 d)]∧Wd Γ (.blk b6 (.cells #[.slice da (n+1) dc,.slice ca (n+1) cc] 129)::.own (.slice da (n+1) dc) 29 1 (hdrs hd)::.own (.slice ca (n+1) cc) 29 1 (hdrs hc)::.blk b4 (.cells #[.slice none 0 0,.slice none 0 0] 129)::(inn 3 1 (innM hc (mat (n+1) (n+1) W))++(inn 3 1 (innM hd (mat (n+1) (n+1) V))++S))) w) (x.length - first) ⟨first,_,_,by omega,Nat.le_refl _,GP.start,⟨rfl,rfl,rfl,rfl,rfl,rfl,trivial⟩,hw⟩ ?_
  clear hw
  rintro μ2 ρ w ⟨d,W,V,hμ2,hfd,hG,hρ,hw⟩
  rw [hρ.eq]
  clear hρ
  repeat (first | refine byW ?_ | (refine byV ?_;intro w hw))
  refine lY (v:=.slice xa xn xc) ?_ (hy:=y_l1m hw rfl rfl)
  repeat (first | refine byW ?_ | (refine byV ?_;intro w hw))
  refine W_cond rfl (fun h=>?_) (fun h=>?_)
  ·have hdl:d < x.length:=by have:=of_decide_eq_true h;omega
   clear h
   obtain ⟨z,hz⟩:=get_lt (l:=x) (k:=d) hdl
   have hzx:=hx z (List.mem_of_getElem? hz)
   have hza:atI x d=z:=by unfold atI;rw [List.getD_eq_getElem?_getD,hz];rfl
   have hzr:(intRows x)[d]? = some [.int .i64 z]:=by unfold intRows;rw [List.getElem?_map,hz];rfl
   repeat (first | refine byW ?_ | (refine byV ?_;intro w hw))
   refine lY (v:=.slice xa xn xc) ?_ (hy:=y_l1m hw rfl rfl)
   repeat (first | refine byW ?_ | (refine byV ?_;intro w hw))
   refine W_cond rfl (fun h=>?_) (fun h=>?_)
   ·have hz0:z < 0:=of_decide_eq_true h
    clear h
    repeat (first | refine byW ?_ | (refine byV ?_;intro w hw))
    exact ⟨x.length - d - 1,by omega,d+1,W,V,by omega,by omega,hG.pass (by omega),⟨rfl,rfl,rfl,rfl,rfl,rfl,trivial⟩,hw⟩
   have hz0:0≤z:=by have:=of_decide_eq_false h;omega
   clear h
   obtain ⟨u,rfl⟩:∃ u:Nat,z=u:=⟨z.toNat,by omega⟩
   have hun:u < n:=by omega
   obtain ⟨r,hr,hrl,hrc⟩:=hC.get (i:=d) (by omega)
   obtain ⟨ra,rn,rc,hs,hrn,rr,rh,hru⟩:=hM.at hr
   have hvn:=hM.row.1
   have hrn:n=rn:=by omega
   subst hrn
   repeat (first | refine byW ?_ | (refine byV ?_;intro w hw))
   refine lY (v:=.slice va vn vc) ?_ (hy:=y_l1m hw rfl rfl)
   repeat (first | refine byW ?_ | (refine byV ?_;intro w hw))
   refine lY (v:=.slice ra n rc) ?_ (hy:=y_loadE1 rfl (rh.rd hw) hru)
   repeat (first | refine byW ?_ | (refine byV ?_;intro w hw))
   refine W_loop (fun μ3 ρ w=>∃ (j:Nat) (W V:Nat→Nat→Int),μ3+j=n∧GP n cap first (aF A) x d j W V∧Has ρ [(0,.pointer (some ⟨bA,0,none⟩)),(1,.int .i64 first),(4,.pointer (some ⟨b4,0,none⟩)),(5,.int .i64 n),(6,.pointer (some ⟨b6,0,none⟩)),(9,.int .i64 d),(10,.int .i64 u),(122,.slice ra n rc),(123,.int .i64 n),(124,.int .i64 j)]∧Wd Γ (.blk b6 (.cells #[.slice da (n+1) dc,.slice ca (n+1) cc] 129)::.own (.slice da (n+1) dc) 29 1 (hdrs hd)::.own (.slice ca (n+1) cc) 29 1 (hdrs hc)::.blk b4 (.cells #[.slice none 0 0,.slice none 0 0] 129)::(inn 3 1 (innM hc (mat (n+1) (n+1) W))++(inn 3 1 (innM hd (mat (n+1) (n+1) V))++S))) w) n ⟨0,W,V,by omega,hG,⟨rfl,rfl,rfl,rfl,rfl,rfl,rfl,rfl,rfl,rfl,trivial⟩,hw⟩ ?_
   clear hw hG W V
   rintro μ3 ρ w ⟨j,W,V,hμ3,hG,hρ,hw⟩
   rw [hρ.eq]
   clear hρ
   repeat (first | refine byW ?_ | (refine byV ?_;intro w hw))
   refine W_cond rfl (fun h=>?_) (fun h=>?_)
   ·have hjn:j < n:=by have:=of_decide_eq_true h;omega
    clear h
    obtain ⟨hcj,hcj1,hcj2⟩:=hrc j hjn
    obtain ⟨hcu,hcu1,hcu2⟩:=hrc u hun
    obtain ⟨p,hp⟩:∃ p,p=aF A d j:=⟨_,rfl⟩
    obtain ⟨q,hq⟩:∃ q,q=aF A d u:=⟨_,rfl⟩
    rw [← hp] at hcj hcj1 hcj2
    rw [← hq] at hcu hcu1 hcu2
    have hej:(intRows r)[j]? = some [.int .i64 p]:=by unfold intRows;rw [List.getElem?_map,hcj];rfl
    have heu:(intRows r)[u]? = some [.int .i64 q]:=by unfold intRows;rw [List.getElem?_map,hcu];rfl
    have hpq:IntKind.i64.wrap (p - q)=p - q:=wrap_i64 (by omega) (by omega)
    repeat (first | refine byW ?_ | (refine byV ?_;intro w hw))
    have hdv:d < vn:=by omega
    obtain ⟨hh,hhh⟩:=get_lt (l:=hc) (k:=u) (by omega)
    have hop:=row_open (A:=[.blk b6 (.cells #[.slice da (n+1) dc,.slice ca (n+1) cc] 129),.own (.slice da (n+1) dc) 29 1 (hdrs hd),.own (.slice ca (n+1) cc) 29 1 (hdrs hc),.blk b4 (.cells #[.slice none 0 0,.slice none 0 0] 129)]) hhh (show u < n+1 by omega) hw
    obtain ⟨ha,hn',hc',rfl,hen, -, -⟩:=hop.own_shape (i:=0) rfl
    simp only [intRows,List.length_map,rowN_len] at hen
    subst hen
    clear hw
    have hw:Wd Γ (.own (.slice ha (n+1) hc') 3 1 (intRows (rowN (n+1) (W u)))::.blk b6 (.cells #[.slice da (n+1) dc,.slice ca (n+1) cc] 129)::.own (.slice da (n+1) dc) 29 1 (hdrs hd)::.own (.slice ca (n+1) cc) 29 1 (hdrs hc)::.blk b4 (.cells #[.slice none 0 0,.slice none 0 0] 129)::(inn 3 1 ((innM hc (mat (n+1) (n+1) W)).eraseIdx u)++(inn 3 1 (innM hd (mat (n+1) (n+1) V))++S))) w:=hop
    clear hop
    have hwu:(intRows (rowN (n+1) (W u)))[j]? = some [.int .i64 (W u j)]:=by unfold intRows;rw [List.getElem?_map,rowN_get (by omega)];rfl
    refine W_quiet (by kernel_rfl) (by kernel_rfl) hw ?_
    repeat (first | refine Q_nil ?_ | (apply Q_plain;first | (apply Q_go;first | refine qP ?_ | refine qPg ?_) | refine qY ?_) | (apply Q_guarded;first | (apply Q_go;first | refine qPG ?_ | refine qPgG ?_) | refine qG ?_))
    refine qG (v:=.slice va vn vc) ?_ (hy:=fun hg w hw=>y_l1m hw (gvT hg rfl) rfl)
    repeat (first | refine Q_nil ?_ | (apply Q_plain;first | (apply Q_go;first | refine qP ?_ | refine qPg ?_) | refine qY ?_) | (apply Q_guarded;first | (apply Q_go;first | refine qPG ?_ | refine qPgG ?_) | refine qG ?_))
    refine qG (v:=.pointer (some ⟨aB va,aO va+d * 1,none⟩)) ?_ (hy:=fun hg w hw=>y_idxI (i:=(d:Int)) hw rh (gvT hg rfl) (gvT hg rfl) (by omega) (by omega))
    repeat (first | refine Q_nil ?_ | (apply Q_plain;first | (apply Q_go;first | refine qP ?_ | refine qPg ?_) | refine qY ?_) | (apply Q_guarded;first | (apply Q_go;first | refine qPG ?_ | refine qPgG ?_) | refine qG ?_))
    refine qG (v:=.slice ra n rc) ?_ (hy:=fun hg w hw=>y_loadE1 (gvT hg rfl) (rh.rd hw) hru)
    repeat (first | refine Q_nil ?_ | (apply Q_plain;first | (apply Q_go;first | refine qP ?_ | refine qPg ?_) | refine qY ?_) | (apply Q_guarded;first | (apply Q_go;first | refine qPG ?_ | refine qPgG ?_) | refine qG ?_))
    refine qG (v:=.int .i64 (W u j)) ?_ (hy:=fun hg w hw=>y_loadE1 (gvT hg rfl) (hw.own_rd (i:=0) rfl) hwu)
    repeat (first | refine Q_nil ?_ | (apply Q_plain;first | (apply Q_go;first | refine qP ?_ | refine qPg ?_) | refine qY ?_) | (apply Q_guarded;first | (apply Q_go;first | refine qPG ?_ | refine qPgG ?_) | refine qG ?_))
    intro w hw
    repeat (first | refine byW ?_ | (refine byV ?_;intro w hw))
    refine W_cond rfl (fun h=>?_) (fun h=>?_)
    ·simp only [Bool.and_eq_true,decide_eq_true_eq] at h
     have huj:u≠j:=by omega
     have hlt:=h.2
     clear h
     obtain ⟨hh2,hhh2⟩:=get_lt (l:=hd) (k:=u) (by omega)
     obtain ⟨IE,hIE⟩:∃ T,T=inn 3 1 ((innM hc (mat (n+1) (n+1) W)).eraseIdx u):=⟨_,rfl⟩
     obtain ⟨IV,hIV⟩:∃ T,T=inn 3 1 ((innM hd (mat (n+1) (n+1) V)).eraseIdx u):=⟨_,rfl⟩
     rw [← hIE] at hw
     have hop:=row_open (A:=[.own (.slice ha (n+1) hc') 3 1 (intRows (rowN (n+1) (W u))),.blk b6 (.cells #[.slice da (n+1) dc,.slice ca (n+1) cc] 129),.own (.slice da (n+1) dc) 29 1 (hdrs hd),.own (.slice ca (n+1) cc) 29 1 (hdrs hc),.blk b4 (.cells #[.slice none 0 0,.slice none 0 0] 129)]++IE) (S:=S) hhh2 (show u < n+1 by omega) (by rw [List.append_assoc];exact hw)
     rw [← hIV,List.append_assoc] at hop
     obtain ⟨ga,gn,gc,rfl,hgn, -, -⟩:=hop.own_shape (i:=0) rfl
     simp only [intRows,List.length_map,rowN_len] at hgn
     subst hgn
     clear hw
     have hw:Wd Γ ((.blk b6 (.cells #[.slice da (n+1) dc,.slice ca (n+1) cc] 129)::.own (.slice da (n+1) dc) 29 1 (hdrs hd)::.own (.slice ca (n+1) cc) 29 1 (hdrs hc)::.blk b4 (.cells #[.slice none 0 0,.slice none 0 0] 129)::(IE++(IV++S)))++[.own (.slice ga (n+1) gc) 3 1 (intRows (rowN (n+1) (V u))),.own (.slice ha (n+1) hc') 3 1 (intRows (rowN (n+1) (W u)))]) w:=hop.perm (List.perm_append_comm (l₁:=[_,_]))
     clear hop
     refine W_mixed (.blk b6 (.cells #[.slice da (n+1) dc,.slice ca (n+1) cc] 129)::.own (.slice da (n+1) dc) 29 1 (hdrs hd)::.own (.slice ca (n+1) cc) 29 1 (hdrs hc)::.blk b4 (.cells #[.slice none 0 0,.slice none 0 0] 129)::(IE++(IV++S))) [fun _=>[.own (.slice ga (n+1) gc) 3 1 (intRows (rowN (n+1) (V u)))],fun _=>[.own (.slice ha (n+1) hc') 3 1 (intRows (rowN (n+1) (W u)))]] [[],[],[],[],[],[],[],[],[],[],[],[],[],[],[],[],[],[],[],[],[],[],[],[],[],[],[0],[],[1]] [[],[],[],[],[],[],[],[],[],[],[],[],[],[],[],[],[],[],[],[],[],[],[],[],[],[0],[0],[1],[1]] [[],[]] hw ?_
     repeat (first | refine mY ?_ | refine mP ?_ | refine mPg ?_)
     refine mY (v:=.slice va vn vc) ?_ (hy:=fun Y w g hw=>y_l1m hw rfl rfl)
     repeat (first | refine mY ?_ | refine mP ?_ | refine mPg ?_)
     refine mY (v:=.slice ra n rc) ?_ (hy:=fun Y w g hw=>y_loadE1 rfl (rh.rd hw) hru)
     repeat (first | refine mY ?_ | refine mP ?_ | refine mPg ?_)
     refine mY (v:=.pointer (some ⟨aB ga,aO ga+j * 1,none⟩)) ?_ (hy:=fun Y w g hw=>y_idxO (j:=0) (i:=(j:Int)) hw.swapApp rfl rfl rfl (by omega) (by omega))
     refine mS (c:=0) (v:=undef) (F:=fun _=>[.own (.slice ga (n+1) gc) 3 1 (intRows (rowN (n+1) (V u)))]) (fun _=>[.own (.slice ga (n+1) gc) 3 1 ((intRows (rowN (n+1) (V u))).set j [.int .i64 d])]) (fun g w Y hw=>s_storeE (i:=0) (k:=j) (r:=[.int .i64 d]) (TSz.h (P:=Tryz.prog) (T:=3)) hw rfl rfl rfl rfl rfl rfl (by omega) fun w' hw'=>⟨fun _=>rfl,hw'⟩) ?_
     refine mY (v:=.pointer (some ⟨aB ha,aO ha+j * 1,none⟩)) ?_ (hy:=fun Y w g hw=>y_idxO (j:=0) (i:=(j:Int)) hw.swapApp rfl rfl rfl (by omega) (by omega))
     refine mS (c:=1) (v:=undef) (F:=fun _=>[.own (.slice ha (n+1) hc') 3 1 (intRows (rowN (n+1) (W u)))]) (fun _=>[.own (.slice ha (n+1) hc') 3 1 ((intRows (rowN (n+1) (W u))).set j [.int .i64 (p - q)])]) (fun g w Y hw=>s_storeE (i:=0) (k:=j) (r:=[.int .i64 (p - q)]) (TSz.h (P:=Tryz.prog) (T:=3)) hw rfl rfl rfl rfl rfl rfl (by omega) fun w' hw'=>⟨fun _=>rfl,hw'⟩) ?_
     refine mEnd fun w g hw=>?_
     have hw:Wd Γ ((.blk b6 (.cells #[.slice da (n+1) dc,.slice ca (n+1) cc] 129)::.own (.slice da (n+1) dc) 29 1 (hdrs hd)::.own (.slice ca (n+1) cc) 29 1 (hdrs hc)::.blk b4 (.cells #[.slice none 0 0,.slice none 0 0] 129)::(IE++(IV++S)))++[.own (.slice ga (n+1) gc) 3 1 ((intRows (rowN (n+1) (V u))).set j [.int .i64 d]),.own (.slice ha (n+1) hc') 3 1 ((intRows (rowN (n+1) (W u))).set j [.int .i64 (p - q)])]) w:=hw
     have hw:=hw.perm (List.perm_append_comm (l₂:=[_,_]))
     rw [hIV] at hw
     have hw:=row_close (A:=[.own (.slice ha (n+1) hc') 3 1 ((intRows (rowN (n+1) (W u))).set j [.int .i64 (p - q)]),.blk b6 (.cells #[.slice da (n+1) dc,.slice ca (n+1) cc] 129),.own (.slice da (n+1) dc) 29 1 (hdrs hd),.own (.slice ca (n+1) cc) 29 1 (hdrs hc),.blk b4 (.cells #[.slice none 0 0,.slice none 0 0] 129)]++IE) (S:=S) hhh2 (show u < n+1 by omega) hhd (by rw [List.append_assoc];exact hw)
     rw [List.append_assoc,hIE] at hw
     have hw:=row_close (A:=[.blk b6 (.cells #[.slice da (n+1) dc,.slice ca (n+1) cc] 129),.own (.slice da (n+1) dc) 29 1 (hdrs hd),.own (.slice ca (n+1) cc) 29 1 (hdrs hc),.blk b4 (.cells #[.slice none 0 0,.slice none 0 0] 129)]) hhh (show u < n+1 by omega) hhc hw
     repeat (first | refine byW ?_ | (refine byV ?_;intro w hw))
     refine ⟨n - j - 1,by omega,j+1,updN W u j (p - q),updN V u j d,by omega,?_,⟨rfl,rfl,rfl,rfl,rfl,rfl,rfl,rfl,rfl,rfl,trivial⟩,hw⟩
     rw [hp,hq] at hlt ⊢
     exact hG.take hfd hdl hza hun hjn ⟨huj,hlt⟩
    ·have hsk:¬ (u≠j∧p - q < W u j):=by
      simp only [Bool.and_eq_false_iff,decide_eq_false_iff_not] at h
      omega
     clear h
     have hw:=row_back (A:=[.blk b6 (.cells #[.slice da (n+1) dc,.slice ca (n+1) cc] 129),.own (.slice da (n+1) dc) 29 1 (hdrs hd),.own (.slice ca (n+1) cc) 29 1 (hdrs hc),.blk b4 (.cells #[.slice none 0 0,.slice none 0 0] 129)]) hhh (show u < n+1 by omega) hw
     repeat (first | refine byW ?_ | (refine byV ?_;intro w hw))
     refine ⟨n - j - 1,by omega,j+1,W,V,by omega,?_,⟨rfl,rfl,rfl,rfl,rfl,rfl,rfl,rfl,rfl,rfl,trivial⟩,hw⟩
     rw [hp,hq] at hsk
     exact hG.skip hza hsk
   ·have hjn:j=n:=by have:=of_decide_eq_false h;omega
    clear h
    rw [hjn] at hG
    repeat (first | refine byW ?_ | (refine byV ?_;intro w hw))
    exact ⟨x.length - d - 1,by omega,d+1,W,V,by omega,by omega,hG.row,⟨rfl,rfl,rfl,rfl,rfl,rfl,trivial⟩,hw⟩
  ·have hdl:d=x.length:=by have:=of_decide_eq_false h;omega
   clear h
   subst hdl
   repeat (first | refine byW ?_ | (refine byV ?_;intro w hw))
   refine lStore ?_
   intro w hw
   repeat (first | refine byW ?_ | (refine byV ?_;intro w hw))
   exact ⟨[.agg #[.slice da (n+1) dc,.slice ca (n+1) cc]],⟨resC (i:=3) hw rfl rfl rfl,trivial⟩,.slice da (n+1) dc,.slice ca (n+1) cc,hd,hc,W,V,rfl,hhd,hhc,hG,hw.ds [0,2]⟩
end Go.Proofs.YthgighljhoneeaaGreatDoor
end
section
open Go Mk
namespace Go.Proofs.YthgighljhoneeaaGreatDoor
set_option maxHeartbeats 64000000
attribute [local irreducible] Calls
theorem rowN_setN {N v:Nat} {c:Nat→Int} {z:Int}:(rowN N c).set v z=rowN N (setN c v z):=by
 have h:=rowN_set (N:=N) (C:=fun _=>c) (u:=0) (v:=v) (z:=z)
 rw [h]
 exact rowN_congr fun k _=>by unfold updN setN;by_cases e:k=v <;> simp [e]
theorem rowI_set {N v:Nat} {c:Nat→Int} {z:Int}:(intRows (rowN N c)).set v [.int .i64 z]=intRows (rowN N (setN c v z)):=by
 rw [← rowN_setN];unfold intRows;rw [List.map_set]
theorem rowI_get {N v:Nat} {c:Nat→Int} (h:v < N):(intRows (rowN N c))[v]? = some [.int .i64 (c v)]:=by unfold intRows;rw [List.getElem?_map,rowN_get h];rfl
def sumD (n:Nat) (low D:Nat→Int):Nat:=((List.range (n+1)).map fun v=>(D v - low v).toNat).sum
theorem sum_lt_of {l:List Nat} {f g:Nat→Nat} (h:∀ i∈l,f i≤g i) {k:Nat} (hk:k∈l) (hlt:f k < g k):(l.map f).sum < (l.map g).sum:=by
  induction l with
  | nil=>cases hk
  | cons a t ih=>
    simp only [List.map_cons,List.sum_cons]
    have ha:=h a List.mem_cons_self
    have ht:(t.map f).sum≤(t.map g).sum:=by
      clear ih hk hlt ha
      have h:∀ i∈t,f i≤g i:=fun i hi=>h i (List.mem_cons_of_mem _ hi)
      induction t with
      | nil=>exact Nat.le_refl _
      | cons b t ih=>
        simp only [List.map_cons,List.sum_cons]
        have h1:=h b List.mem_cons_self
        have h2:=ih (fun i hi=>by
          rcases List.mem_cons.1 hi with e | e
          · subst e;exact (by assumption:∀ i∈_,f i≤g i) i List.mem_cons_self
          · exact h i (List.mem_cons_of_mem _ e)) (fun i hi=>h i (List.mem_cons_of_mem _ hi))
        omega
    rcases List.mem_cons.1 hk with e | e
    · subst e;omega
    · have:=ih (fun i hi=>h i (List.mem_cons_of_mem _ hi)) e
      omega
theorem sumD_set {n v:Nat} {low D:Nat→Int} {z:Int} (hv:v≤n) (h1:low v≤z) (h2:z < D v):sumD n low (setN D v z) < sumD n low D:=by
 unfold sumD
 refine sum_lt_of (k:=v) (fun i _=>?_) (by simp;omega) ?_
 ·unfold setN;split
  ·rename_i e;subst e;omega
  ·exact Nat.le_refl _
 ·unfold setN;rw [if_pos rfl];omega
structure SW (n:Nat) (W:Nat→Nat→Int) (φ:Nat→Int) (s S0 u v:Nat) (b:Bool) (D R:Nat→Int):Prop where
 pi:PI n W φ s D R
 le:sumD n (fun v=>φ v - φ s) D≤S0
 got:b=true→sumD n (fun v=>φ v - φ s) D < S0
 tri:b=false→∀ p q,p≤n→q≤n→(p < u∨(p=u∧q < v))→D p < farV→W p q < farV→D q≤D p+W p q
section
variable {n s S0 u v:Nat} {W:Nat→Nat→Int} {φ D R:Nat→Int} {b:Bool}
theorem SW.start (h:PI n W φ s D R):SW n W φ s (sumD n (fun v=>φ v - φ s) D) 0 0 false D R:=⟨h,Nat.le_refl _,fun e=>by simp at e,fun _ p q _ _ hh=>by omega⟩
theorem SW.skip (h:SW n W φ s S0 u v b D R) (hc:¬ (D u < farV∧W u v < farV∧D u+W u v < D v)):SW n W φ s S0 u (v+1) b D R:=
 ⟨h.pi,h.le,h.got,fun e p q hp hq hh h1 h2=>by
  by_cases ee:p=u∧q=v
  ·obtain ⟨rfl,rfl⟩:=ee;omega
  ·exact h.tri e p q hp hq (by omega) h1 h2⟩
theorem SW.take (hφ:PotG n W φ) (h:SW n W φ s S0 u v b D R) (hs:s≤n) (hu:u≤n) (hv:v≤n) (h1:D u < farV) (h2:W u v < farV) (h3:D u+W u v < D v) :
  SW n W φ s S0 u (v+1) true (setN D v (D u+W u v)) (setN R v u):=by
 have hr:=h.pi.relax hφ hs hu hv h1 h2 h3
 have hlow:=hr.low v hv (by unfold setN;rw [if_pos rfl];have:=h.pi.far v hv;omega)
 have hl:sumD n (fun v=>φ v - φ s) (setN D v (D u+W u v)) < sumD n (fun v=>φ v - φ s) D:=sumD_set hv (by simpa [setN] using hlow) h3
 have:=h.le
 exact ⟨hr,by omega,fun _=>by omega,fun e=>by cases e⟩
theorem SW.row (h:SW n W φ s S0 u (n+1) b D R):SW n W φ s S0 (u+1) 0 b D R:=
 ⟨h.pi,h.le,h.got,fun e p q hp hq hh h1 h2=>h.tri e p q hp hq (by omega) h1 h2⟩
theorem SW.done (h:SW n W φ s S0 (n+1) 0 b D R):2 * sumD n (fun v=>φ v - φ s) D+b.toNat < 2 * S0+1:=by
 have:=h.le
 cases b with
 | false=>simp;omega
 | true=>have:=h.got rfl;simp;omega
theorem SW.paths (h:SW n W φ s S0 (n+1) 0 false D R):PathsOk n W s D R:=⟨h.pi.src,h.pi.far,fun p q hp hq h1 h2=>h.tri rfl p q hp hq (by omega) h1 h2,h.pi.back⟩
end
set_option maxRecDepth 8000 in
theorem paths_core {Γ:Gho} {n s:Nat} {W:Nat→Nat→Int} {φ:Nat→Int} {da ca:Option Addr} {dn dc cc:Nat} (hM:MatF Γ (.slice ca (n+1) cc) (mat (n+1) (n+1) W)) (hn:n≤64) (hs:s≤n) (hφ:PotG n W φ)
  (hb:∀ v,v≤n→-1152921504606846976≤φ v - φ s) {S:List Res} {w:World} (hw:Wd Γ S w) :
  Calls Tryz.prog 85 #[.agg #[.slice da dn dc,.slice ca (n+1) cc],.int .i64 (s:Nat)] w fun e w'=>∃ (a4 a5:Addr) (D R:Nat→Int),e=.returned (.tuple #[.slice (some a4) (n+1) (n+1),.slice (some a5) (n+1) (n+1)])∧PathsOk n W s D R∧(∀ v,v≤n→D v < farV→φ v - φ s≤D v) ∧
   Wd Γ (.own (.slice (some a5) (n+1) (n+1)) 3 1 (intRows (rowN (n+1) R))::.own (.slice (some a4) (n+1) (n+1)) 3 1 (intRows (rowN (n+1) D))::S) w':=by
 refine calls_of_WC Tryz.func85 rfl rfl ?_
 repeat (first | refine byW ?_ | (refine byV ?_;intro w hw))
 refine lBox ?_
 intro b2 w hw
 have hw:Wd Γ (.blk b2 (.cells #[.slice da dn dc,.slice ca (n+1) cc] 129)::S) w:=hw
 repeat (first | refine byW ?_ | (refine byV ?_;intro w hw))
 refine lBuildSlice (intRows [1152921504606846976]) ?_
 intro a1 w hw
 repeat (first | refine byW ?_ | (refine byV ?_;intro w hw))
 refine lCall ?_
 refine (repeat_any (k:=n+1) ⟨by omega,by omega⟩ hw).mono fun e w hq=>?_
 obtain ⟨a4,rfl,hw⟩:=hq
 refine ⟨_,rfl,?_⟩
 have hw:=hw.ds [1]
 repeat (first | refine byW ?_ | (refine byV ?_;intro w hw))
 refine lBuildSlice (intRows [-1]) ?_
 intro a1 w hw
 repeat (first | refine byW ?_ | (refine byV ?_;intro w hw))
 refine lCall ?_
 refine (repeat_any (k:=n+1) ⟨by omega,by omega⟩ hw).mono fun e w hq=>?_
 obtain ⟨a5,rfl,hw⟩:=hq
 refine ⟨_,rfl,?_⟩
 have hw:=hw.ds [1]
 rw [rep_row,rep_row] at hw
 repeat (first | refine byW ?_ | (refine byV ?_;intro w hw))
 refine lStoreE (k:=s) (v:=.int .i64 0) ?_
 intro w hw
 have hw:Wd Γ (.own (.slice (some a5) (n+1) (n+1)) 3 1 (intRows (rowN (n+1) fun _=>-1))::.own (.slice (some a4) (n+1) (n+1)) 3 1 ((intRows (rowN (n+1) fun _=>1152921504606846976)).set s [.int .i64 0])::.blk b2 (.cells #[.slice da dn dc,.slice ca (n+1) cc] 129)::S) w:=hw
 rw [rowI_set] at hw
 repeat (first | refine byW ?_ | (refine byV ?_;intro w hw))
 refine W_loop (fun μ ρ w=>∃ (b:Bool) (D R:Nat→Int),μ=2 * sumD n (fun v=>φ v - φ s) D+b.toNat∧PI n W φ s D R∧(b=false→PathsOk n W s D R)∧Has ρ [(1,.int .i64 s),(2,.pointer (some ⟨b2,0,none⟩)),(4,.slice (some a4) (n+1) (n+1)),(5,.slice (some a5) (n+1) (n+1)),(6,.int .i64 ((n+1:Nat):Int)),(7,.bool b)]∧Wd Γ (.own (.slice (some a5) (n+1) (n+1)) 3 1 (intRows (rowN (n+1) R))::.own (.slice (some a4) (n+1) (n+1)) 3 1 (intRows (rowN (n+1) D))::.blk b2 (.cells #[.slice da dn dc,.slice ca (n+1) cc] 129)::S) w) _ ⟨true,_,_,rfl,PI.start,fun e=>(by cases e),⟨rfl,rfl,rfl,rfl,rfl,rfl,trivial⟩,hw⟩ ?_
 clear hw
 rintro μ ρ w ⟨b,D,R,hμ,hP,hO,hρ,hw⟩
 rw [hρ.eq]
 clear hρ
 repeat (first | refine byW ?_ | (refine byV ?_;intro w hw))
 refine W_cond rfl (fun h=>?_) (fun h=>?_)
 ·have hb1:b=true:=by simpa using h
  clear h
  subst hb1
  repeat (first | refine byW ?_ | (refine byV ?_;intro w hw))
  refine W_loop (fun μ2 ρ w=>∃ (u:Nat) (b:Bool) (D' R:Nat→Int),μ2+u=n+1∧SW n W φ s (sumD n (fun v=>φ v - φ s) D) u 0 b D' R∧Has ρ [(1,.int .i64 s),(2,.pointer (some ⟨b2,0,none⟩)),(4,.slice (some a4) (n+1) (n+1)),(5,.slice (some a5) (n+1) (n+1)),(6,.int .i64 ((n+1:Nat):Int)),(7,.bool b),(23,.int .i64 ((n+1:Nat):Int)),(24,.int .i64 u)]∧Wd Γ (.own (.slice (some a5) (n+1) (n+1)) 3 1 (intRows (rowN (n+1) R))::.own (.slice (some a4) (n+1) (n+1)) 3 1 (intRows (rowN (n+1) D'))::.blk b2 (.cells #[.slice da dn dc,.slice ca (n+1) cc] 129)::S) w) (n+1) ⟨0,false,D,R,by omega,SW.start hP,⟨rfl,rfl,rfl,rfl,rfl,rfl,rfl,rfl,trivial⟩,hw⟩ ?_
  clear hw
  generalize hS0:sumD n (fun v=>φ v - φ s) D=S0 at *
  clear hP hO hS0 D R
  rintro μ2 ρ w ⟨u,b,D,R,hμ2,hS,hρ,hw⟩
  rw [hρ.eq]
  clear hρ
  repeat (first | refine byW ?_ | (refine byV ?_;intro w hw))
  refine W_cond rfl (fun h=>?_) (fun h=>?_)
  ·have hun:u < n+1:=by have:=of_decide_eq_true h;omega
   clear h
   obtain ⟨ra,rn,rc,hs',hrn,rr,rh,hru⟩:=hM.at (mat_get (C:=W) (N:=n+1) hun)
   rw [rowN_len] at hrn
   have hrn:=hrn.symm
   subst hrn
   repeat (first | refine byW ?_ | (refine byV ?_;intro w hw))
   refine W_loop (fun μ3 ρ w=>∃ (v:Nat) (b:Bool) (D R:Nat→Int),μ3+v=n+1∧SW n W φ s S0 u v b D R∧Has ρ [(1,.int .i64 s),(2,.pointer (some ⟨b2,0,none⟩)),(4,.slice (some a4) (n+1) (n+1)),(5,.slice (some a5) (n+1) (n+1)),(6,.int .i64 ((n+1:Nat):Int)),(7,.bool b),(8,.int .i64 u),(23,.int .i64 ((n+1:Nat):Int)),(24,.int .i64 u),(27,.int .i64 ((n+1:Nat):Int)),(28,.int .i64 v)]∧Wd Γ (.own (.slice (some a5) (n+1) (n+1)) 3 1 (intRows (rowN (n+1) R))::.own (.slice (some a4) (n+1) (n+1)) 3 1 (intRows (rowN (n+1) D))::.blk b2 (.cells #[.slice da dn dc,.slice ca (n+1) cc] 129)::S) w) (n+1) ⟨0,b,D,R,by omega,hS,⟨rfl,rfl,rfl,rfl,rfl,rfl,rfl,rfl,rfl,rfl,rfl,trivial⟩,hw⟩ ?_
   clear hw hS D R b
   rintro μ3 ρ w ⟨v,b,D,R,hμ3,hS,hρ,hw⟩
   rw [hρ.eq]
   clear hρ
   repeat (first | refine byW ?_ | (refine byV ?_;intro w hw))
   refine W_cond rfl (fun h=>?_) (fun h=>?_)
   ·have hvn:v < n+1:=by have:=of_decide_eq_true h;omega
    clear h
    repeat (first | refine byW ?_ | (refine byV ?_;intro w hw))
    have hDu:=rowI_get (c:=D) hun
    have hDv:=rowI_get (c:=D) hvn
    have hWu:(intRows (rowN (n+1) (W u)))[v]? = some [.int .i64 (W u v)]:=rowI_get hvn
    have f1:D u≤1152921504606846976:=hS.pi.far u (by omega)
    have f2:D u < 1152921504606846976→W u v < 1152921504606846976→-1152921504606846976≤D u+W u v:=fun h1 h2=>by
     have:=hφ u v (by omega) (by omega) h2
     have:=hS.pi.low u (by omega) h1
     have:=hb v (by omega)
     omega
    refine W_quiet (by kernel_rfl) (by kernel_rfl) hw ?_
    repeat (first | refine Q_nil ?_ | (apply Q_plain;first | (apply Q_go;first | refine qP ?_ | refine qPg ?_) | refine qY ?_) | (apply Q_guarded;first | (apply Q_go;first | refine qPG ?_ | refine qPgG ?_) | refine qG ?_))
    refine qY (v:=.int .i64 (D u)) ?_ (hy:=fun w hw=>y_loadE1 rfl (hw.own_rd (i:=1) rfl) hDu)
    repeat (first | refine Q_nil ?_ | (apply Q_plain;first | (apply Q_go;first | refine qP ?_ | refine qPg ?_) | refine qY ?_) | (apply Q_guarded;first | (apply Q_go;first | refine qPG ?_ | refine qPgG ?_) | refine qG ?_))
    refine qG (v:=.pointer (some ⟨aB ca,aO ca+u * 1,none⟩)) ?_ (hy:=fun hg w hw=>y_idxI (i:=(u:Int)) hw rh (gvT hg rfl) (gvT hg rfl) (by omega) (by omega))
    repeat (first | refine Q_nil ?_ | (apply Q_plain;first | (apply Q_go;first | refine qP ?_ | refine qPg ?_) | refine qY ?_) | (apply Q_guarded;first | (apply Q_go;first | refine qPG ?_ | refine qPgG ?_) | refine qG ?_))
    refine qG (v:=.slice ra (n+1) rc) ?_ (hy:=fun hg w hw=>y_loadE1 (gvT hg rfl) (rh.rd hw) hru)
    repeat (first | refine Q_nil ?_ | (apply Q_plain;first | (apply Q_go;first | refine qP ?_ | refine qPg ?_) | refine qY ?_) | (apply Q_guarded;first | (apply Q_go;first | refine qPG ?_ | refine qPgG ?_) | refine qG ?_))
    refine qG (v:=.int .i64 (W u v)) ?_ (hy:=fun hg w hw=>y_loadE1 (gvT hg rfl) (rr.rd hw) hWu)
    repeat (first | refine Q_nil ?_ | (apply Q_plain;first | (apply Q_go;first | refine qP ?_ | refine qPg ?_) | refine qY ?_) | (apply Q_guarded;first | (apply Q_go;first | refine qPG ?_ | refine qPgG ?_) | refine qG ?_))
    refine qG (v:=.int .i64 (D u)) ?_ (hy:=fun hg w hw=>y_loadE1 (gvT hg rfl) (hw.own_rd (i:=1) rfl) hDu)
    repeat (first | refine Q_nil ?_ | (apply Q_plain;first | (apply Q_go;first | refine qP ?_ | refine qPg ?_) | refine qY ?_) | (apply Q_guarded;first | (apply Q_go;first | refine qPG ?_ | refine qPgG ?_) | refine qG ?_))
    refine qG (v:=.pointer (some ⟨aB ca,aO ca+u * 1,none⟩)) ?_ (hy:=fun hg w hw=>y_idxI (i:=(u:Int)) hw rh (gvT hg rfl) (gvT hg rfl) (by omega) (by omega))
    repeat (first | refine Q_nil ?_ | (apply Q_plain;first | (apply Q_go;first | refine qP ?_ | refine qPg ?_) | refine qY ?_) | (apply Q_guarded;first | (apply Q_go;first | refine qPG ?_ | refine qPgG ?_) | refine qG ?_))
    refine qG (v:=.slice ra (n+1) rc) ?_ (hy:=fun hg w hw=>y_loadE1 (gvT hg rfl) (rh.rd hw) hru)
    repeat (first | refine Q_nil ?_ | (apply Q_plain;first | (apply Q_go;first | refine qP ?_ | refine qPg ?_) | refine qY ?_) | (apply Q_guarded;first | (apply Q_go;first | refine qPG ?_ | refine qPgG ?_) | refine qG ?_))
    refine qG (v:=.int .i64 (W u v)) ?_ (hy:=fun hg w hw=>y_loadE1 (gvT hg rfl) (rr.rd hw) hWu)
    repeat (first | refine Q_nil ?_ | (apply Q_plain;first | (apply Q_go;first | refine qP ?_ | refine qPg ?_) | refine qY ?_) | (apply Q_guarded;first | (apply Q_go;first | refine qPG ?_ | refine qPgG ?_) | refine qG ?_))
    refine qG (v:=.int .i64 (D v)) ?_ (hy:=fun hg w hw=>y_loadE1 (gvT hg rfl) (hw.own_rd (i:=1) rfl) hDv)
    repeat (first | refine Q_nil ?_ | (apply Q_plain;first | (apply Q_go;first | refine qP ?_ | refine qPg ?_) | refine qY ?_) | (apply Q_guarded;first | (apply Q_go;first | refine qPG ?_ | refine qPgG ?_) | refine qG ?_))
    intro w hw
    repeat (first | refine byW ?_ | (refine byV ?_;intro w hw))
    refine W_cond rfl (fun h=>?_) (fun h=>?_)
    ·simp only [Bool.and_eq_true,decide_eq_true_eq] at h
     obtain ⟨⟨h1,h2⟩,h3⟩:=h
     have hsum:=f2 h1 h2
     have hw2:Wd Γ (.own (.slice (some a4) (n+1) (n+1)) 3 1 (intRows (rowN (n+1) D))::.own (.slice (some a5) (n+1) (n+1)) 3 1 (intRows (rowN (n+1) R))::.blk b2 (.cells #[.slice da dn dc,.slice ca (n+1) cc] 129)::S) w:=hw.ps [1]
     have hw:Wd Γ ((.blk b2 (.cells #[.slice da dn dc,.slice ca (n+1) cc] 129)::S)++[.own (.slice (some a4) (n+1) (n+1)) 3 1 (intRows (rowN (n+1) D)),.own (.slice (some a5) (n+1) (n+1)) 3 1 (intRows (rowN (n+1) R))]) w:=hw2.perm (List.perm_append_comm (l₁:=[_,_]))
     refine W_seq ?_
     refine W_mixed (.blk b2 (.cells #[.slice da dn dc,.slice ca (n+1) cc] 129)::S) [fun _=>[.own (.slice (some a4) (n+1) (n+1)) 3 1 (intRows (rowN (n+1) D))],fun _=>[.own (.slice (some a5) (n+1) (n+1)) 3 1 (intRows (rowN (n+1) R))]] [[],[],[],[],[],[],[],[],[],[],[],[],[],[],[],[],[],[],[],[0],[],[1]] [[],[],[],[],[],[],[0],[0],[],[],[],[],[],[],[],[],[],[],[0],[0],[1],[1]] [[],[]] hw ?_
     repeat (first | refine mY ?_ | refine mP ?_ | refine mPg ?_)
     refine mY (v:=.pointer (some ⟨aB (some a4),aO (some a4)+u * 1,none⟩)) ?_ (hy:=fun Y w g hw=>y_idxO (j:=0) (i:=(u:Int)) hw.swapApp rfl rfl rfl (by omega) (by omega))
     refine mY (v:=.int .i64 (D u)) ?_ (hy:=fun Y w g hw=>y_loadE1 rfl (hw.swapApp.own_rd (i:=0) rfl) hDu)
     repeat (first | refine mY ?_ | refine mP ?_ | refine mPg ?_)
     refine mY (v:=.slice ra (n+1) rc) ?_ (hy:=fun Y w g hw=>y_loadE1 rfl (rh.rd hw) hru)
     repeat (first | refine mY ?_ | refine mP ?_ | refine mPg ?_)
     refine mY (v:=.int .i64 (W u v)) ?_ (hy:=fun Y w g hw=>y_loadE1 rfl (rr.rd hw) hWu)
     repeat (first | refine mY ?_ | refine mP ?_ | refine mPg ?_)
     refine mY (v:=.pointer (some ⟨aB (some a4),aO (some a4)+v * 1,none⟩)) ?_ (hy:=fun Y w g hw=>y_idxO (j:=0) (i:=(v:Int)) hw.swapApp rfl rfl rfl (by omega) (by omega))
     refine mS (c:=0) (v:=undef) (F:=fun _=>[.own (.slice (some a4) (n+1) (n+1)) 3 1 (intRows (rowN (n+1) D))]) (fun _=>[.own (.slice (some a4) (n+1) (n+1)) 3 1 ((intRows (rowN (n+1) D)).set v [.int .i64 (D u+W u v)])]) (fun g w Y hw=>s_storeE (i:=0) (k:=v) (r:=[.int .i64 (D u+W u v)]) (TSz.h (P:=Tryz.prog) (T:=3)) hw rfl rfl rfl rfl rfl rfl (by omega) fun w' hw'=>⟨fun _=>rfl,hw'⟩) ?_
     refine mY (v:=.pointer (some ⟨aB (some a5),aO (some a5)+v * 1,none⟩)) ?_ (hy:=fun Y w g hw=>y_idxO (j:=0) (i:=(v:Int)) hw.swapApp rfl rfl rfl (by omega) (by omega))
     refine mS (c:=1) (v:=undef) (F:=fun _=>[.own (.slice (some a5) (n+1) (n+1)) 3 1 (intRows (rowN (n+1) R))]) (fun _=>[.own (.slice (some a5) (n+1) (n+1)) 3 1 ((intRows (rowN (n+1) R)).set v [.int .i64 u])]) (fun g w Y hw=>s_storeE (i:=0) (k:=v) (r:=[.int .i64 u]) (TSz.h (P:=Tryz.prog) (T:=3)) hw rfl rfl rfl rfl rfl rfl (by omega) fun w' hw'=>⟨fun _=>rfl,hw'⟩) ?_
     refine mEnd fun w g hw=>?_
     have hw:Wd Γ ((.blk b2 (.cells #[.slice da dn dc,.slice ca (n+1) cc] 129)::S)++[.own (.slice (some a4) (n+1) (n+1)) 3 1 ((intRows (rowN (n+1) D)).set v [.int .i64 (D u+W u v)]),.own (.slice (some a5) (n+1) (n+1)) 3 1 ((intRows (rowN (n+1) R)).set v [.int .i64 u])]) w:=hw
     rw [rowI_set,rowI_set] at hw
     have hw:=(hw.perm (List.perm_append_comm (l₂:=[_,_]))).ps [1]
     repeat (first | refine byW ?_ | (refine byV ?_;intro w hw))
     exact ⟨n - v,by omega,v+1,true,setN D v (D u+W u v),setN R v u,by omega,hS.take hφ hs (by omega) (by omega) h1 h2 h3,⟨rfl,rfl,rfl,rfl,rfl,rfl,rfl,rfl,rfl,rfl,rfl,trivial⟩,hw⟩
    ·have hsk:¬ (D u < farV∧W u v < farV∧D u+W u v < D v):=by
      simp only [Bool.and_eq_false_iff,decide_eq_false_iff_not] at h
      unfold farV
      omega
     clear h
     repeat (first | refine byW ?_ | (refine byV ?_;intro w hw))
     exact ⟨n - v,by omega,v+1,b,D,R,by omega,hS.skip hsk,⟨rfl,rfl,rfl,rfl,rfl,rfl,rfl,rfl,rfl,rfl,rfl,trivial⟩,hw⟩
   ·have hvn:v=n+1:=by have:=of_decide_eq_false h;omega
    clear h
    subst hvn
    repeat (first | refine byW ?_ | (refine byV ?_;intro w hw))
    exact ⟨n - u,by omega,u+1,b,D,R,by omega,hS.row,⟨rfl,rfl,rfl,rfl,rfl,rfl,rfl,rfl,trivial⟩,hw⟩
  ·have hun:u=n+1:=by have:=of_decide_eq_false h;omega
   clear h
   subst hun
   repeat (first | refine byW ?_ | (refine byV ?_;intro w hw))
   exact ⟨_,(by rw [hμ];exact hS.done),b,D,R,rfl,hS.pi,fun e=>(by subst e;exact hS.paths),⟨rfl,rfl,rfl,rfl,rfl,rfl,trivial⟩,hw⟩
 ·have hb1:b=false:=by simpa using h
  clear h
  repeat (first | refine byW ?_ | (refine byV ?_;intro w hw))
  exact ⟨[_,_],⟨rfl,rfl,trivial⟩,a4,a5,D,R,rfl,hO hb1,hP.low,hw.ds [2]⟩
end Go.Proofs.YthgighljhoneeaaGreatDoor
end
section
open Go
namespace Mk
section
variable {P:Program} {n:Nat} {opa:Array Oper} {Γ:Gho} {S:List Res} {QQ:Exit→Fr→World→Prop} {K:Value→World→Prop} {ρ:Fr} {w:World} {rest:List Oper}
variable {d:Option Tmp} {T U ty:TypeId} {pos:String} {es:Array Edge} {g:Option (Nat × Bool)} {x y z:Operand}
theorem s_clearI {E by' i m c:Nat} {a:Option Addr} {xs:List Int} [hT:TL P T E 1 by' [.int .i64 0]] (hw:Wd Γ S w) (hi:S[i]? = some (.own (.slice a m c) E 1 (iRows xs))) (hx:ev ρ x=.slice a m c) (h0:0 < m)
  (hk:∀ w',Wd Γ (S.set i (.own (.slice a m c) E 1 (iRows (List.replicate m 0)))) w'→K (.tuple #[]) w'):Step P ⟨d,.call { callee:=.builtin .clear,args:=#[x],argTypes:=#[T] },ty,pos,es,g⟩ ρ w K:=by
 obtain ⟨q,zv,hq,hz,hzc⟩:=zeroOf_info hT.z
 obtain ⟨bs0,hr0⟩:=hw.own_holds hi
 unfold Res.own at hr0
 obtain ⟨q0,a',n',c',e1,e2,e3,e4,e5⟩:=hr0
 cases e1
 have hml:m=xs.length:=by simpa [iRows] using e2
 rcases e5 with ⟨hc,_⟩ | ⟨b,cur,g1,g2,g3,g4,g5⟩
 ·omega
 ·subst g1
  have hzl:(Builtin.zeroCells zv.cells m).toList.length=m:=by
   have:=size_zeroCells zv.cells m
   rw [Array.length_toList,this,hzc];simp
  have hzt:(Builtin.zeroCells zv.cells m).toList=(List.replicate m (0:Int)).map (Value.int .i64):=by
   rw [List.map_replicate]
   refine List.eq_replicate_iff.2 ⟨hzl,fun u hu=>?_⟩
   simp only [Builtin.zeroCells,Array.toList_map,List.mem_map] at hu
   obtain ⟨j,hj,rfl⟩:=hu
   rw [hzc]
   simp [Nat.mod_one]
  have hfit:0+0+(Builtin.zeroCells zv.cells m).toList.length≤cur.size:=by rw [hzl,g4];omega
  have hst:=run_storeCells_at P b 0 E _ 0 cur w g3 hfit (by rw [hzt];intro u hu;obtain ⟨v, -,rfl⟩:=List.mem_map.1 hu;rfl)
  simp only [Nat.add_zero] at hst
  have hzv:(zeroValue E).run P w=.ok zv w:=by simp [zeroValue,typeInfo,hq,hz]
  rw [hzt] at hst hzl
  have hr:(execOp (ev ρ) ⟨d,.call { callee:=.builtin .clear,args:=#[x],argTypes:=#[T] },ty,pos,es,g⟩).run P w=.ok (.value (.tuple #[])) (w.setRow b (cur.toList.take 0++(List.replicate m (0:Int)).map (Value.int .i64)++cur.toList.drop (0+((List.replicate m (0:Int)).map (Value.int .i64)).length)).toArray):=by
   obtain ⟨n1,hn1⟩:∃ n1,m=n1+1:=⟨m - 1,by omega⟩
   subst hn1
   have hcl:(Builtin.clear_ #[T] ty #[.slice (some ⟨b,0,none⟩) (n1+1) c]).run P w=.ok (.tuple #[]) (w.setRow b (cur.toList.take 0++(List.replicate (n1+1) (0:Int)).map (Value.int .i64)++cur.toList.drop (0+((List.replicate (n1+1) (0:Int)).map (Value.int .i64)).length)).toArray):=by
    simp at hst
    simp [Builtin.clear_,run_underlying hT.h,hzv,hzt]
    rw [hst]
    rfl
   simp only [execOp,resolve,invoke,builtin,Sem.run_bind,Sem.run_pure,Result.andThen_ok,List.map_toArray,List.map_cons,List.map_nil,hx,hcl]
  have hfin:=hk _ (hw.upd hi (w':=w.setRow b (cur.toList.take 0++(List.replicate m (0:Int)).map (Value.int .i64)++cur.toList.drop (0+((List.replicate m (0:Int)).map (Value.int .i64)).length)).toArray) ⟨rfl,rfl,rfl,(by first | exact Nat.le_refl _ | exact Nat.le_succ _),by simp⟩ fun bs hr' hnd hlt=>by
   unfold Res.own at hr' ⊢
   obtain ⟨q0',a3,n3,c3,f1,f2,f3,f4,f5⟩:=hr'
   cases f1
   rcases f5 with ⟨hc,_⟩ | ⟨b2,cur2,k1,k2,k3,k4,k5⟩
   ·omega
   ·cases k1
    rw [show hp w b=some (.cells cur E (0,0)) from g3] at k3;cases k3
    refine ⟨bs,⟨?_,_,_,_,rfl,by rw [iRows,List.length_map,List.length_replicate],f3,f4,.inr ⟨b,_,rfl,k2,setRow_heap w b cur _ E _ g3,?_,?_⟩⟩,hnd,fun x hx=>⟨by have:=hlt x hx;simpa using this,.inl hx⟩,fun k' _ hne=>setRow_other w b k' _ (fun e=>hne (by simp [k2,e]))⟩
    ·intro r hr
     obtain ⟨z, -,rfl⟩:=List.mem_map.1 hr
     rfl
    ·simp only [List.size_toArray,List.length_append,List.length_take,List.length_drop,Array.length_toList,List.length_map,List.length_replicate];omega
    ·rw [iRows_flat]
     simp only [List.take_zero,List.nil_append,Nat.mul_one]
     rw [List.take_left' (by simp)])
  unfold Step;rw [hr];exact hfin
theorem lClearI {E by' i m c:Nat} {a:Option Addr} {xs:List Int} [TL P T E 1 by' [.int .i64 0]] (h:∀ w',Wd Γ (S.set i (.own (.slice a m c) E 1 (iRows (List.replicate m 0)))) w'→L P n opa QQ rest (putO ρ d (.tuple #[])) w') (hi:S[i]? = some (.own (.slice a m c) E 1 (iRows xs))) (h0:0 < m) (hw:Wd Γ S w) (hx:ev ρ x=.slice a m c:=by exact rfl) (hd:okDst n d=true:=by exact rfl) :
  L P n opa QQ (⟨d,.call { callee:=.builtin .clear,args:=#[x],argTypes:=#[T] },ty,pos,es,none⟩::rest) ρ w:=L_step rfl hd (s_clearI hw hi hx h0 h)
end
end Mk
end
section
open Go Mk
namespace Go.Proofs.YthgighljhoneeaaGreatDoor
set_option maxHeartbeats 64000000
attribute [local irreducible] Calls
theorem Bk.stop {n s:Nat} {W:Nat→Nat→Int} {D R:Nat→Int} {l:List Nat} (h:Bk n W D R s s l):l=[s]:=by
 cases h with
 | nil=>rfl
 | cons h=>exact absurd rfl h
theorem Bk.step {n s v:Nat} {W:Nat→Nat→Int} {D R:Nat→Int} {l:List Nat} (h:Bk n W D R s v l) (hv:v≠s):∃ u t,l=v::u::t∧u≤n∧v≤n∧R v=u∧W u v < farV∧Bk n W D R s u (u::t):=by
  cases h with
  | nil=>exact absurd rfl hv
  | cons h1 h2 h3 h4 h5 h6 h7 h8=>
    obtain ⟨t,rfl⟩:=h8.head
    exact ⟨_,t,rfl,h2,h3,h4,h5,h8⟩
theorem intsI_set {x:List Int} {v:Nat} {z:Int}:(intRows x).set v [.int .i64 z]=intRows (x.set v z):=by unfold intRows;rw [List.map_set]
theorem intsI_get {x:List Int} {v:Nat} {z:Int} (h:x[v]? = some z):(intRows x)[v]? = some [.int .i64 z]:=by unfold intRows;rw [List.getElem?_map,h];rfl
def cntN (x:List Int) (i u:Nat):Int:=((x.take i).count (u:Int):Nat)
theorem cnt_neg {x:List Int} {i:Nat} {z:Int} (h:x[i]? = some z) (hz:z < 0):cntN x i=cntN x (i+1):=by
 funext u
 unfold cntN
 rw [List.take_add_one,h,List.count_append]
 simp only [Option.toList_some,List.count_singleton]
 rw [if_neg (by simp;omega)];rfl
theorem cnt_pos {x:List Int} {i c:Nat} (h:x[i]? = some (c:Int)):setN (cntN x i) c (cntN x i c+1)=cntN x (i+1):=by
 funext u
 unfold cntN setN
 rw [List.take_add_one,h,List.count_append]
 simp only [Option.toList_some,List.count_singleton]
 by_cases e:u=c
 ·subst e;simp
 ·rw [if_neg e,if_neg (by simp;omega)];rfl
set_option maxRecDepth 8000 in
theorem put_core {Γ:Gho} {bA n d s v0:Nat} {capV:Value} {x:List Int} {l0:List Nat} {W V:Nat→Nat→Int} {D R:Nat→Int} {va xa la da ca pa:Option Addr} {vn vc xn xc lc dc cn cc pc:Nat}
  (hB:ImB Γ bA #[.slice va vn vc,capV,.slice xa xn xc,.slice la n lc] 105) (hM:MatF Γ (.slice da (n+1) dc) (mat (n+1) (n+1) V)) (hR:RepS Γ (.slice pa (n+1) pc) 1 (intRows (rowN (n+1) R)))
  (hg:∀ u v,u≤n→v≤n→W u v < farV→V u v < 0∨V u v < x.length) (hk:Bk n W D R s v0 l0) (hv0:v0≤n) (hd:d < x.length) (hs:s≤n) (hx1:∀ v∈(moveL V l0 x).set d s,v < n) (hl:x.length≤1000) (hn:n≤64) (hxn:xn=x.length)
  {L:Nat→Int} {S:List Res} {w:World} (hw:Wd Γ (.own (.slice la n lc) 3 1 (intRows (rowN n L))::.own (.slice xa xn xc) 3 1 (intRows x)::S) w) :
  Calls Tryz.prog 86 #[.pointer (some ⟨bA,0,none⟩),.int .i64 (d:Nat),.int .i64 (s:Nat),.int .i64 (v0:Nat),.agg #[.slice da (n+1) dc,.slice ca cn cc],.slice pa (n+1) pc] w fun e w'=>e=.returned (.tuple #[]) ∧
   Wd Γ (.own (.slice la n lc) 3 1 (intRows (rowN n fun u=>(((moveL V l0 x).set d s).count (u:Int):Nat)))::.own (.slice xa xn xc) 3 1 (intRows ((moveL V l0 x).set d s))::S) w':=by
 subst hxn
 obtain ⟨x0,hx0⟩:∃ x0,x0=moveL V l0 x:=⟨_,rfl⟩
 rw [← hx0] at hx1 ⊢
 refine calls_of_WC Tryz.func86 rfl rfl ?_
 repeat (first | refine byW ?_ | (refine byV ?_;intro w hw))
 refine lBox ?_
 intro b10 w hw
 have hw:Wd Γ (.blk b10 (.cells #[.slice da (n+1) dc,.slice ca cn cc] 129)::.own (.slice la n lc) 3 1 (intRows (rowN n L))::.own (.slice xa x.length xc) 3 1 (intRows x)::S) w:=hw
 repeat (first | refine byW ?_ | (refine byV ?_;intro w hw))
 refine W_loop (fun μ ρ w=>∃ (v:Nat) (l:List Nat) (x':List Int),μ=l.length∧Bk n W D R s v l∧moveL V l x'=x0∧x'.length=x.length∧Has ρ [(0,.pointer (some ⟨bA,0,none⟩)),(1,.int .i64 d),(2,.int .i64 s),(5,.slice pa (n+1) pc),(10,.pointer (some ⟨b10,0,none⟩)),(12,.int .i64 v)]∧Wd Γ (.blk b10 (.cells #[.slice da (n+1) dc,.slice ca cn cc] 129)::.own (.slice la n lc) 3 1 (intRows (rowN n L))::.own (.slice xa x.length xc) 3 1 (intRows x')::S) w) _ ⟨v0,l0,x,rfl,hk,hx0.symm,rfl,⟨rfl,rfl,rfl,rfl,rfl,rfl,trivial⟩,hw⟩ ?_
 clear hw
 rintro μ ρ w ⟨v,l,x',hμ,hbk,hmv,hxl,hρ,hw⟩
 rw [hρ.eq]
 clear hρ
 repeat (first | refine byW ?_ | (refine byV ?_;intro w hw))
 refine W_cond rfl (fun h=>?_) (fun h=>?_)
 ·have hvs:v≠s:=by
   have h:decide ((v:Int)≠s)=true:=h
   have:=of_decide_eq_true h
   omega
  clear h
  obtain ⟨u,t,rfl,hun,hvn,hRv,hW,hbk2⟩:=hbk.step hvs
  have hVuv:=hg u v hun hvn hW
  obtain ⟨ra,rn,rc,hs',hrn,rr,rh,hru⟩:=hM.at (mat_get (C:=V) (N:=n+1) (show u < n+1 by omega))
  rw [rowN_len] at hrn
  have hrn:=hrn.symm
  subst hrn
  have hVg:(intRows (rowN (n+1) (V u)))[v]? = some [.int .i64 (V u v)]:=rowI_get (by omega)
  have hRg:(intRows (rowN (n+1) R))[v]? = some [.int .i64 u]:=by rw [← hRv];exact rowI_get (by omega)
  repeat (first | refine byW ?_ | (refine byV ?_;intro w hw))
  refine W_quiet (by kernel_rfl) (by kernel_rfl) hw ?_
  repeat (first | refine Q_nil ?_ | (apply Q_plain;first | (apply Q_go;first | refine qP ?_ | refine qPg ?_) | refine qY ?_) | (apply Q_guarded;first | (apply Q_go;first | refine qPG ?_ | refine qPgG ?_) | refine qG ?_))
  refine qY (v:=.int .i64 u) ?_ (hy:=fun w hw=>y_loadE1 rfl (hR.rd hw) hRg)
  repeat (first | refine Q_nil ?_ | (apply Q_plain;first | (apply Q_go;first | refine qP ?_ | refine qPg ?_) | refine qY ?_) | (apply Q_guarded;first | (apply Q_go;first | refine qPG ?_ | refine qPgG ?_) | refine qG ?_))
  refine qY (v:=.slice ra (n+1) rc) ?_ (hy:=fun w hw=>y_loadE1 rfl (rh.rd hw) hru)
  repeat (first | refine Q_nil ?_ | (apply Q_plain;first | (apply Q_go;first | refine qP ?_ | refine qPg ?_) | refine qY ?_) | (apply Q_guarded;first | (apply Q_go;first | refine qPG ?_ | refine qPgG ?_) | refine qG ?_))
  refine qY (v:=.int .i64 (V u v)) ?_ (hy:=fun w hw=>y_loadE1 rfl (rr.rd hw) hVg)
  repeat (first | refine Q_nil ?_ | (apply Q_plain;first | (apply Q_go;first | refine qP ?_ | refine qPg ?_) | refine qY ?_) | (apply Q_guarded;first | (apply Q_go;first | refine qPG ?_ | refine qPgG ?_) | refine qG ?_))
  intro w hw
  repeat (first | refine byW ?_ | (refine byV ?_;intro w hw))
  refine W_cond rfl (fun h=>?_) (fun h=>?_)
  ·have h0:0≤V u v:=of_decide_eq_true h
   clear h
   obtain ⟨k,hk2⟩:∃ k:Nat,V u v=k:=⟨(V u v).toNat,by omega⟩
   have hkx:k < x.length:=by omega
   repeat (first | refine byW ?_ | (refine byV ?_;intro w hw))
   refine lY (v:=.slice xa x.length xc) ?_ (hy:=y_l1m hw rfl rfl)
   rw [hk2]
   repeat (first | refine byW ?_ | (refine byV ?_;intro w hw))
   refine lStoreE (k:=k) (v:=.int .i64 v) ?_
   intro w hw
   have hw:Wd Γ (.blk b10 (.cells #[.slice da (n+1) dc,.slice ca cn cc] 129)::.own (.slice la n lc) 3 1 (intRows (rowN n L))::.own (.slice xa x.length xc) 3 1 ((intRows x').set k [.int .i64 v])::S) w:=hw
   rw [intsI_set] at hw
   repeat (first | refine byW ?_ | (refine byV ?_;intro w hw))
   refine lY (v:=.int .i64 u) ?_ (hy:=y_loadE1 rfl (hR.rd hw) hRg)
   repeat (first | refine byW ?_ | (refine byV ?_;intro w hw))
   refine ⟨(u::t).length,by rw [hμ];simp,u,u::t,x'.set k v,rfl,hbk2,?_,by simpa using hxl,⟨rfl,rfl,rfl,rfl,rfl,rfl,trivial⟩,hw⟩
   rw [← hmv]
   show _=moveL V (u::t) (if 0≤V u v then x'.set (V u v).toNat v else x')
   rw [if_pos h0,hk2];rfl
  ·have h0:¬ 0≤V u v:=of_decide_eq_false h
   clear h
   repeat (first | refine byW ?_ | (refine byV ?_;intro w hw))
   refine lY (v:=.int .i64 u) ?_ (hy:=y_loadE1 rfl (hR.rd hw) hRg)
   repeat (first | refine byW ?_ | (refine byV ?_;intro w hw))
   refine ⟨(u::t).length,by rw [hμ];simp,u,u::t,x',rfl,hbk2,?_,hxl,⟨rfl,rfl,rfl,rfl,rfl,rfl,trivial⟩,hw⟩
   rw [← hmv]
   show _=moveL V (u::t) (if 0≤V u v then x'.set (V u v).toNat v else x')
   rw [if_neg h0]
 ·have hvs:s=v:=by
   have h:decide ((v:Int)≠s)=false:=h
   have:=of_decide_eq_false h
   omega
  clear h
  subst hvs
  have hls:=hbk.stop
  subst hls
  have hmv:x0=x':=hmv.symm
  subst hmv
  clear hbk hμ hx0 hk
  have hxl2:=hxl.symm
  repeat (first | refine byW ?_ | (refine byV ?_;intro w hw))
  refine lY (v:=.slice xa x.length xc) ?_ (hy:=y_l1m hw rfl rfl)
  repeat (first | refine byW ?_ | (refine byV ?_;intro w hw))
  refine lStoreE (k:=d) (v:=.int .i64 s) ?_
  intro w hw
  have hw:Wd Γ (.blk b10 (.cells #[.slice da (n+1) dc,.slice ca cn cc] 129)::.own (.slice la n lc) 3 1 (intRows (rowN n L))::.own (.slice xa x.length xc) 3 1 ((intRows x0).set d [.int .i64 s])::S) w:=hw
  rw [intsI_set] at hw
  have hsn:(s:Int) < n:=hx1 _ (List.mem_of_getElem? (i:=d) (by rw [List.getElem?_set_self (by omega)]))
  have hxl3:(x0.set d (s:Int)).length=x.length:=by simpa using hxl
  generalize x0.set d (s:Int)=x1 at *
  repeat (first | refine byW ?_ | (refine byV ?_;intro w hw))
  refine lY (v:=.slice la n lc) ?_ (hy:=y_l1m hw rfl rfl)
  refine lClearI (i:=1) (xs:=rowN n L) ?_ rfl (by omega) hw
  intro w hw
  have hz:iRows (List.replicate n 0)=intRows (rowN n (cntN x1 0)):=by
   rw [iRows_eq,rep_row]
   exact congrArg intRows (rowN_congr fun u _=>by simp [cntN])
  have hw:Wd Γ (.blk b10 (.cells #[.slice da (n+1) dc,.slice ca cn cc] 129)::.own (.slice la n lc) 3 1 (iRows (List.replicate n 0))::.own (.slice xa x.length xc) 3 1 (intRows x1)::S) w:=hw
  rw [hz] at hw
  repeat (first | refine byW ?_ | (refine byV ?_;intro w hw))
  refine lY (v:=.slice xa x.length xc) ?_ (hy:=y_l1m hw rfl rfl)
  repeat (first | refine byW ?_ | (refine byV ?_;intro w hw))
  refine W_loop (fun μ ρ w=>∃ i:Nat,μ+i=x.length∧Has ρ [(0,.pointer (some ⟨bA,0,none⟩)),(58,.slice xa x.length xc),(59,.int .i64 x.length),(60,.int .i64 i)]∧Wd Γ (.blk b10 (.cells #[.slice da (n+1) dc,.slice ca cn cc] 129)::.own (.slice la n lc) 3 1 (intRows (rowN n (cntN x1 i)))::.own (.slice xa x.length xc) 3 1 (intRows x1)::S) w) x.length ⟨0,by omega,⟨rfl,rfl,rfl,rfl,trivial⟩,hw⟩ ?_
  clear hw
  rintro μ2 ρ w ⟨i,hμ2,hρ,hw⟩
  rw [hρ.eq]
  clear hρ
  repeat (first | refine byW ?_ | (refine byV ?_;intro w hw))
  refine W_cond rfl (fun h=>?_) (fun h=>?_)
  ·have hix:i < x.length:=by have:=of_decide_eq_true h;omega
   clear h
   obtain ⟨z,hz2⟩:=get_lt (l:=x1) (k:=i) (by omega)
   have hzn:=hx1 z (List.mem_of_getElem? hz2)
   have hzg:=intsI_get hz2
   repeat (first | refine byW ?_ | (refine byV ?_;intro w hw))
   refine W_cond rfl (fun h=>?_) (fun h=>?_)
   ·have h0:0≤z:=of_decide_eq_true h
    clear h
    obtain ⟨c,rfl⟩:∃ c:Nat,z=c:=⟨z.toNat,by omega⟩
    have hcg:(intRows (rowN n (cntN x1 i)))[c]? = some [.int .i64 (cntN x1 i c)]:=rowI_get (by omega)
    have hcb:0≤cntN x1 i c∧cntN x1 i c≤1000:=by
     unfold cntN
     have h1:(x1.take i).count (c:Int)≤(x1.take i).length:=List.count_le_length
     rw [List.length_take] at h1
     omega
    repeat (first | refine byW ?_ | (refine byV ?_;intro w hw))
    refine lY (v:=.slice la n lc) ?_ (hy:=y_l1m hw rfl rfl)
    repeat (first | refine byW ?_ | (refine byV ?_;intro w hw))
    refine lY (v:=.int .i64 (cntN x1 i c)) ?_ (hy:=y_loadE1 rfl (hw.own_rd (i:=1) rfl) hcg)
    repeat (first | refine byW ?_ | (refine byV ?_;intro w hw))
    refine lStoreE (k:=c) (v:=.int .i64 (cntN x1 i c+1)) ?_
    intro w hw
    have hw:Wd Γ (.blk b10 (.cells #[.slice da (n+1) dc,.slice ca cn cc] 129)::.own (.slice la n lc) 3 1 ((intRows (rowN n (cntN x1 i))).set c [.int .i64 (cntN x1 i c+1)])::.own (.slice xa x.length xc) 3 1 (intRows x1)::S) w:=hw
    rw [rowI_set,cnt_pos hz2] at hw
    repeat (first | refine byW ?_ | (refine byV ?_;intro w hw))
    exact ⟨x.length - i - 1,by omega,i+1,by omega,⟨rfl,rfl,rfl,rfl,trivial⟩,hw⟩
   ·have h0:z < 0:=by have:=of_decide_eq_false h;omega
    clear h
    rw [cnt_neg hz2 h0] at hw
    repeat (first | refine byW ?_ | (refine byV ?_;intro w hw))
    exact ⟨x.length - i - 1,by omega,i+1,by omega,⟨rfl,rfl,rfl,rfl,trivial⟩,hw⟩
  ·have hix:i=x1.length:=by have:=of_decide_eq_false h;omega
   clear h
   repeat (first | refine byW ?_ | (refine byV ?_;intro w hw))
   refine ⟨[],trivial,rfl,?_⟩
   have he:rowN n (cntN x1 i)=rowN n fun u=>((x1.count (u:Int):Nat):Int):=rowN_congr fun u _=>by unfold cntN;rw [hix,List.take_length]
   rw [he] at hw
   exact hw.ds [0]
end Go.Proofs.YthgighljhoneeaaGreatDoor
end
section
open Go Mk
namespace Go.Proofs.YthgighljhoneeaaGreatDoor
set_option maxHeartbeats 16000000
attribute [local irreducible] Calls
theorem own_repG {Γ:Gho} {S:List Res} {w:World} {i e sz:Nat} {v:Value} {rows:List (List Value)} (hw:Wd Γ S w) (hi:S[i]? = some (.own v e sz rows)):RepS (hpG Γ w) v sz rows:=by
 obtain ⟨bs,hr⟩:=hw.own_holds hi
 unfold Res.own at hr
 obtain ⟨q0,a,n,c,e1,e2,e3,e4,e5⟩:=hr
 unfold RepS
 refine ⟨q0,a,n,c,e1,e2,e3,e4,fun h0=>?_⟩
 rcases e5 with ⟨hc,_⟩ | ⟨g,cur,g1,g2,g3,g4,g5⟩
 ·omega
 ·refine ⟨g,0,cur,e,(0,0),g1,g3,fun j u hj=>?_⟩
  rw [← g5] at hj
  rw [List.getElem?_take] at hj
  split at hj
  ·rw [Nat.zero_add];simpa using hj
  ·cases hj
theorem inn_own {E sz:Nat} {L:List (Value × List (List Value))}:∀ r∈inn E sz L,∃ v e sz rows,r=Res.own v e sz rows:=fun r hr=>by
 unfold inn at hr
 obtain ⟨p, -,rfl⟩:=List.mem_map.1 hr
 exact ⟨_,_,_,_,rfl⟩
theorem owns_noimm {m m' h:Hp} {R:List Res} (H:∀ r∈R,∃ v e sz rows,r=Res.own v e sz rows):∀ r∈R,∀ bs,r.holds m bs h→r.holds m' bs h:=fun r hr bs hh=>by
 obtain ⟨v,e,sz,rows,rfl⟩:=H r hr
 unfold Res.own at hh ⊢
 exact hh
theorem MatF.slice {Γ:Gho} {v:Value} {M:List (List Int)} (h:MatF Γ v M):∃ a c,v=.slice a M.length c:=by
 obtain ⟨hs,h1,h2, -⟩:=h.ex
 obtain ⟨a,n,c,rfl,hn, -, -⟩:=h2.shape
 simp only [hdrs,List.length_map] at hn
 exact ⟨a,c,by rw [hn,h1]⟩
theorem graph_any {Γ:Gho} {bA n cap first:Nat} {A:List (List Int)} {x:List Int} {va xa la:Option Addr} {vn vc xn xc lc:Nat} (hB:ImB Γ bA #[.slice va vn vc,.int .i64 cap,.slice xa xn xc,.slice la n lc] 105) (hM:MatF Γ (.slice va vn vc) A)
  (hn:n≤64) (hC:CostM n A) (hAl:A.length=x.length) (hx:∀ v∈x, -1≤v∧v < n) (hl:x.length≤1000) (hfi:first≤x.length) {S:List Res} {w:World}
  (hw:Wd Γ (.own (.slice la n lc) 3 1 (intRows (rowN n fun u=>(x.count (u:Int):Nat)))::.own (.slice xa xn xc) 3 1 (intRows x)::S) w) :
  Calls Tryz.prog 84 #[.pointer (some ⟨bA,0,none⟩),.int .i64 (first:Nat)] w fun e w'=>∃ (Γ':Gho) (da ca:Option Addr) (dc cc:Nat) (W V:Nat→Nat→Int),Γ.le Γ'∧e=.returned (.agg #[.slice da (n+1) dc,.slice ca (n+1) cc])∧GP n cap first (aF A) x x.length 0 W V ∧
   MatF Γ' (.slice da (n+1) dc) (mat (n+1) (n+1) V)∧MatF Γ' (.slice ca (n+1) cc) (mat (n+1) (n+1) W) ∧
   Wd Γ' (.own (.slice la n lc) 3 1 (intRows (rowN n fun u=>(x.count (u:Int):Nat)))::.own (.slice xa xn xc) 3 1 (intRows x)::S) w':=by
 have hle:=hpG_le hw
 have hF:AsgF (hpG Γ w) bA n cap A x:=⟨va,vn,vc,xa,xn,xc,la,n,lc,hB.mono hle,hM.mono hle,own_repG (i:=1) hw rfl,own_repG (i:=0) hw rfl⟩
 refine (graph_core (Γ:=hpG Γ w) hF hn hC hAl hx hl hfi (S:=[]) (hpG_wd hw)).mono fun e w' hq=>?_
 obtain ⟨dv,cv,hd,hc,W,V,rfl,hhd,hhc,hG,hw'⟩:=hq
 have hw1:=wd_keptG hw (Gho.le.refl _) (owns_noimm (by
  intro r hr
  simp only [List.mem_cons,List.mem_append,List.not_mem_nil,or_false] at hr
  rcases hr with rfl | rfl | hr | hr
  ·exact ⟨_,_,_,_,rfl⟩
  ·exact ⟨_,_,_,_,rfl⟩
  ·exact inn_own r hr
  ·exact inn_own r hr)) hw'
 generalize hS:(Res.own (.slice la n lc) 3 1 (intRows (rowN n fun u=>(x.count (u:Int):Nat)))::.own (.slice xa xn xc) 3 1 (intRows x)::S)=S1 at hw1 ⊢
 generalize hIc:inn 3 1 (innM hc (mat (n+1) (n+1) W))=Ic at hw1
 generalize hId:inn 3 1 (innM hd (mat (n+1) (n+1) V))=Id at hw1
 have hp:(Res.own dv 29 1 (hdrs hd)::Res.own cv 29 1 (hdrs hc)::(Ic++(Id++[]))++S1).Perm (Res.own dv 29 1 (hdrs hd)::(Id++(Res.own cv 29 1 (hdrs hc)::(Ic++S1)))):=by
  rw [List.append_nil]
  simp only [List.cons_append,List.append_assoc]
  exact List.Perm.cons _ (List.perm_append_comm_assoc (Res.own cv 29 1 (hdrs hc)::Ic) Id S1)
 have hw2:=hw1.perm hp
 rw [← hId] at hw2
 obtain ⟨Γ1,h1,hV,hw3⟩:=mat_freeze (by rw [mat_len];exact hhd) hw2
 rw [← hIc] at hw3
 obtain ⟨Γ2,h2,hW,hw4⟩:=mat_freeze (by rw [mat_len];exact hhc) hw3
 obtain ⟨da,dc,rfl⟩:=hV.slice
 obtain ⟨ca,cc,rfl⟩:=hW.slice
 rw [mat_len] at hV hW ⊢
 exact ⟨Γ2,da,ca,dc,cc,W,V,h1.trans h2,by rw [mat_len],hG,hV.mono h2,hW,hw4⟩
end Go.Proofs.YthgighljhoneeaaGreatDoor
end
