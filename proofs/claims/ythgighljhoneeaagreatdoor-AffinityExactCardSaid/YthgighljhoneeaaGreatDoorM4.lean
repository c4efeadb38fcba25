/- Texts of this proof, one behind another. -/
import Derived.Test.YthgighljhoneeaaGreatDoorM3
import Derived.Test.YthgighljhoneeaaGreatDoorM2
import Derived.Shelf.SlLaysF0
import Derived.Shelf.Slices.In.SortNone
import Derived.Shelf.Slices.CompactI
import Derived.Sort.EveryDepth
import Derived.Shelf.Lays
import Derived.Shelf.Lays2
import Derived.Lib.LaidTab
set_option linter.unusedVariables false
set_option linter.unusedSimpArgs false
section
open Go Mk
namespace Go.Proofs.YthgighljhoneeaaGreatDoor
set_option maxHeartbeats 16000000
attribute [local irreducible] Calls
theorem mark_true:∀ (xs:List Int) (R:List Bool) (k:Nat),(markN R xs)[k]? = some true→R[k]? = some true∨∃ x∈xs,x.toNat=k
  | [],R,k,h=>.inl h
  | x::xs,R,k,h=>by
    have h:(markN (R.set x.toNat true) xs)[k]? = some true:=h
    rcases mark_true xs _ k h with h1 | ⟨y,hy,he⟩
    · by_cases e:x.toNat=k
      · exact .inr ⟨x,by simp,e⟩
      · rw [List.getElem?_set_ne e] at h1;exact .inl h1
    · exact .inr ⟨y,by simp [hy],he⟩
theorem set_true_self {R:List Bool} {k:Nat} (h:R[k]? = some true):R.set k true=R:=by
 obtain ⟨h1,h2⟩:=List.getElem?_eq_some_iff.1 h
 rw [← h2];exact List.set_getElem_self h1
def ClosedR (ls:List LinkT) (R:List Bool):Prop:=∀ l∈ls,R.getD l.A.toNat false=R.getD l.B.toNat false
theorem connectedR_any {Γ:Gho} {S:List Res} {w:World} {u:Value} {H:HwT} [hh:HwR Γ u H] (hcnt:countsB H=true) (hcr:coresRB H=true) (hrr:regionsRB H=true) (hw:Wd Γ S w):Calls Tryz.prog 73 #[u] w fun e w'=>e=.returned (.bool (connB H))∧Wd Γ S w':=by
  obtain ⟨l0,l1,l2,l3,l4,l5⟩:=counts_le hcnt
  obtain ⟨hNd,hLk⟩:=nodes_in hcr hrr
  obtain ⟨a1,n1,c1,a2,n2,c2,a3,n3,c3,a4,n4,c4,a5,n5,c5,cs,rfl,hcs,hok,hsz,r1,r2,r3,r4,r5⟩:=hh.h
  obtain ⟨hn1,hm1,hx1⟩:=rep_facts r1
  obtain ⟨hn3,hm3,hx3⟩:=rep_facts r3
  simp only [List.length_map] at hn1 hn3
  obtain ⟨x0,hx0⟩:=get_lt (l:=H.Cores) (k:=0) (by omega)
  have hhead:(usedN H).headD 0=x0.Node:=by
    refine head_used ?_
    unfold usedN
    rw [List.getElem?_append_left (by simp;omega),List.getElem?_append_left (by simp;omega),List.getElem?_map,hx0];rfl
  have hs0:0≤x0.Node∧x0.Node < 64:=hNd x0.Node (by unfold usedN;simp only [List.mem_append];exact .inl (.inl (List.mem_map_of_mem (List.mem_of_getElem? hx0))))
  obtain ⟨hs00,hs01⟩:=hs0
  have hst:Known H.Links x0.Node ((List.replicate 64 false).set x0.Node.toNat true):=known_start (by omega)
  refine calls_of_W Tryz.func73 rfl rfl ?_
  repeat (first | refine byW ?_ | (refine byV ?_;intro w hw))
  refine lBox ?_
  intro b1 w hw
  repeat (first | refine byW ?_ | (refine byV ?_;intro w hw))
  refine lAlloc ?_
  intro b3 w hw
  have hw:Wd Γ (.blk b3 (.cells ((List.replicate 64 false).map Value.bool).toArray 147)::.blk b1 (hwC H a1 n1 c1 a2 n2 c2 a3 n3 c3 a4 n4 c4 a5 n5 c5)::S) w:=hw
  repeat (first | refine byW ?_ | (refine byV ?_;intro w hw))
  refine lStore (o:=0+x0.Node.toNat * 1) (ho:=by simp;omega) ?_
  intro w hw
  have hw:Wd Γ (.blk b3 (.cells (putCells ((List.replicate 64 false).map Value.bool).toArray (0+x0.Node.toNat * 1) [.bool true]) 147)::.blk b1 (hwC H a1 n1 c1 a2 n2 c2 a3 n3 c3 a4 n4 c4 a5 n5 c5)::S) w:=hw
  rw [putBool (by simp;omega)] at hw
  repeat (first | refine byW ?_ | (refine byV ?_;intro w hw))
  refine W_loop (fun μ ρ w=>∃ (t:Nat) (R:List Bool),μ+t=64∧Known H.Links x0.Node R∧R[x0.Node.toNat]? = some true∧(ClosedR H.Links R∨R.count false+t≤63)∧Has ρ [(1,.pointer (some ⟨b1,0,none⟩)),(3,.pointer (some ⟨b3,0,none⟩)),(4,.int .i64 t)]∧Wd Γ (.blk b3 (.cells (R.map Value.bool).toArray 147)::.blk b1 (hwC H a1 n1 c1 a2 n2 c2 a3 n3 c3 a4 n4 c4 a5 n5 c5)::S) w) 64 ⟨0,_,by omega,hst,by rw [List.getElem?_set_self (by simp;omega)],.inr (by
    have:=count_set_lt (R:=List.replicate 64 false) (k:=x0.Node.toNat) (by rw [List.getElem?_replicate,if_pos (by omega)])
    rw [List.count_replicate_self] at this;omega),⟨rfl,rfl,rfl,trivial⟩,hw⟩ ?_
  clear hw hst
  rintro μ ρ w ⟨t,R,ht,hkn,hR0,hcl,hρ,hw⟩
  rw [hρ.eq]
  clear hρ
  repeat (first | refine byW ?_ | (refine byV ?_;intro w hw))
  refine W_cond rfl (fun h=>?_) (fun h=>?_)
  · have ht64:t < 64:=by have:=of_decide_eq_true h;omega
    clear h
    repeat (first | refine byW ?_ | (refine byV ?_;intro w hw))
    refine W_loop (fun μ2 ρ w=>∃ (k:Nat) (R2:List Bool),μ2+k=n3∧Known H.Links x0.Node R2∧R2[x0.Node.toNat]? = some true∧((R2=R∧∀ (i:Nat) (l:LinkT),i < k→H.Links[i]? = some l→R.getD l.A.toNat false=R.getD l.B.toNat false)∨(¬ ClosedR H.Links R∧R2.count false+1≤R.count false))∧Has ρ [(1,.pointer (some ⟨b1,0,none⟩)),(3,.pointer (some ⟨b3,0,none⟩)),(4,.int .i64 t),(5,.int .i64 k)]∧Wd Γ (.blk b3 (.cells (R2.map Value.bool).toArray 147)::.blk b1 (hwC H a1 n1 c1 a2 n2 c2 a3 n3 c3 a4 n4 c4 a5 n5 c5)::S) w) n3 ⟨0,R,by omega,hkn,hR0,.inl ⟨rfl,fun i l h=>by omega⟩,⟨rfl,rfl,rfl,rfl,trivial⟩,hw⟩ ?_
    clear hw hR0 hkn
    rintro μ2 ρ w ⟨k,R2,hk,hkn,hR0,hor,hρ,hw⟩
    rw [hρ.eq]
    clear hρ
    have hRl:=hkn.len
    repeat (first | refine byW ?_ | (refine byV ?_;intro w hw))
    refine W_cond rfl (fun h2=>?_) (fun h2=>?_)
    · have hkn3:k < n3:=by have:=of_decide_eq_true h2;omega
      clear h2
      obtain ⟨x,hx⟩:=get_lt (l:=H.Links) (k:=k) (by omega)
      obtain ⟨hA0,hA1,hB0,hB1⟩:=hLk x (List.mem_of_getElem? hx)
      obtain ⟨ba,hba⟩:=get_lt (l:=R2) (k:=x.A.toNat) (by omega)
      obtain ⟨bb,hbb⟩:=get_lt (l:=R2) (k:=x.B.toNat) (by omega)
      have hxm:=List.mem_of_getElem? hx
      have ga:R2.getD x.A.toNat false=ba:=by rw [List.getD_eq_getElem?_getD,hba];rfl
      have gb:R2.getD x.B.toNat false=bb:=by rw [List.getD_eq_getElem?_getD,hbb];rfl
      repeat (first | refine byW ?_ | (refine byV ?_;intro w hw))
      refine lAlloc ?_
      intro b6 w hw
      refine lStore ?_
      intro w hw
      have hw:Wd Γ (.blk b6 (.cells (enc x).toArray 98)::.blk b3 (.cells (R2.map Value.bool).toArray 147)::.blk b1 (hwC H a1 n1 c1 a2 n2 c2 a3 n3 c3 a4 n4 c4 a5 n5 c5)::S) w:=hw
      repeat (first | refine byW ?_ | (refine byV ?_;intro w hw))
      refine lY (v:=.bool ba) ?_ (hy:=y_l1b (i:=1) hw rfl rfl (getBool hba))
      repeat (first | refine byW ?_ | (refine byV ?_;intro w hw))
      refine lG (v:=.bool bb) ?_ (hv:=fun hc=>y_l1b (i:=1) hw (gvT hc rfl) rfl (getBool hbb))
      repeat (first | refine byW ?_ | (refine byV ?_;intro w hw))
      refine W_cond rfl (fun h3=>?_) (fun h3=>?_)
      · have h3:(ba || bb)=true:=h3
        repeat (first | refine byW ?_ | (refine byV ?_;intro w hw))
        refine lStore (i:=1) (o:=0+x.A.toNat * 1) (ho:=by simp;omega) ?_
        intro w hw
        have hw:Wd Γ (.blk b6 (.cells (enc x).toArray 98)::.blk b3 (.cells (putCells (R2.map Value.bool).toArray (0+x.A.toNat * 1) [.bool true]) 147)::.blk b1 (hwC H a1 n1 c1 a2 n2 c2 a3 n3 c3 a4 n4 c4 a5 n5 c5)::S) w:=hw
        rw [putBool (by omega)] at hw
        repeat (first | refine byW ?_ | (refine byV ?_;intro w hw))
        refine lStore (i:=1) (o:=0+x.B.toNat * 1) (ho:=by simp;omega) ?_
        intro w hw
        have hw:Wd Γ (.blk b6 (.cells (enc x).toArray 98)::.blk b3 (.cells (putCells ((R2.set x.A.toNat true).map Value.bool).toArray (0+x.B.toNat * 1) [.bool true]) 147)::.blk b1 (hwC H a1 n1 c1 a2 n2 c2 a3 n3 c3 a4 n4 c4 a5 n5 c5)::S) w:=hw
        rw [putBool (by simp;omega)] at hw
        have hRA:Reach H.Links x0.Node x.A∧Reach H.Links x0.Node x.B:=by
          cases ba with
          | true=>
            obtain ⟨n,hn,hn0,hr⟩:=hkn.ok _ hba
            have:n=x.A:=by omega
            subst this
            exact ⟨hr,.ab hxm hr⟩
          | false=>
            have:bb=true:=by simpa using h3
            subst this
            obtain ⟨n,hn,hn0,hr⟩:=hkn.ok _ hbb
            have:n=x.B:=by omega
            subst this
            exact ⟨.ba hxm hr,hr⟩
        have hS0:((R2.set x.A.toNat true).set x.B.toNat true)[x0.Node.toNat]? = some true:=by
          rw [List.getElem?_set,List.getElem?_set]
          split
          · simp;omega
          · split
            · simp;omega
            · exact hR0
        have hne:ba=bb∧(R2.set x.A.toNat true).set x.B.toNat true=R2∨ba≠bb∧((R2.set x.A.toNat true).set x.B.toNat true).count false+1≤R2.count false:=by
          cases ba with
          | true=>
            rw [set_true_self hba]
            cases bb with
            | true=>exact .inl ⟨rfl,set_true_self hbb⟩
            | false=>exact .inr ⟨by simp,count_set_lt hbb⟩
          | false=>
            have:bb=true:=by simpa using h3
            subst this
            refine .inr ⟨by simp,?_⟩
            have h5:=count_set_lt hba
            have h6:=count_set_le (R:=R2.set x.A.toNat true) (k:=x.B.toNat)
            omega
        have hcnt2:((R2.set x.A.toNat true).set x.B.toNat true).count false≤R2.count false:=Nat.le_trans count_set_le count_set_le
        repeat (first | refine byW ?_ | (refine byV ?_;intro w hw))
        refine ⟨μ2 - 1,by omega,k+1,_,by omega,(hkn.set hA0 hRA.1).set hB0 hRA.2,hS0,?_,⟨rfl,rfl,rfl,rfl,trivial⟩,hw.drop⟩
        rcases hor with ⟨h6,h7⟩ | ⟨h6,h7⟩
        · rcases hne with ⟨h8,h9⟩ | ⟨h8,h9⟩
          · refine .inl ⟨by rw [h9];exact h6,fun i l hi hl=>?_⟩
            by_cases e:i=k
            · subst e;rw [hx] at hl;cases hl
              rw [← h6,ga,gb,h8]
            · exact h7 i l (by omega) hl
          · refine .inr ⟨fun hC=>h8 ?_,by rw [← h6];exact h9⟩
            rw [← ga,← gb,h6];exact hC x hxm
        · exact .inr ⟨h6,by omega⟩
      · have h3:(ba || bb)=false:=h3
        have hab:ba=bb:=by cases ba <;> cases bb <;> simp_all
        repeat (first | refine byW ?_ | (refine byV ?_;intro w hw))
        refine ⟨μ2 - 1,by omega,k+1,R2,by omega,hkn,hR0,?_,⟨rfl,rfl,rfl,rfl,trivial⟩,hw.drop⟩
        rcases hor with ⟨h6,h7⟩ | h6
        · refine .inl ⟨h6,fun i l hi hl=>?_⟩
          by_cases e:i=k
          · subst e;rw [hx] at hl;cases hl
            rw [← h6,ga,gb,hab]
          · exact h7 i l (by omega) hl
        · exact .inr h6
    · have hkn3:¬ k < n3:=by have:=of_decide_eq_false h2;omega
      repeat (first | refine byW ?_ | (refine byV ?_;intro w hw))
      refine ⟨μ - 1,by omega,t+1,R2,by omega,hkn,hR0,?_,⟨rfl,rfl,rfl,trivial⟩,hw⟩
      rcases hor with ⟨h6,h7⟩ | ⟨h6,h7⟩
      · left
        rw [h6]
        intro l hl
        obtain ⟨i,hi⟩:=List.getElem?_of_mem hl
        exact h7 i l (by have:=(List.getElem?_eq_some_iff.1 hi).1;omega) hi
      · rcases hcl with h8 | h8
        · exact absurd h8 h6
        · exact .inr (by omega)
  · have ht64:¬ t < 64:=by have:=of_decide_eq_false h;omega
    have hC:ClosedR H.Links R:=by
      rcases hcl with h8 | h8
      · exact h8
      · omega
    clear h hcl
    have hRl:=hkn.len
    have hrq:∀ n:Int,0≤n∧n < 64→(R.getD n.toNat false=true↔Reach H.Links x0.Node n):=fun n hn=>known_iff hkn hR0 hs00 hLk hC hn
    repeat (first | refine byW ?_ | (refine byV ?_;intro w hw))
    refine lCall ((Used_any (H:=H) (s:=H.Name) r1.rdS r4.rdS r5.rdS hNd hw).mono fun e w hq=>?_)
    clear hw
    obtain ⟨rfl,hw⟩:=hq
    refine ⟨_,rfl,?_⟩
    have hUl:(markN R64 (usedN H)).length=64:=by rw [markN_len];simp
    have hUt:∀ k:Nat,(markN R64 (usedN H))[k]? = some true→∃ n∈usedN H,n.toNat=k:=fun k hk=>by
      rcases mark_true _ _ _ hk with h1 | h1
      · rw [List.getElem?_replicate] at h1;split at h1 <;> simp at h1
      · exact h1
    have hUf:∀ k:Nat,(markN R64 (usedN H))[k]? = some false→∀ n∈usedN H,n.toNat≠k:=fun k hk=>(markN_get _ _ _ hk).2
    generalize markN R64 (usedN H)=U at *
    repeat (first | refine byW ?_ | (refine byV ?_;intro w hw))
    refine lAlloc ?_
    intro b7 w hw
    refine lStore (vs:=U.map Value.bool) ?_ (hl:=by simp [hUl]) (h1:=by simp [Value.oneCell']) (ho:=by simp) (hv:=by simp [Value.cells])
    intro w hw
    have hw:Wd Γ (.blk b7 (.cells (putCells ((List.replicate 64 false).map Value.bool).toArray 0 (U.map Value.bool)) 147)::.blk b3 (.cells (R.map Value.bool).toArray 147)::.blk b1 (hwC H a1 n1 c1 a2 n2 c2 a3 n3 c3 a4 n4 c4 a5 n5 c5)::S) w:=hw
    rw [show putCells ((List.replicate 64 false).map Value.bool).toArray 0 (U.map Value.bool)=(U.map Value.bool).toArray from by unfold putCells;simp [hUl]] at hw
    repeat (first | refine byW ?_ | (refine byV ?_;intro w hw))
    refine W_loop (fun μ ρ w=>∃ (i:Nat),μ+i=64∧(∀ j:Nat,j < i→U[j]? = some true→R[j]? = some true)∧Has ρ [(3,.pointer (some ⟨b3,0,none⟩)),(7,.pointer (some ⟨b7,0,none⟩)),(8,.int .i64 i)]∧Wd Γ (.blk b7 (.cells (U.map Value.bool).toArray 147)::.blk b3 (.cells (R.map Value.bool).toArray 147)::.blk b1 (hwC H a1 n1 c1 a2 n2 c2 a3 n3 c3 a4 n4 c4 a5 n5 c5)::S) w) 64 ⟨0,by omega,fun j h=>by omega,⟨rfl,rfl,rfl,trivial⟩,hw⟩ ?_
    clear hw
    rintro μ ρ w ⟨i,hi,hall,hρ,hw⟩
    rw [hρ.eq]
    clear hρ
    repeat (first | refine byW ?_ | (refine byV ?_;intro w hw))
    refine W_cond rfl (fun h=>?_) (fun h=>?_)
    · have hin:i < 64:=by have:=of_decide_eq_true h;omega
      clear h
      obtain ⟨bu,hbu⟩:=get_lt (l:=U) (k:=i) (by omega)
      obtain ⟨br,hbr⟩:=get_lt (l:=R) (k:=i) (by omega)
      repeat (first | refine byW ?_ | (refine byV ?_;intro w hw))
      refine lY (v:=.bool bu) ?_ (hy:=y_l1b (i:=0) hw rfl rfl (getBool hbu))
      repeat (first | refine byW ?_ | (refine byV ?_;intro w hw))
      refine lG (v:=.bool br) ?_ (hv:=fun hc=>y_l1b (i:=1) hw (gvT hc rfl) rfl (getBool hbr))
      repeat (first | refine byW ?_ | (refine byV ?_;intro w hw))
      refine W_cond rfl (fun h3=>?_) (fun h3=>?_)
      · have h3:(bu && !br)=true:=h3
        simp only [Bool.and_eq_true,Bool.not_eq_true'] at h3
        obtain ⟨rfl,rfl⟩:=h3
        repeat (first | refine byW ?_ | (refine byV ?_;intro w hw))
        refine ⟨_,rfl,ret_b rfl ?_,hw.ds [0,0,0]⟩
        obtain ⟨n,hn,hni⟩:=hUt i hbu
        refine (decP_f fun hP=>?_).symm
        have h5:=hP n hn
        rw [hhead] at h5
        have h6:=(hrq n (hNd n hn)).2 h5
        rw [hni,List.getD_eq_getElem?_getD,hbr] at h6
        cases h6
      · have h3:(bu && !br)=false:=h3
        repeat (first | refine byW ?_ | (refine byV ?_;intro w hw))
        refine ⟨μ - 1,by omega,i+1,by omega,fun j hj hu=>?_,⟨rfl,rfl,rfl,trivial⟩,hw⟩
        by_cases e:j=i
        · subst e;rw [hbu] at hu;cases hu
          cases br with
          | true=>exact hbr
          | false=>simp at h3
        · exact hall j (by omega) hu
    · have hin:¬ i < 64:=by have:=of_decide_eq_false h;omega
      repeat (first | refine byW ?_ | (refine byV ?_;intro w hw))
      refine ⟨_,rfl,ret_b rfl ?_,hw.ds [0,0,0]⟩
      refine (decP_t fun n hn=>?_).symm
      rw [hhead]
      have hr:=hNd n hn
      obtain ⟨bu,hbu⟩:=get_lt (l:=U) (k:=n.toNat) (by omega)
      cases bu with
      | false=>exact absurd rfl (hUf _ hbu n hn)
      | true=>
        refine (hrq n hr).1 ?_
        rw [List.getD_eq_getElem?_getD,hall n.toNat (by omega) hbu];rfl
end Go.Proofs.YthgighljhoneeaaGreatDoor
end
section
open Go Mk
namespace Go.Proofs.YthgighljhoneeaaGreatDoor
set_option maxHeartbeats 16000000
attribute [local irreducible] Calls
theorem nodup_succ {α:Type} {l:List α} {i:Nat} {x:α} (h:(l.take i).Nodup) (hx:l[i]? = some x) (hn:∀ j y,j < i→l[j]? = some y→x≠y):(l.take (i+1)).Nodup:=by
 rw [List.take_add_one,hx]
 refine List.nodup_append.2 ⟨h,by simp,fun a ha b hb e=>?_⟩
 have hb:b=x:=by simpa using hb
 subst hb
 subst e
 obtain ⟨j,hj,hja⟩:=List.getElem_of_mem ha
 have hji:j < i:=by rw [List.length_take] at hj;omega
 refine hn j a hji ?_ rfl
 have h1:(l.take i)[j]? = some a:=by rw [List.getElem?_eq_getElem hj,hja]
 rwa [List.getElem?_take,if_pos hji] at h1
theorem not_nodup {α:Type} {l:List α} {i k:Nat} {x:α} (hk:k < i) (hx:l[i]? = some x) (hy:l[k]? = some x):¬ l.Nodup:=fun h=>by
 obtain ⟨h1,h2⟩:=List.getElem?_eq_some_iff.1 hx
 obtain ⟨h3,h4⟩:=List.getElem?_eq_some_iff.1 hy
 exact List.pairwise_iff_getElem.1 h k i h3 h1 hk (h4.trans h2.symm)
theorem mapG {α β:Type} {f:α→β} {l:List α} {i:Nat} {x:α} (h:l[i]? = some x):(l.map f)[i]? = some (f x):=by rw [List.getElem?_map,h];rfl
theorem no_step {α:Type} {l:List α} {x y:α} {k:Nat} (h:∀ j z,j < k→l[j]? = some z→x≠z) (hy:l[k]? = some y) (hxy:¬ x=y):∀ j z,j < k+1→l[j]? = some z→x≠z:=fun j z hj hz=>by
 by_cases e:j=k
 ·subst e;rw [hy] at hz;cases hz;exact hxy
 ·exact h j z (by omega) hz
theorem twice_any {Γ:Gho} {S:List Res} {w:World} {v:Value} (xs:List Int) (hr:RepS Γ v 1 (intRows xs)) (hw:Wd Γ S w) :
  Calls Tryz.prog 105 #[v] w fun e w'=>e=.returned (.bool (!decide xs.Nodup))∧Wd Γ S w':=by
 obtain ⟨a,n,c,rfl,hn,hnc,hc⟩:=hr.shape
 rw [show (intRows xs).length=xs.length from List.length_map ..] at hn
 refine calls_of_W Tryz.func105 rfl rfl ?_
 repeat (first | refine byW ?_ | (refine byV ?_;intro w hw))
 refine W_loop (fun μ ρ w=>∃ (i:Nat),μ+i=n∧Has ρ [(0,.slice a n c),(3,.int .i64 i)]∧(xs.take i).Nodup∧Wd Γ S w) n ⟨0,by omega,⟨rfl,rfl,trivial⟩,by simp,hw⟩ ?_
 clear hw
 rintro μ ρ w ⟨i,hi,hρ,hnd,hw⟩
 rw [hρ.eq]
 repeat (first | refine byW ?_ | (refine byV ?_;intro w hw))
 refine W_cond rfl (fun h=>?_) (fun h=>?_)
 ·have hin:i < n:=by have:=of_decide_eq_true h;omega
  clear h
  obtain ⟨x,hx⟩:=get_lt (l:=xs) (k:=i) (by omega)
  repeat (first | refine byW ?_ | (refine byV ?_;intro w hw))
  refine W_loop (fun μ ρ w=>∃ (k:Nat),μ+k=i∧Has ρ [(0,.slice a n c),(3,.int .i64 i),(4,.int .i64 k)]∧(∀ j y,j < k→xs[j]? = some y→x≠y)∧Wd Γ S w) i ⟨0,by omega,⟨rfl,rfl,rfl,trivial⟩,fun j y hj=>by omega,hw⟩ ?_
  clear hw hρ
  rintro μ2 ρ w ⟨k,hk,hρ,hno,hw⟩
  rw [hρ.eq]
  repeat (first | refine byW ?_ | (refine byV ?_;intro w hw))
  refine W_cond rfl (fun h=>?_) (fun h=>?_)
  ·have hki:k < i:=by have:=of_decide_eq_true h;omega
   clear h
   obtain ⟨y,hy⟩:=get_lt (l:=xs) (k:=k) (by omega)
   repeat (first | refine byW ?_ | (refine byV ?_;intro w hw))
   refine W_quiet (by kernel_rfl) (by kernel_rfl) hw ?_
   repeat (first | refine Q_nil ?_ | (apply Q_plain;first | (apply Q_go;first | refine qP ?_ | refine qPg ?_) | refine qY ?_) | (apply Q_guarded;first | (apply Q_go;first | refine qPG ?_ | refine qPgG ?_) | refine qG ?_))
   intro w hw
   repeat (first | refine byW ?_ | (refine byV ?_;intro w hw))
   refine W_cond rfl (fun h=>?_) (fun h=>?_)
   ·have h:x=y:=of_decide_eq_true h
    subst h
    repeat (first | refine byW ?_ | (refine byV ?_;intro w hw))
    exact ⟨_,rfl,ret_b rfl (by rw [decide_eq_false (not_nodup hki hx hy)];rfl),hw⟩
   ·have h:¬ x=y:=of_decide_eq_false h
    repeat (first | refine byW ?_ | (refine byV ?_;intro w hw))
    exact ⟨μ2 - 1,by omega,k+1,by omega,⟨rfl,rfl,rfl,trivial⟩,no_step hno hy h,hw⟩
  ·have hki:i≤k:=by have:=of_decide_eq_false h;omega
   repeat (first | refine byW ?_ | (refine byV ?_;intro w hw))
   exact ⟨μ - 1,by omega,i+1,by omega,⟨rfl,rfl,trivial⟩,nodup_succ hnd hx fun j y hj=>hno j y (by omega),hw⟩
 ·have hin:n≤i:=by have:=of_decide_eq_false h;omega
  rw [List.take_of_length_le (by omega)] at hnd
  repeat (first | refine byW ?_ | (refine byV ?_;intro w hw))
  exact ⟨_,rfl,ret_b rfl (by rw [decide_eq_true hnd];rfl),hw⟩
theorem key_iff (x y:LinkT):(linkKey x=linkKey y)↔(x.A=y.A∧x.B=y.B∨x.A=y.B∧x.B=y.A):=by
 unfold linkKey
 rw [Prod.mk.injEq]
 constructor
 ·rintro ⟨h1,h2⟩
  split at h1 <;> split at h1 <;> split at h2 <;> split at h2 <;> omega
 ·rintro (⟨h1,h2⟩ | ⟨h1,h2⟩)
  ·rw [h1,h2];exact ⟨rfl,rfl⟩
  ·rw [h1,h2]
   refine ⟨?_,?_⟩
   ·split <;> split <;> omega
   ·split <;> split <;> omega
theorem uniq_no {H:HwT} (h:¬ (H.Cores.map (·.ID)).Nodup∨¬ (H.Caches.map (·.Name)).Nodup∨¬ (H.Mems.map (·.Name)).Nodup∨¬ (H.Devs.map (·.Name)).Nodup∨¬ (H.Devs.map (·.IRQ)).Nodup∨¬ (H.Links.map linkKey).Nodup):true = !uniqueB H:=by
 unfold uniqueB
 rcases h with h | h | h | h | h | h <;> rw [decide_eq_false h] <;> simp only [Bool.and_false,Bool.false_and,Bool.not_false]
theorem duplicate_any {Γ:Gho} {u:Value} {H:HwT} [hh:HwR Γ u H] {S:List Res} {w:World} (hw:Wd Γ S w) :
  Calls Tryz.prog 70 #[u] w fun e w'=>e=.returned (.bool (!uniqueB H))∧Wd Γ S w':=by
 obtain ⟨a1,n1,c1,a2,n2,c2,a3,n3,c3,a4,n4,c4,a5,n5,c5,cs,rfl,hcs,hok,hsz,r1,r2,r3,r4,r5⟩:=hh.h
 obtain ⟨f1,f1',f1''⟩:=rep_facts r1
 obtain ⟨f2,f2',f2''⟩:=rep_facts r2
 obtain ⟨f3,f3',f3''⟩:=rep_facts r3
 obtain ⟨f4,f4',f4''⟩:=rep_facts r4
 obtain ⟨f5,f5',f5''⟩:=rep_facts r5
 simp only [List.length_map] at f1 f2 f3 f4 f5
 have hcl:cs.length=H.Caches.length:=by rw [← hcs,List.length_map]
 refine calls_of_W Tryz.func70 rfl rfl ?_
 repeat (first | refine byW ?_ | (refine byV ?_;intro w hw))
 refine lBox ?_
 intro b1 w hw
 have hw:Wd Γ (.blk b1 (hwC H a1 n1 c1 a2 n2 c2 a3 n3 c3 a4 n4 c4 a5 n5 c5)::S) w:=hw
 repeat (first | refine byW ?_ | (refine byV ?_;intro w hw))
 refine W_loop (fun μ ρ w=>∃ (i:Nat),μ+i=n1∧Has ρ [(1,.pointer (some ⟨b1,0,none⟩)),(3,.int .i64 i)]∧(((H.Cores.map (·.ID)).take i).Nodup)∧Wd Γ (.blk b1 (hwC H a1 n1 c1 a2 n2 c2 a3 n3 c3 a4 n4 c4 a5 n5 c5)::S) w) n1 ⟨0,by omega,⟨rfl,rfl,trivial⟩,by simp,hw⟩ ?_
 clear hw
 rintro μ ρ w ⟨i,hi,hρ,hnd0,hw⟩
 rw [hρ.eq]
 repeat (first | refine byW ?_ | (refine byV ?_;intro w hw))
 refine W_cond rfl (fun h=>?_) (fun h=>?_)
 ·have hin:i < n1:=by have:=of_decide_eq_true h;omega
  clear h
  obtain ⟨x,hx⟩:=get_lt (l:=H.Cores) (k:=i) (by omega)
  repeat (first | refine byW ?_ | (refine byV ?_;intro w hw))
  refine W_loop (fun μ ρ w=>∃ (k:Nat),μ+k=i∧Has ρ [(1,.pointer (some ⟨b1,0,none⟩)),(3,.int .i64 i),(4,.int .i64 k)]∧((∀ j y,j < k→(H.Cores.map (·.ID))[j]? = some y→((·.ID)) x≠y))∧Wd Γ (.blk b1 (hwC H a1 n1 c1 a2 n2 c2 a3 n3 c3 a4 n4 c4 a5 n5 c5)::S) w) i ⟨0,by omega,⟨rfl,rfl,rfl,trivial⟩,fun j y hj=>by omega,hw⟩ ?_
  clear hw hρ
  rintro μ2 ρ w ⟨k,hk,hρ,hno0,hw⟩
  rw [hρ.eq]
  repeat (first | refine byW ?_ | (refine byV ?_;intro w hw))
  refine W_cond rfl (fun h=>?_) (fun h=>?_)
  ·have hki:k < i:=by have:=of_decide_eq_true h;omega
   clear h
   obtain ⟨y,hy⟩:=get_lt (l:=H.Cores) (k:=k) (by omega)
   repeat (first | refine byW ?_ | (refine byV ?_;intro w hw))
   refine W_quiet (by kernel_rfl) (by kernel_rfl) hw ?_
   repeat (first | refine Q_nil ?_ | (apply Q_plain;first | (apply Q_go;first | refine qP ?_ | refine qPg ?_) | refine qY ?_) | (apply Q_guarded;first | (apply Q_go;first | refine qPG ?_ | refine qPgG ?_) | refine qG ?_))
   intro w hw
   repeat (first | refine byW ?_ | (refine byV ?_;intro w hw))
   refine W_cond rfl (fun h=>?_) (fun h=>?_)
   ·have h:x.ID=y.ID:=of_decide_eq_true h
    repeat (first | refine byW ?_ | (refine byV ?_;intro w hw))
    exact ⟨_,rfl,ret_b rfl (uniq_no (.inl (not_nodup hki (mapG hx) ((mapG hy).trans (congrArg some h.symm))))),hw.drop⟩
   ·have h:¬ x.ID=y.ID:=of_decide_eq_false h
    repeat (first | refine byW ?_ | (refine byV ?_;intro w hw))
    exact ⟨μ2 - 1,by omega,k+1,by omega,⟨rfl,rfl,rfl,trivial⟩,no_step hno0 (mapG hy) h,hw⟩
  have hki:i≤k:=by have:=of_decide_eq_false h;omega
  repeat (first | refine byW ?_ | (refine byV ?_;intro w hw))
  exact ⟨μ - 1,by omega,i+1,by omega,⟨rfl,rfl,trivial⟩,nodup_succ hnd0 (mapG hx) fun j y hj=>hno0 j y (by omega),hw⟩
 have hin:n1≤i:=by have:=of_decide_eq_false h;omega
 clear h
 rw [List.take_of_length_le (by rw [List.length_map];omega)] at hnd0
 have hq10:=hnd0
 clear hi hρ hnd0
 repeat (first | refine byW ?_ | (refine byV ?_;intro w hw))
 refine W_loop (fun μ ρ w=>∃ (i:Nat),μ+i=n2∧Has ρ [(1,.pointer (some ⟨b1,0,none⟩)),(5,.int .i64 i)]∧(((H.Caches.map (·.Name)).take i).Nodup)∧(∀ c∈H.Caches.take i,c.Cores.Nodup)∧Wd Γ (.blk b1 (hwC H a1 n1 c1 a2 n2 c2 a3 n3 c3 a4 n4 c4 a5 n5 c5)::S) w) n2 ⟨0,by omega,⟨rfl,rfl,trivial⟩,by simp,by simp,hw⟩ ?_
 clear hw
 rintro μ ρ w ⟨i,hi,hρ,hnd0,hcn,hw⟩
 rw [hρ.eq]
 repeat (first | refine byW ?_ | (refine byV ?_;intro w hw))
 refine W_cond rfl (fun h=>?_) (fun h=>?_)
 ·have hin:i < n2:=by have:=of_decide_eq_true h;omega
  clear h
  obtain ⟨x,hx⟩:=get_lt (l:=cs) (k:=i) (by omega)
  obtain ⟨gx1,gx2,gx3⟩:=(hok x (List.mem_of_getElem? hx)).facts
  have hxT:H.Caches[i]? = some x.T:=by rw [← hcs,List.getElem?_map,hx];rfl
  repeat (first | refine byW ?_ | (refine byV ?_;intro w hw))
  refine W_loop (fun μ ρ w=>∃ (k:Nat),μ+k=i∧Has ρ [(1,.pointer (some ⟨b1,0,none⟩)),(5,.int .i64 i),(6,.int .i64 k)]∧((∀ j y,j < k→(H.Caches.map (·.Name))[j]? = some y→((·.Name)) x.T≠y))∧Wd Γ (.blk b1 (hwC H a1 n1 c1 a2 n2 c2 a3 n3 c3 a4 n4 c4 a5 n5 c5)::S) w) i ⟨0,by omega,⟨rfl,rfl,rfl,trivial⟩,fun j y hj=>by omega,hw⟩ ?_
  clear hw hρ
  rintro μ2 ρ w ⟨k,hk,hρ,hno0,hw⟩
  rw [hρ.eq]
  repeat (first | refine byW ?_ | (refine byV ?_;intro w hw))
  refine W_cond rfl (fun h=>?_) (fun h=>?_)
  ·have hki:k < i:=by have:=of_decide_eq_true h;omega
   clear h
   obtain ⟨y,hy⟩:=get_lt (l:=cs) (k:=k) (by omega)
   have hyT:H.Caches[k]? = some y.T:=by rw [← hcs,List.getElem?_map,hy];rfl
   repeat (first | refine byW ?_ | (refine byV ?_;intro w hw))
   refine W_quiet (by kernel_rfl) (by kernel_rfl) hw ?_
   repeat (first | refine Q_nil ?_ | (apply Q_plain;first | (apply Q_go;first | refine qP ?_ | refine qPg ?_) | refine qY ?_) | (apply Q_guarded;first | (apply Q_go;first | refine qPG ?_ | refine qPgG ?_) | refine qG ?_))
   intro w hw
   repeat (first | refine byW ?_ | (refine byV ?_;intro w hw))
   refine W_cond rfl (fun h=>?_) (fun h=>?_)
   ·have h:x.Name=y.Name:=of_decide_eq_true h
    repeat (first | refine byW ?_ | (refine byV ?_;intro w hw))
    exact ⟨_,rfl,ret_b rfl (uniq_no (.inr (.inl (not_nodup hki (mapG hxT) ((mapG hyT).trans (congrArg some h.symm)))))),hw.drop⟩
   ·have h:¬ x.Name=y.Name:=of_decide_eq_false h
    repeat (first | refine byW ?_ | (refine byV ?_;intro w hw))
    exact ⟨μ2 - 1,by omega,k+1,by omega,⟨rfl,rfl,rfl,trivial⟩,no_step hno0 (mapG hyT) h,hw⟩
  have hki:i≤k:=by have:=of_decide_eq_false h;omega
  have hrd:RepS Γ (.slice x.A x.N x.C) 1 (intRows x.Cores):=hok x (List.mem_of_getElem? hx)
  repeat (first | refine byW ?_ | (refine byV ?_;intro w hw))
  refine lCall ?_
  refine (twice_any x.Cores hrd hw).mono ?_
  clear hw
  rintro e w ⟨rfl,hw⟩
  refine ⟨_,rfl,?_⟩
  repeat (first | refine byW ?_ | (refine byV ?_;intro w hw))
  refine W_cond rfl (fun h2=>?_) (fun h2=>?_)
  ·have h2:(!decide x.Cores.Nodup)=true:=h2
   have h2:¬ x.Cores.Nodup:=of_decide_eq_false (notF h2)
   repeat (first | refine byW ?_ | (refine byV ?_;intro w hw))
   refine ⟨_,rfl,ret_b rfl ?_,hw.drop⟩
   unfold uniqueB
   rw [all_no hxT (p:=fun c=>decide c.Cores.Nodup) (decide_eq_false h2),Bool.false_and];rfl
  have h2:(!decide x.Cores.Nodup)=false:=h2
  have h2:x.Cores.Nodup:=of_decide_eq_true (notT h2)
  repeat (first | refine byW ?_ | (refine byV ?_;intro w hw))
  refine ⟨μ - 1,by omega,i+1,by omega,⟨rfl,rfl,trivial⟩,nodup_succ hnd0 (mapG hxT) fun j y hj=>hno0 j y (by omega),fun c hc=>?_,hw⟩
  rw [List.take_add_one,hxT] at hc
  rcases List.mem_append.1 hc with q | q
  ·exact hcn c q
  ·rw [show c=x.T by simpa using q];exact h2
 have hin:n2≤i:=by have:=of_decide_eq_false h;omega
 clear h
 rw [List.take_of_length_le (by rw [List.length_map];omega)] at hnd0
 rw [List.take_of_length_le (by omega)] at hcn
 have hq20:=hnd0
 clear hi hρ hnd0
 repeat (first | refine byW ?_ | (refine byV ?_;intro w hw))
 refine W_loop (fun μ ρ w=>∃ (i:Nat),μ+i=n4∧Has ρ [(1,.pointer (some ⟨b1,0,none⟩)),(7,.int .i64 i)]∧(((H.Mems.map (·.Name)).take i).Nodup)∧Wd Γ (.blk b1 (hwC H a1 n1 c1 a2 n2 c2 a3 n3 c3 a4 n4 c4 a5 n5 c5)::S) w) n4 ⟨0,by omega,⟨rfl,rfl,trivial⟩,by simp,hw⟩ ?_
 clear hw
 rintro μ ρ w ⟨i,hi,hρ,hnd0,hw⟩
 rw [hρ.eq]
 repeat (first | refine byW ?_ | (refine byV ?_;intro w hw))
 refine W_cond rfl (fun h=>?_) (fun h=>?_)
 ·have hin:i < n4:=by have:=of_decide_eq_true h;omega
  clear h
  obtain ⟨x,hx⟩:=get_lt (l:=H.Mems) (k:=i) (by omega)
  repeat (first | refine byW ?_ | (refine byV ?_;intro w hw))
  refine W_loop (fun μ ρ w=>∃ (k:Nat),μ+k=i∧Has ρ [(1,.pointer (some ⟨b1,0,none⟩)),(7,.int .i64 i),(8,.int .i64 k)]∧((∀ j y,j < k→(H.Mems.map (·.Name))[j]? = some y→((·.Name)) x≠y))∧Wd Γ (.blk b1 (hwC H a1 n1 c1 a2 n2 c2 a3 n3 c3 a4 n4 c4 a5 n5 c5)::S) w) i ⟨0,by omega,⟨rfl,rfl,rfl,trivial⟩,fun j y hj=>by omega,hw⟩ ?_
  clear hw hρ
  rintro μ2 ρ w ⟨k,hk,hρ,hno0,hw⟩
  rw [hρ.eq]
  repeat (first | refine byW ?_ | (refine byV ?_;intro w hw))
  refine W_cond rfl (fun h=>?_) (fun h=>?_)
  ·have hki:k < i:=by have:=of_decide_eq_true h;omega
   clear h
   obtain ⟨y,hy⟩:=get_lt (l:=H.Mems) (k:=k) (by omega)
   repeat (first | refine byW ?_ | (refine byV ?_;intro w hw))
   refine W_quiet (by kernel_rfl) (by kernel_rfl) hw ?_
   repeat (first | refine Q_nil ?_ | (apply Q_plain;first | (apply Q_go;first | refine qP ?_ | refine qPg ?_) | refine qY ?_) | (apply Q_guarded;first | (apply Q_go;first | refine qPG ?_ | refine qPgG ?_) | refine qG ?_))
   intro w hw
   repeat (first | refine byW ?_ | (refine byV ?_;intro w hw))
   refine W_cond rfl (fun h=>?_) (fun h=>?_)
   ·have h:x.Name=y.Name:=of_decide_eq_true h
    repeat (first | refine byW ?_ | (refine byV ?_;intro w hw))
    exact ⟨_,rfl,ret_b rfl (uniq_no (.inr (.inr (.inl (not_nodup hki (mapG hx) ((mapG hy).trans (congrArg some h.symm))))))),hw.drop⟩
   ·have h:¬ x.Name=y.Name:=of_decide_eq_false h
    repeat (first | refine byW ?_ | (refine byV ?_;intro w hw))
    exact ⟨μ2 - 1,by omega,k+1,by omega,⟨rfl,rfl,rfl,trivial⟩,no_step hno0 (mapG hy) h,hw⟩
  have hki:i≤k:=by have:=of_decide_eq_false h;omega
  repeat (first | refine byW ?_ | (refine byV ?_;intro w hw))
  exact ⟨μ - 1,by omega,i+1,by omega,⟨rfl,rfl,trivial⟩,nodup_succ hnd0 (mapG hx) fun j y hj=>hno0 j y (by omega),hw⟩
 have hin:n4≤i:=by have:=of_decide_eq_false h;omega
 clear h
 rw [List.take_of_length_le (by rw [List.length_map];omega)] at hnd0
 have hq40:=hnd0
 clear hi hρ hnd0
 repeat (first | refine byW ?_ | (refine byV ?_;intro w hw))
 refine W_loop (fun μ ρ w=>∃ (i:Nat),μ+i=n5∧Has ρ [(1,.pointer (some ⟨b1,0,none⟩)),(9,.int .i64 i)]∧(((H.Devs.map (·.Name)).take i).Nodup∧((H.Devs.map (·.IRQ)).take i).Nodup)∧Wd Γ (.blk b1 (hwC H a1 n1 c1 a2 n2 c2 a3 n3 c3 a4 n4 c4 a5 n5 c5)::S) w) n5 ⟨0,by omega,⟨rfl,rfl,trivial⟩,by simp,hw⟩ ?_
 clear hw
 rintro μ ρ w ⟨i,hi,hρ,⟨hnd0,hnd1⟩,hw⟩
 rw [hρ.eq]
 repeat (first | refine byW ?_ | (refine byV ?_;intro w hw))
 refine W_cond rfl (fun h=>?_) (fun h=>?_)
 ·have hin:i < n5:=by have:=of_decide_eq_true h;omega
  clear h
  obtain ⟨x,hx⟩:=get_lt (l:=H.Devs) (k:=i) (by omega)
  repeat (first | refine byW ?_ | (refine byV ?_;intro w hw))
  refine W_loop (fun μ ρ w=>∃ (k:Nat),μ+k=i∧Has ρ [(1,.pointer (some ⟨b1,0,none⟩)),(9,.int .i64 i),(10,.int .i64 k)]∧((∀ j y,j < k→(H.Devs.map (·.Name))[j]? = some y→((·.Name)) x≠y)∧(∀ j y,j < k→(H.Devs.map (·.IRQ))[j]? = some y→((·.IRQ)) x≠y))∧Wd Γ (.blk b1 (hwC H a1 n1 c1 a2 n2 c2 a3 n3 c3 a4 n4 c4 a5 n5 c5)::S) w) i ⟨0,by omega,⟨rfl,rfl,rfl,trivial⟩,⟨fun j y hj=>by omega,fun j y hj=>by omega⟩,hw⟩ ?_
  clear hw hρ
  rintro μ2 ρ w ⟨k,hk,hρ,⟨hno0,hno1⟩,hw⟩
  rw [hρ.eq]
  repeat (first | refine byW ?_ | (refine byV ?_;intro w hw))
  refine W_cond rfl (fun h=>?_) (fun h=>?_)
  ·have hki:k < i:=by have:=of_decide_eq_true h;omega
   clear h
   obtain ⟨y,hy⟩:=get_lt (l:=H.Devs) (k:=k) (by omega)
   repeat (first | refine byW ?_ | (refine byV ?_;intro w hw))
   refine W_quiet (by kernel_rfl) (by kernel_rfl) hw ?_
   repeat (first | refine Q_nil ?_ | (apply Q_plain;first | (apply Q_go;first | refine qP ?_ | refine qPg ?_) | refine qY ?_) | (apply Q_guarded;first | (apply Q_go;first | refine qPG ?_ | refine qPgG ?_) | refine qG ?_))
   intro w hw
   repeat (first | refine byW ?_ | (refine byV ?_;intro w hw))
   refine W_cond rfl (fun h=>?_) (fun h=>?_)
   ·have h:(decide (x.Name=y.Name) || decide (x.IRQ=y.IRQ))=true:=h
    rw [Bool.or_eq_true,decide_eq_true_eq,decide_eq_true_eq] at h
    repeat (first | refine byW ?_ | (refine byV ?_;intro w hw))
    refine ⟨_,rfl,ret_b rfl (uniq_no (.inr (.inr (.inr ?_)))),hw.drop⟩
    rcases h with h | h
    ·exact .inl (not_nodup hki (mapG hx) ((mapG hy).trans (congrArg some h.symm)))
    ·exact .inr (.inl (not_nodup hki (mapG hx) ((mapG hy).trans (congrArg some h.symm))))
   ·have h:(decide (x.Name=y.Name) || decide (x.IRQ=y.IRQ))=false:=h
    rw [Bool.or_eq_false_iff,decide_eq_false_iff_not,decide_eq_false_iff_not] at h
    repeat (first | refine byW ?_ | (refine byV ?_;intro w hw))
    exact ⟨μ2 - 1,by omega,k+1,by omega,⟨rfl,rfl,rfl,trivial⟩,⟨no_step hno0 (mapG hy) h.1,no_step hno1 (mapG hy) h.2⟩,hw⟩
  have hki:i≤k:=by have:=of_decide_eq_false h;omega
  repeat (first | refine byW ?_ | (refine byV ?_;intro w hw))
  exact ⟨μ - 1,by omega,i+1,by omega,⟨rfl,rfl,trivial⟩,⟨nodup_succ hnd0 (mapG hx) fun j y hj=>hno0 j y (by omega),nodup_succ hnd1 (mapG hx) fun j y hj=>hno1 j y (by omega)⟩,hw⟩
 have hin:n5≤i:=by have:=of_decide_eq_false h;omega
 clear h
 rw [List.take_of_length_le (by rw [List.length_map];omega)] at hnd0
 rw [List.take_of_length_le (by rw [List.length_map];omega)] at hnd1
 have hq50:=hnd0
 have hq51:=hnd1
 clear hi hρ hnd0 hnd1
 repeat (first | refine byW ?_ | (refine byV ?_;intro w hw))
 refine W_loop (fun μ ρ w=>∃ (i:Nat),μ+i=n3∧Has ρ [(1,.pointer (some ⟨b1,0,none⟩)),(11,.int .i64 i)]∧(((H.Links.map linkKey).take i).Nodup)∧Wd Γ (.blk b1 (hwC H a1 n1 c1 a2 n2 c2 a3 n3 c3 a4 n4 c4 a5 n5 c5)::S) w) n3 ⟨0,by omega,⟨rfl,rfl,trivial⟩,by simp,hw⟩ ?_
 clear hw
 rintro μ ρ w ⟨i,hi,hρ,hnd0,hw⟩
 rw [hρ.eq]
 repeat (first | refine byW ?_ | (refine byV ?_;intro w hw))
 refine W_cond rfl (fun h=>?_) (fun h=>?_)
 ·have hin:i < n3:=by have:=of_decide_eq_true h;omega
  clear h
  obtain ⟨x,hx⟩:=get_lt (l:=H.Links) (k:=i) (by omega)
  repeat (first | refine byW ?_ | (refine byV ?_;intro w hw))
  refine W_loop (fun μ ρ w=>∃ (k:Nat),μ+k=i∧Has ρ [(1,.pointer (some ⟨b1,0,none⟩)),(11,.int .i64 i),(12,.int .i64 k)]∧((∀ j y,j < k→(H.Links.map linkKey)[j]? = some y→(linkKey) x≠y))∧Wd Γ (.blk b1 (hwC H a1 n1 c1 a2 n2 c2 a3 n3 c3 a4 n4 c4 a5 n5 c5)::S) w) i ⟨0,by omega,⟨rfl,rfl,rfl,trivial⟩,fun j y hj=>by omega,hw⟩ ?_
  clear hw hρ
  rintro μ2 ρ w ⟨k,hk,hρ,hno0,hw⟩
  rw [hρ.eq]
  repeat (first | refine byW ?_ | (refine byV ?_;intro w hw))
  refine W_cond rfl (fun h=>?_) (fun h=>?_)
  ·have hki:k < i:=by have:=of_decide_eq_true h;omega
   clear h
   obtain ⟨y,hy⟩:=get_lt (l:=H.Links) (k:=k) (by omega)
   repeat (first | refine byW ?_ | (refine byV ?_;intro w hw))
   refine W_mixed [.blk b1 (hwC H a1 n1 c1 a2 n2 c2 a3 n3 c3 a4 n4 c4 a5 n5 c5)] [fun _=>[],fun _=>[],fun _=>S] [[],[],[],[],[],[],[],[],[],[],[0],[1],[0],[1]] [[],[],[],[],[],[],[],[],[],[],[0],[1],[0],[1]] [[13],[14],[]] (by have:=hw;simpa [List.range,List.range.loop,ML] using this) ?_
   repeat (first | refine mY ?_ | refine mP ?_ | refine mPg ?_)
   refine mAlloc ?_
   refine mAlloc ?_
   refine mStoreAt ?_
   refine mStoreAt ?_
   refine mEnd fun w g hw=>?_
   have hw:Wd Γ (.blk b1 (hwC H a1 n1 c1 a2 n2 c2 a3 n3 c3 a4 n4 c4 a5 n5 c5)::atP (g 13) _::atP (g 14) _::(S++[])) w:=hw
   rw [List.append_nil] at hw
   obtain ⟨b13,hg13,hw⟩:=(Wd.ps [1] hw).openAt
   have hw:Wd Γ (.blk b13 (.cells (enc x).toArray 98)::.blk b1 (hwC H a1 n1 c1 a2 n2 c2 a3 n3 c3 a4 n4 c4 a5 n5 c5)::atP (g 14) _::S) w:=hw
   obtain ⟨b14,hg14,hw⟩:=(Wd.ps [2] hw).openAt
   have hw:Wd Γ (.blk b14 (.cells (enc y).toArray 98)::.blk b13 (.cells (enc x).toArray 98)::.blk b1 (hwC H a1 n1 c1 a2 n2 c2 a3 n3 c3 a4 n4 c4 a5 n5 c5)::S) w:=hw
   refine W_has (l:=[(1,.pointer (some ⟨b1,0,none⟩)),(11,.int .i64 i),(12,.int .i64 k),(13,.pointer (some ⟨b13,0,none⟩)),(14,.pointer (some ⟨b14,0,none⟩))]) ⟨rfl,rfl,rfl,hg13,hg14,trivial⟩ fun ρ' hρ'=>?_
   clear hg13 hg14
   rw [hρ'.eq]
   clear hρ'
   repeat (first | refine byW ?_ | (refine byV ?_;intro w hw))
   refine W_cond rfl (fun h=>?_) (fun h=>?_)
   ·have h:((decide (x.A=y.A) && decide (x.B=y.B)) || (decide (x.A=y.B) && decide (x.B=y.A)))=true:=h
    simp only [Bool.or_eq_true,Bool.and_eq_true,decide_eq_true_eq] at h
    repeat (first | refine byW ?_ | (refine byV ?_;intro w hw))
    exact ⟨_,rfl,ret_b rfl (uniq_no (.inr (.inr (.inr (.inr (.inr (not_nodup hki (mapG hx) ((mapG hy).trans (congrArg some ((key_iff x y).2 h).symm))))))))),hw.ds [0,0,0]⟩
   ·have h:((decide (x.A=y.A) && decide (x.B=y.B)) || (decide (x.A=y.B) && decide (x.B=y.A)))=false:=h
    have h:¬ linkKey x=linkKey y:=fun q=>by
     have q:=(key_iff x y).1 q
     have:((decide (x.A=y.A) && decide (x.B=y.B)) || (decide (x.A=y.B) && decide (x.B=y.A)))=true:=by
      simp only [Bool.or_eq_true,Bool.and_eq_true,decide_eq_true_eq];exact q
     rw [h] at this;cases this
    repeat (first | refine byW ?_ | (refine byV ?_;intro w hw))
    exact ⟨μ2 - 1,by omega,k+1,by omega,⟨rfl,rfl,rfl,trivial⟩,no_step hno0 (mapG hy) h,hw.ds [0,0]⟩
  have hki:i≤k:=by have:=of_decide_eq_false h;omega
  repeat (first | refine byW ?_ | (refine byV ?_;intro w hw))
  exact ⟨μ - 1,by omega,i+1,by omega,⟨rfl,rfl,trivial⟩,nodup_succ hnd0 (mapG hx) fun j y hj=>hno0 j y (by omega),hw⟩
 have hin:n3≤i:=by have:=of_decide_eq_false h;omega
 clear h
 rw [List.take_of_length_le (by rw [List.length_map];omega)] at hnd0
 have hq30:=hnd0
 clear hi hρ hnd0
 repeat (first | refine byW ?_ | (refine byV ?_;intro w hw))
 refine ⟨_,rfl,ret_b rfl ?_,hw.drop⟩
 have hcn':H.Caches.all (fun c=>decide c.Cores.Nodup)=true:=List.all_eq_true.2 fun c hc=>decide_eq_true (hcn c hc)
 unfold uniqueB
 rw [hcn',decide_eq_true hq10,decide_eq_true hq20,decide_eq_true hq40,decide_eq_true hq50,decide_eq_true hq51,decide_eq_true hq30]
 rfl
end Go.Proofs.YthgighljhoneeaaGreatDoor
end
section
open Go Mk
namespace Go.Proofs.YthgighljhoneeaaGreatDoor
set_option maxHeartbeats 16000000
attribute [local irreducible] Calls
theorem hasR_any {Γ:Gho} {S:List Res} {w:World} {v:Value} {xs:List Int} (hr:RdS Γ S v 1 (intRows xs)) (x:Int) (hw:Wd Γ S w):Calls Tryz.prog 106 #[v,.int .i64 x] w fun e w'=>e=.returned (.bool (memI x xs))∧Wd Γ S w':=by
 obtain ⟨a,n,c,rfl,hn,hnc,hc⟩:=hr.shape
 have hn0:=hn
 rw [show (intRows xs).length=xs.length from List.length_map ..] at hn
 refine calls_of_W Tryz.func106 rfl rfl ?_
 repeat (first | refine byW ?_ | (refine byV ?_;intro w hw))
 refine W_loop (fun μ ρ w=>∃ (k:Nat),μ+k=n∧Has ρ [(0,.slice a n c),(1,.int .i64 x),(5,.int .i64 k)]∧memI x xs=memI x (xs.drop k)∧Wd Γ S w) n ⟨0,by omega,⟨rfl,rfl,rfl,trivial⟩,rfl,hw⟩ ?_
 clear hw
 rintro μ ρ w ⟨k,hk,hρ,hal,hw⟩
 rw [hρ.eq]
 repeat (first | refine byW ?_ | (refine byV ?_;intro w hw))
 refine W_cond rfl (fun h=>?_) (fun h=>?_)
 ·have hkn:k < n:=by have:=of_decide_eq_true h;omega
  clear h
  obtain ⟨y,hy⟩:=get_lt (l:=xs) (k:=k) (by omega)
  have hm:memI x (xs.drop k)=(decide (x=y) || memI x (xs.drop (k+1))):=by unfold memI;rw [dropG hy,List.any_cons]
  rw [hm] at hal
  repeat (first | refine byW ?_ | (refine byV ?_;intro w hw))
  refine W_cond rfl (fun h=>?_) (fun h=>?_)
  ·have h:y=x:=of_decide_eq_true h
   repeat (first | refine byW ?_ | (refine byV ?_;intro w hw))
   exact ⟨_,rfl,ret_b rfl (by rw [hal,decide_eq_true h.symm];rfl),hw⟩
  ·have h:¬ y=x:=of_decide_eq_false h
   rw [decide_eq_false (fun q=>h q.symm),Bool.false_or] at hal
   repeat (first | refine byW ?_ | (refine byV ?_;intro w hw))
   exact ⟨μ - 1,by omega,k+1,by omega,⟨rfl,rfl,rfl,trivial⟩,hal,hw⟩
 ·have hkn:n≤k:=by have:=of_decide_eq_false h;omega
  have:memI x (xs.drop k)=false:=by rw [List.drop_eq_nil_of_le (by omega)];rfl
  rw [this] at hal
  repeat (first | refine byW ?_ | (refine byV ?_;intro w hw))
  exact ⟨_,rfl,ret_b rfl hal.symm,hw⟩
instance pg_hasR {Γ:Gho} {v:Value} {xs:List Int} [hr:SlC Γ v 1 (intRows xs)] (x:Int):PG Tryz.prog Γ 106 [v,.int .i64 x] (.bool (memI x xs)):=⟨fun S w hw=>hasR_any hr.h.rdS x hw⟩
def ascP (l:List Int):Prop:=∀ (i:Nat) (a b:Int),l[i]? = some a→l[i+1]? = some b→a < b
def NestP (l:List CacheT):Prop:=(∀ c∈l,ascP c.Cores)∧∀ (i k:Nat) (a b:CacheT),l[i]? = some a→l[k]? = some b→pairB i k a b=true
theorem nested_any {Γ:Gho} {u:Value} {H:HwT} [hh:HwR Γ u H] {S:List Res} {w:World} (hw:Wd Γ S w) :
  Calls Tryz.prog 71 #[u] w fun e w'=>e=.returned (.bool (decP (NestP H.Caches)))∧Wd Γ S w':=by
 obtain ⟨a1,n1,c1,a2,n2,c2,a3,n3,c3,a4,n4,c4,a5,n5,c5,cs,rfl,hcs,hok,hsz,r1,r2,r3,r4,r5⟩:=hh.h
 obtain ⟨hn2,hm2,hx2⟩:=rep_facts r2
 simp only [List.length_map] at hn2
 have hget:∀ (i:Nat) (x:CacheH),cs[i]? = some x→H.Caches[i]? = some x.T:=fun i x h=>by rw [← hcs];simp [h]
 refine calls_of_W Tryz.func71 rfl rfl ?_
 repeat (first | refine byW ?_ | (refine byV ?_;intro w hw))
 refine lBox ?_
 intro b1 w hw
 have hw:Wd Γ (.blk b1 (hwC H a1 n1 c1 a2 n2 c2 a3 n3 c3 a4 n4 c4 a5 n5 c5)::S) w:=hw
 repeat (first | refine byW ?_ | (refine byV ?_;intro w hw))
 refine W_loop (fun μ ρ w=>∃ (k:Nat),μ+k=n2∧Has ρ [(1,.pointer (some ⟨b1,0,none⟩)),(3,.int .i64 k)]∧(∀ (i:Nat) (x:CacheH),i < k→cs[i]? = some x→ascP x.Cores)∧Wd Γ (.blk b1 (hwC H a1 n1 c1 a2 n2 c2 a3 n3 c3 a4 n4 c4 a5 n5 c5)::S) w) n2 ⟨0,by omega,⟨rfl,rfl,trivial⟩,fun i x h=>by omega,hw⟩ ?_
 clear hw
 rintro μ ρ w ⟨k,hk,hρ,hall,hw⟩
 rw [hρ.eq]
 repeat (first | refine byW ?_ | (refine byV ?_;intro w hw))
 refine W_cond rfl (fun h=>?_) (fun h=>?_)
 ·have hkn:k < n2:=by have:=of_decide_eq_true h;omega
  clear h
  obtain ⟨x,hx⟩:=get_lt (l:=cs) (k:=k) (by omega)
  have hcx:=hok x (List.mem_of_getElem? hx)
  obtain ⟨hxn,hxm,hxc⟩:=hcx.facts
  unfold COk at hcx
  repeat (first | refine byW ?_ | (refine byV ?_;intro w hw))
  refine lAlloc ?_
  intro b4 w hw
  refine lStore ?_
  intro w hw
  have hw:Wd Γ (.blk b4 (.cells (cC x).toArray 59)::.blk b1 (hwC H a1 n1 c1 a2 n2 c2 a3 n3 c3 a4 n4 c4 a5 n5 c5)::S) w:=hw
  repeat (first | refine byW ?_ | (refine byV ?_;intro w hw))
  refine W_loop (fun μ2 ρ w=>∃ (j:Nat),μ2+j=x.N+1∧1≤j∧Has ρ [(1,.pointer (some ⟨b1,0,none⟩)),(3,.int .i64 k),(4,.pointer (some ⟨b4,0,none⟩)),(5,.int .i64 j)]∧(∀ (i:Nat) (a b:Int),i+1 < j→x.Cores[i]? = some a→x.Cores[i+1]? = some b→a < b)∧Wd Γ (.blk b4 (.cells (cC x).toArray 59)::.blk b1 (hwC H a1 n1 c1 a2 n2 c2 a3 n3 c3 a4 n4 c4 a5 n5 c5)::S) w) x.N ⟨1,by omega,by omega,⟨rfl,rfl,rfl,rfl,trivial⟩,fun i a b h=>by omega,hw⟩ ?_
  clear hw hρ
  rintro μ2 ρ w ⟨j,hj,hj1,hρ,hasc,hw⟩
  rw [hρ.eq]
  repeat (first | refine byW ?_ | (refine byV ?_;intro w hw))
  refine W_cond rfl (fun h=>?_) (fun h=>?_)
  ·have hjn:j < x.N:=by have:=of_decide_eq_true h;omega
   clear h
   obtain ⟨i,rfl⟩:∃ i,j=i+1:=⟨j - 1,by omega⟩
   obtain ⟨b,hb⟩:=get_lt (l:=x.Cores) (k:=i+1) (by omega)
   obtain ⟨a,ha⟩:=get_lt (l:=x.Cores) (k:=i) (by omega)
   have ha':x.Cores[(((i+1:Nat):Int) - 1).toNat]? = some a:=by rw [show (((i+1:Nat):Int) - 1).toNat=i by omega];exact ha
   repeat (first | refine byW ?_ | (refine byV ?_;intro w hw))
   refine W_quiet (by kernel_rfl) (by kernel_rfl) hw ?_
   repeat (first | refine Q_nil ?_ | (apply Q_plain;first | (apply Q_go;first | refine qP ?_ | refine qPg ?_) | refine qY ?_) | (apply Q_guarded;first | (apply Q_go;first | refine qPG ?_ | refine qPgG ?_) | refine qG ?_))
   intro w hw
   repeat (first | refine byW ?_ | (refine byV ?_;intro w hw))
   refine W_cond rfl (fun h=>?_) (fun h=>?_)
   ·have h:b≤a:=of_decide_eq_true h
    repeat (first | refine byW ?_ | (refine byV ?_;intro w hw))
    refine ⟨_,rfl,ret_b rfl ?_,hw.ds [0,0]⟩
    refine (decP_f fun hP=>?_).symm
    have:=hP.1 x.T (List.mem_of_getElem? (hget k x hx)) i a b ha hb
    omega
   ·have h:¬ b≤a:=of_decide_eq_false h
    repeat (first | refine byW ?_ | (refine byV ?_;intro w hw))
    refine ⟨μ2 - 1,by omega,i+1+1,by omega,by omega,⟨rfl,rfl,rfl,rfl,trivial⟩,fun i' a' b' hi' hA hB=>?_,hw⟩
    by_cases e:i'=i
    ·subst e;rw [ha] at hA;rw [hb] at hB;cases hA;cases hB;omega
    ·exact hasc i' a' b' (by omega) hA hB
  ·have hjn:x.N≤j:=by have:=of_decide_eq_false h;omega
   repeat (first | refine byW ?_ | (refine byV ?_;intro w hw))
   refine ⟨μ - 1,by omega,k+1,by omega,⟨rfl,rfl,trivial⟩,fun i y hi hy=>?_,hw.drop⟩
   by_cases e:i=k
   ·subst e;rw [hx] at hy;cases hy
    exact fun i a b ha hb=>hasc i a b (by have:=(List.getElem?_eq_some_iff.1 hb).1;omega) ha hb
   ·exact hall i y (by omega) hy
 have hkn:n2≤k:=by have:=of_decide_eq_false h;omega
 have hsort:∀ (i:Nat) (x:CacheH),cs[i]? = some x→ascP x.Cores:=fun i x hx=>hall i x (by have:=(List.getElem?_eq_some_iff.1 hx).1;omega) hx
 clear h hkn hall hρ hk
 repeat (first | refine byW ?_ | (refine byV ?_;intro w hw))
 refine W_loop (fun μ ρ w=>∃ (k:Nat),μ+k=n2∧Has ρ [(1,.pointer (some ⟨b1,0,none⟩)),(6,.int .i64 k)]∧(∀ (i j:Nat) (a b:CacheH),i < k→cs[i]? = some a→cs[j]? = some b→pairB i j a.T b.T=true)∧Wd Γ (.blk b1 (hwC H a1 n1 c1 a2 n2 c2 a3 n3 c3 a4 n4 c4 a5 n5 c5)::S) w) n2 ⟨0,by omega,⟨rfl,rfl,trivial⟩,fun i j a b h=>by omega,hw⟩ ?_
 clear hw
 rintro μ ρ w ⟨i,hi,hρ,hall,hw⟩
 rw [hρ.eq]
 repeat (first | refine byW ?_ | (refine byV ?_;intro w hw))
 refine W_cond rfl (fun h=>?_) (fun h=>?_)
 ·have hin:i < n2:=by have:=of_decide_eq_true h;omega
  clear h
  obtain ⟨x,hx⟩:=get_lt (l:=cs) (k:=i) (by omega)
  have hcx:=hok x (List.mem_of_getElem? hx)
  obtain ⟨hxn,hxm,hxc⟩:=hcx.facts
  unfold COk at hcx
  repeat (first | refine byW ?_ | (refine byV ?_;intro w hw))
  refine W_loop (fun μ2 ρ w=>∃ (k:Nat),μ2+k=n2∧Has ρ [(1,.pointer (some ⟨b1,0,none⟩)),(6,.int .i64 i),(7,.int .i64 k)]∧(∀ (j:Nat) (b:CacheH),j < k→cs[j]? = some b→pairB i j x.T b.T=true)∧Wd Γ (.blk b1 (hwC H a1 n1 c1 a2 n2 c2 a3 n3 c3 a4 n4 c4 a5 n5 c5)::S) w) n2 ⟨0,by omega,⟨rfl,rfl,rfl,trivial⟩,fun j b h=>by omega,hw⟩ ?_
  clear hw hρ
  rintro μ2 ρ w ⟨k,hk,hρ,hall2,hw⟩
  rw [hρ.eq]
  repeat (first | refine byW ?_ | (refine byV ?_;intro w hw))
  refine W_cond rfl (fun h2=>?_) (fun h2=>?_)
  ·have hkn:k < n2:=by have:=of_decide_eq_true h2;omega
   clear h2
   obtain ⟨y,hy⟩:=get_lt (l:=cs) (k:=k) (by omega)
   have hcy:=hok y (List.mem_of_getElem? hy)
   obtain ⟨hyn,hym,hyc⟩:=hcy.facts
   haveI:SlC Γ (.slice y.A y.N y.C) 1 (intRows y.Cores):=⟨hcy⟩
   repeat (first | refine byW ?_ | (refine byV ?_;intro w hw))
   refine W_mixed [.blk b1 (hwC H a1 n1 c1 a2 n2 c2 a3 n3 c3 a4 n4 c4 a5 n5 c5)] [fun _=>[],fun _=>[],fun _=>S] [[],[],[],[],[],[],[],[],[],[],[0],[1],[0],[1]] [[],[],[],[],[],[],[],[],[],[],[0],[1],[0],[1]] [[8],[9],[]] (by have:=hw;simpa [List.range,List.range.loop,ML] using this) ?_
   repeat (first | refine mY ?_ | refine mP ?_ | refine mPg ?_)
   refine mAlloc ?_
   refine mAlloc ?_
   refine mStoreAt ?_
   refine mStoreAt ?_
   refine mEnd fun w g hw=>?_
   have hw:Wd Γ (.blk b1 (hwC H a1 n1 c1 a2 n2 c2 a3 n3 c3 a4 n4 c4 a5 n5 c5)::atP (g 8) _::atP (g 9) _::(S++[])) w:=hw
   rw [List.append_nil] at hw
   obtain ⟨b8,hg8,hw⟩:=(Wd.ps [1] hw).openAt
   have hw:Wd Γ (.blk b8 (.cells (cC x).toArray 59)::.blk b1 (hwC H a1 n1 c1 a2 n2 c2 a3 n3 c3 a4 n4 c4 a5 n5 c5)::atP (g 9) _::S) w:=hw
   obtain ⟨b9,hg9,hw⟩:=(Wd.ps [2] hw).openAt
   have hw:Wd Γ (.blk b9 (.cells (cC y).toArray 59)::.blk b8 (.cells (cC x).toArray 59)::.blk b1 (hwC H a1 n1 c1 a2 n2 c2 a3 n3 c3 a4 n4 c4 a5 n5 c5)::S) w:=hw
   refine W_has (l:=[(1,.pointer (some ⟨b1,0,none⟩)),(6,.int .i64 i),(7,.int .i64 k),(8,.pointer (some ⟨b8,0,none⟩)),(9,.pointer (some ⟨b9,0,none⟩))]) ⟨rfl,rfl,rfl,hg8,hg9,trivial⟩ fun ρ' hρ'=>?_
   clear hg8 hg9
   rw [hρ'.eq]
   clear hρ'
   repeat (first | refine byW ?_ | (refine byV ?_;intro w hw))
   refine W_cond rfl (fun h3=>?_) (fun h3=>?_)
   ·have hp:pairB i k x.T y.T=true:=by
     have h3:(decide ((i:Int)=k) || decide (y.Level < x.Level))=true:=h3
     unfold pairB CacheH.T
     rw [show decide (i=k)=decide ((i:Int)=k) from decide_eq_decide.2 (by omega)]
     rw [h3];rfl
    repeat (first | refine byW ?_ | (refine byV ?_;intro w hw))
    exact ⟨μ2 - 1,by omega,k+1,by omega,⟨rfl,rfl,rfl,trivial⟩,allI_step (p:=fun j b=>pairB i j x.T b.T) hall2 hy hp,hw.ds [0,0]⟩
   ·have h3:(decide ((i:Int)=k) || decide (y.Level < x.Level))=false:=h3
    repeat (first | refine byW ?_ | (refine byV ?_;intro w hw))
    refine W_loop (fun μ3 ρ w=>∃ (j:Nat),μ3+j=x.N∧Has ρ [(1,.pointer (some ⟨b1,0,none⟩)),(6,.int .i64 i),(7,.int .i64 k),(8,.pointer (some ⟨b8,0,none⟩)),(9,.pointer (some ⟨b9,0,none⟩)),(10,.int .i64 (sharedN (x.Cores.take j) y.Cores)),(11,.int .i64 j)]∧Wd Γ (.blk b9 (.cells (cC y).toArray 59)::.blk b8 (.cells (cC x).toArray 59)::.blk b1 (hwC H a1 n1 c1 a2 n2 c2 a3 n3 c3 a4 n4 c4 a5 n5 c5)::S) w) x.N ⟨0,by omega,⟨rfl,rfl,rfl,rfl,rfl,rfl,rfl,trivial⟩,hw⟩ ?_
    clear hw
    rintro μ3 ρ w ⟨j,hj,hρ,hw⟩
    rw [hρ.eq]
    have hle:sharedN (x.Cores.take j) y.Cores≤j:=Nat.le_trans (List.length_filter_le _ _) (by simp;omega)
    repeat (first | refine byW ?_ | (refine byV ?_;intro w hw))
    refine W_cond rfl (fun h4=>?_) (fun h4=>?_)
    ·have hjn:j < x.N:=by have:=of_decide_eq_true h4;omega
     obtain ⟨v,hv⟩:=get_lt (l:=x.Cores) (k:=j) (by omega)
     have hst:sharedN (x.Cores.take (j+1)) y.Cores=sharedN (x.Cores.take j) y.Cores+(if memI v y.Cores=true then 1 else 0):=by
      unfold sharedN;rw [take_succ_of hv,List.filter_append,List.length_append]
      congr 1
      by_cases e:memI v y.Cores=true <;> simp [e]
     repeat (first | refine byW ?_ | (refine byV ?_;intro w hw))
     refine W_quiet (by kernel_rfl) (by kernel_rfl) hw ?_
     repeat (first | refine Q_nil ?_ | (apply Q_plain;first | (apply Q_go;first | refine qP ?_ | refine qPg ?_) | refine qY ?_) | (apply Q_guarded;first | (apply Q_go;first | refine qPG ?_ | refine qPgG ?_) | refine qG ?_))
     intro w hw
     repeat (first | refine byW ?_ | (refine byV ?_;intro w hw))
     refine W_cond rfl (fun h5=>?_) (fun h5=>?_)
     ·rw [if_pos h5] at hst
      repeat (first | refine byW ?_ | (refine byV ?_;intro w hw))
      exact ⟨μ3 - 1,by omega,j+1,by omega,⟨rfl,rfl,rfl,rfl,rfl,by rw [hst];rfl,rfl,trivial⟩,hw⟩
     ·rw [if_neg (by rw [h5];simp)] at hst
      repeat (first | refine byW ?_ | (refine byV ?_;intro w hw))
      exact ⟨μ3 - 1,by omega,j+1,by omega,⟨rfl,rfl,rfl,rfl,rfl,by rw [hst];rfl,rfl,trivial⟩,hw⟩
    ·have hjn:¬ j < x.N:=by have:=of_decide_eq_false h4;omega
     rw [List.take_of_length_le (by omega)]
     repeat (first | refine byW ?_ | (refine byV ?_;intro w hw))
     have key:pairB i k x.T y.T = !(decide ((0:Int) < (sharedN x.Cores y.Cores:Nat)) && (decide (x.Level=y.Level) || decide (((sharedN x.Cores y.Cores:Nat):Int) < x.N))):=by
      unfold pairB CacheH.T
      rw [show decide (i=k)=decide ((i:Int)=k) from decide_eq_decide.2 (by omega),h3]
      rw [show decide (0 < sharedN x.Cores y.Cores)=decide ((0:Int) < (sharedN x.Cores y.Cores:Nat)) from decide_eq_decide.2 (by omega)]
      rw [show decide (sharedN x.Cores y.Cores < x.Cores.length)=decide (((sharedN x.Cores y.Cores:Nat):Int) < x.N) from decide_eq_decide.2 (by omega)]
      rfl
     refine W_cond rfl (fun h6=>?_) (fun h6=>?_)
     ·have hp:pairB i k x.T y.T=false:=key.trans (congrArg (fun b=>!b) h6)
      repeat (first | refine byW ?_ | (refine byV ?_;intro w hw))
      refine ⟨_,rfl,ret_b rfl ?_,hw.ds [0,0,0]⟩
      refine (decP_f fun hP=>?_).symm
      rw [hP.2 i k x.T y.T (hget i x hx) (hget k y hy)] at hp;cases hp
     ·have hp:pairB i k x.T y.T=true:=key.trans (congrArg (fun b=>!b) h6)
      repeat (first | refine byW ?_ | (refine byV ?_;intro w hw))
      exact ⟨μ2 - 1,by omega,k+1,by omega,⟨rfl,rfl,rfl,trivial⟩,allI_step (p:=fun j b=>pairB i j x.T b.T) hall2 hy hp,hw.ds [0,0]⟩
  ·have hkn:n2≤k:=by have:=of_decide_eq_false h2;omega
   repeat (first | refine byW ?_ | (refine byV ?_;intro w hw))
   refine ⟨μ - 1,by omega,i+1,by omega,⟨rfl,rfl,trivial⟩,fun i' j a b h1 ha hb=>?_,hw⟩
   by_cases e:i'=i
   ·subst e;rw [hx] at ha;cases ha
    exact hall2 j b (by have:=(List.getElem?_eq_some_iff.1 hb).1;omega) hb
   ·exact hall i' j a b (by omega) ha hb
 ·have hin:n2≤i:=by have:=of_decide_eq_false h;omega
  repeat (first | refine byW ?_ | (refine byV ?_;intro w hw))
  refine ⟨_,rfl,ret_b rfl ?_,hw.drop⟩
  refine (decP_t ⟨fun c hc=>?_,fun p q a b ha hb=>?_⟩).symm
  ·rw [← hcs] at hc
   obtain ⟨x,hx,rfl⟩:=List.mem_map.1 hc
   obtain ⟨q,hq,he⟩:=List.getElem_of_mem hx
   exact hsort q x (by rw [List.getElem?_eq_getElem hq,he])
  ·rw [← hcs,List.getElem?_map] at ha hb
   obtain ⟨x,hx,rfl⟩:=Option.map_eq_some_iff.1 ha
   obtain ⟨y,hy,rfl⟩:=Option.map_eq_some_iff.1 hb
   exact hall p q x y (by have:=(List.getElem?_eq_some_iff.1 hx).1;omega) hx hy
theorem nest_hier {l:List CacheT} (hn:∀ c∈l,c.Cores.Nodup):NestP l↔HierP l:=by
 unfold NestP HierP
 refine and_congr ⟨fun h c hc i a b ha hb=>?_,fun h c hc i a b ha hb=>?_⟩ Iff.rfl
 ·exact Int.le_of_lt (h c hc i a b ha hb)
 ·have h1:=h c hc i a b ha hb
  have h2:b≠a:=fun e=>not_nodup (Nat.lt_succ_self i) hb (by rw [e];exact ha) (hn c hc)
  omega
end Go.Proofs.YthgighljhoneeaaGreatDoor
end
section
open Go Mk
namespace Go.Proofs.YthgighljhoneeaaGreatDoor
set_option maxHeartbeats 16000000
attribute [local irreducible] Calls
class WideH (H:HwT):Prop where h:MemWide H
instance pg_namesR {Γ:Gho} {u:Value} {H:HwT} [hh:HwR Γ u H]:PG Tryz.prog Γ 67 [u] (.bool (namesB H)):=⟨fun S w hw=>names_any hw⟩
instance pg_rangesR {Γ:Gho} {u:Value} {H:HwT} [hh:HwR Γ u H]:PG Tryz.prog Γ 68 [u] (.bool (coresRB H && regionsRB H)):=⟨fun S w hw=>ranges_any hw⟩
instance pg_duplicateR {Γ:Gho} {u:Value} {H:HwT} [hh:HwR Γ u H]:PG Tryz.prog Γ 70 [u] (.bool (!uniqueB H)):=⟨fun S w hw=>duplicate_any hw⟩
theorem coreAt_neg {l:List CoreT} {id:Int}:decide (coreAt l id < 0) = !(l.any fun x=>decide (x.ID=id)):=by
 rw [← coreAt_any,← decide_not]
 congr 1
 apply propext
 omega
theorem bool_not {b:Bool} (h:(!b)=false):b=true:=by simpa using h
instance pg_RValidate {Γ:Gho} {u:Value} {H:HwT} [hh:HwR Γ u H] [hwd:WideH H]:PG Tryz.prog Γ 30 [u] (.int .i64 (validS H)):=⟨fun S w hw=>by
 have hh':=hh
 obtain ⟨a1,n1,c1,a2,n2,c2,a3,n3,c3,a4,n4,c4,a5,n5,c5,cs,rfl,hcs,hok,hsz,r1,r2,r3,r4,r5⟩:=hh.h
 obtain ⟨hn1,hm1,hx1⟩:=rep_facts r1
 obtain ⟨hn2,hm2,hx2⟩:=rep_facts r2
 obtain ⟨hn3,hm3,hx3⟩:=rep_facts r3
 obtain ⟨hn4,hm4,hx4⟩:=rep_facts r4
 obtain ⟨hn5,hm5,hx5⟩:=rep_facts r5
 simp only [List.length_map] at hn1 hn2 hn3 hn4 hn5
 have hcl:H.Caches.length=cs.length:=by rw [← hcs,List.length_map]
 refine calls_of_W Tryz.func30 rfl rfl ?_
 repeat (first | refine byW ?_ | (refine byV ?_;intro w hw))
 refine lBox ?_
 intro b1 w hw
 have hw:Wd Γ (.blk b1 (hwC H a1 n1 c1 a2 n2 c2 a3 n3 c3 a4 n4 c4 a5 n5 c5)::S) w:=hw
 unfold validS
 repeat (first | refine byW ?_ | (refine byV ?_;intro w hw))
 refine W_cond rfl (fun h=>?_) (fun h=>?_)
 ·rw [if_pos (by simpa using h)]
  repeat (first | refine byW ?_ | (refine byV ?_;intro w hw))
  exact ⟨_,rfl,rfl,hw.drop⟩
 rw [if_neg (by rw [bool_not h];simp)]
 clear h
 repeat (first | refine byW ?_ | (refine byV ?_;intro w hw))
 refine W_cond rfl (fun h=>?_) (fun h=>?_)
 ·have h:(((((decide ((n1:Int)=0) || decide ((n1:Int) > 32)) || decide ((n2:Int) > 64)) || decide ((n3:Int) > 256)) || decide ((n4:Int) > 64)) || decide ((n5:Int) > 32))=true:=h
  rw [if_pos (by
   unfold countsB
   simp only [Bool.or_eq_true,decide_eq_true_eq] at h
   rw [Bool.eq_false_iff]
   simp only [ne_eq,Bool.and_eq_true,decide_eq_true_eq]
   omega)]
  repeat (first | refine byW ?_ | (refine byV ?_;intro w hw))
  exact ⟨_,rfl,rfl,hw.drop⟩
 have h:(((((decide ((n1:Int)=0) || decide ((n1:Int) > 32)) || decide ((n2:Int) > 64)) || decide ((n3:Int) > 256)) || decide ((n4:Int) > 64)) || decide ((n5:Int) > 32))=false:=h
 have hcnt:countsB H=true:=by
  unfold countsB
  simp only [Bool.or_eq_false_iff,decide_eq_false_iff_not] at h
  simp only [Bool.and_eq_true,decide_eq_true_eq]
  omega
 rw [if_neg (by rw [hcnt];simp)]
 clear h
 repeat (first | refine byW ?_ | (refine byV ?_;intro w hw))
 refine W_cond rfl (fun h=>?_) (fun h=>?_)
 ·rw [if_pos (notF h)]
  repeat (first | refine byW ?_ | (refine byV ?_;intro w hw))
  exact ⟨_,rfl,rfl,hw.drop⟩
 have h:=bool_not h
 rw [if_neg (by rw [h];simp)]
 rw [Bool.and_eq_true] at h
 obtain ⟨hcr,hrr⟩:=h
 haveI pal:PG Tryz.prog Γ 69 [.agg #[.string H.Name,.slice a1 n1 c1,.slice a2 n2 c2,.slice a3 n3 c3,.slice a4 n4 c4,.slice a5 n5 c5]] (.bool (alignRB H)):=⟨fun S w hw=>by
  have:=aligned_any (hh:=hh') hw
  rwa [align_ref hwd.h hrr] at this⟩
 haveI pov:PG Tryz.prog Γ 72 [.agg #[.string H.Name,.slice a1 n1 c1,.slice a2 n2 c2,.slice a3 n3 c3,.slice a4 n4 c4,.slice a5 n5 c5]] (.bool (!disjB H)):=⟨fun S w hw=>overlap_any (hh:=hh') hcnt hw⟩
 haveI pco:PG Tryz.prog Γ 73 [.agg #[.string H.Name,.slice a1 n1 c1,.slice a2 n2 c2,.slice a3 n3 c3,.slice a4 n4 c4,.slice a5 n5 c5]] (.bool (connB H)):=⟨fun S w hw=>connectedR_any (hh:=hh') hcnt hcr hrr hw⟩
 repeat (first | refine byW ?_ | (refine byV ?_;intro w hw))
 refine W_cond rfl (fun h=>?_) (fun h=>?_)
 ·rw [if_pos (by simpa using h)]
  repeat (first | refine byW ?_ | (refine byV ?_;intro w hw))
  exact ⟨_,rfl,rfl,hw.drop⟩
 rw [if_neg (by rw [bool_not h];simp)]
 clear h
 repeat (first | refine byW ?_ | (refine byV ?_;intro w hw))
 refine W_cond rfl (fun h=>?_) (fun h=>?_)
 ·rw [if_pos (by simpa using h)]
  repeat (first | refine byW ?_ | (refine byV ?_;intro w hw))
  exact ⟨_,rfl,rfl,hw.drop⟩
 have hun:=bool_not h
 rw [if_neg (by rw [hun];simp)]
 clear h
 haveI pne:PG Tryz.prog Γ 71 [.agg #[.string H.Name,.slice a1 n1 c1,.slice a2 n2 c2,.slice a3 n3 c3,.slice a4 n4 c4,.slice a5 n5 c5]] (.bool (hierB H)):=⟨fun S w hw=>by
  have:=nested_any (hh:=hh') hw
  have e:decP (NestP H.Caches)=hierB H:=by
   unfold hierB
   have hi:NestP H.Caches↔HierP H.Caches:=nest_hier fun c hc=>by
    unfold uniqueB at hun
    simp only [Bool.and_eq_true,List.all_eq_true,decide_eq_true_eq] at hun
    exact hun.1 c hc
   by_cases hp:HierP H.Caches
   ·rw [decP_t hp,decP_t (hi.2 hp)]
   ·rw [decP_f hp,decP_f (fun h=>hp (hi.1 h))]
  rwa [e] at this⟩
 repeat (first | refine byW ?_ | (refine byV ?_;intro w hw))
 have hknown:∀ (k:Nat) (x:CacheH),cs[k]? = some x→knownB H=true→∀ id∈x.Cores,(H.Cores.any fun y=>decide (y.ID=id))=true:=fun k x hx hk id hid=>by
  unfold knownB at hk
  simp only [List.all_eq_true] at hk
  exact hk x.T (by rw [← hcs];exact List.mem_map_of_mem (List.mem_of_getElem? hx)) id hid
 refine W_loop (fun μ ρ w=>∃ (k:Nat),μ+k=n2∧Has ρ [(1,.pointer (some ⟨b1,0,none⟩)),(3,.int .i64 k)]∧(∀ (i:Nat) (x:CacheH),i < k→cs[i]? = some x→∀ id∈x.Cores,(H.Cores.any fun y=>decide (y.ID=id))=true)∧Wd Γ (.blk b1 (hwC H a1 n1 c1 a2 n2 c2 a3 n3 c3 a4 n4 c4 a5 n5 c5)::S) w) n2 ⟨0,by omega,⟨rfl,rfl,trivial⟩,fun i x h=>by omega,hw⟩ ?_
 clear hw
 rintro μ ρ w ⟨k,hk,hρ,hall,hw⟩
 rw [hρ.eq]
 clear hρ
 repeat (first | refine byW ?_ | (refine byV ?_;intro w hw))
 refine W_cond rfl (fun h=>?_) (fun h=>?_)
 ·have hkn:k < n2:=by have:=of_decide_eq_true h;omega
  clear h
  obtain ⟨x,hx⟩:=get_lt (l:=cs) (k:=k) (by omega)
  have hcx:=hok x (List.mem_of_getElem? hx)
  obtain ⟨hxn,hxm,hxc⟩:=hcx.facts
  unfold COk at hcx
  repeat (first | refine byW ?_ | (refine byV ?_;intro w hw))
  refine W_loop (fun μ2 ρ w=>∃ (j:Nat),μ2+j=x.N∧Has ρ [(1,.pointer (some ⟨b1,0,none⟩)),(3,.int .i64 k),(4,.int .i64 j)]∧(∀ (i:Nat) (id:Int),i < j→x.Cores[i]? = some id→(H.Cores.any fun y=>decide (y.ID=id))=true)∧Wd Γ (.blk b1 (hwC H a1 n1 c1 a2 n2 c2 a3 n3 c3 a4 n4 c4 a5 n5 c5)::S) w) x.N ⟨0,by omega,⟨rfl,rfl,rfl,trivial⟩,fun i id h=>by omega,hw⟩ ?_
  clear hw
  rintro μ2 ρ w ⟨j,hj,hρ,hall2,hw⟩
  rw [hρ.eq]
  clear hρ
  repeat (first | refine byW ?_ | (refine byV ?_;intro w hw))
  refine W_cond rfl (fun h=>?_) (fun h=>?_)
  ·have hjn:j < x.N:=by have:=of_decide_eq_true h;omega
   clear h
   obtain ⟨id,hid⟩:=get_lt (l:=x.Cores) (k:=j) (by omega)
   repeat (first | refine byW ?_ | (refine byV ?_;intro w hw))
   refine W_quiet (by kernel_rfl) (by kernel_rfl) hw ?_
   repeat (first | refine Q_nil ?_ | (apply Q_plain;first | (apply Q_go;first | refine qP ?_ | refine qPg ?_) | refine qY ?_) | (apply Q_guarded;first | (apply Q_go;first | refine qPG ?_ | refine qPgG ?_) | refine qG ?_))
   intro w hw
   refine W_cond rfl (fun h=>?_) (fun h=>?_)
   ·have h:decide (coreAt H.Cores id < 0)=true:=h
    rw [coreAt_neg,Bool.not_eq_true'] at h
    have hkf:knownB H=false:=by
     cases hkk:knownB H with
     | false=>rfl
     | true=>rw [hknown k x hx hkk id (List.mem_of_getElem? hid)] at h;cases h
    rw [if_pos hkf]
    repeat (first | refine byW ?_ | (refine byV ?_;intro w hw))
    exact ⟨_,rfl,rfl,hw.drop⟩
   ·have h:decide (coreAt H.Cores id < 0)=false:=h
    rw [coreAt_neg,Bool.not_eq_false'] at h
    repeat (first | refine byW ?_ | (refine byV ?_;intro w hw))
    refine ⟨μ2 - 1,by omega,j+1,by omega,⟨rfl,rfl,rfl,trivial⟩,fun i id' hi hid'=>?_,hw⟩
    by_cases e:i=j
    ·subst e;rw [hid] at hid';cases hid';exact h
    ·exact hall2 i id' (by omega) hid'
  ·have hjn:¬ j < x.N:=by have:=of_decide_eq_false h;omega
   repeat (first | refine byW ?_ | (refine byV ?_;intro w hw))
   refine ⟨μ - 1,by omega,k+1,by omega,⟨rfl,rfl,trivial⟩,fun i x' hi hx' id hid=>?_,hw⟩
   by_cases e:i=k
   ·subst e;rw [hx] at hx';cases hx'
    obtain ⟨q,hq⟩:=List.getElem?_of_mem hid
    exact hall2 q id (by have:=(List.getElem?_eq_some_iff.1 hq).1;omega) hq
   ·exact hall i x' (by omega) hx' id hid
 ·have hkn:¬ k < n2:=by have:=of_decide_eq_false h;omega
  have hkt:knownB H=true:=by
   unfold knownB
   simp only [List.all_eq_true]
   intro c hc id hid
   rw [← hcs] at hc
   obtain ⟨x,hx,rfl⟩:=List.mem_map.1 hc
   obtain ⟨q,hq⟩:=List.getElem?_of_mem hx
   exact hall q x (by have:=(List.getElem?_eq_some_iff.1 hq).1;omega) hq id hid
  rw [if_neg (by rw [hkt];simp)]
  clear h
  repeat (first | refine byW ?_ | (refine byV ?_;intro w hw))
  refine W_cond rfl (fun h=>?_) (fun h=>?_)
  ·rw [if_pos (by simpa using h)]
   repeat (first | refine byW ?_ | (refine byV ?_;intro w hw))
   exact ⟨_,rfl,rfl,hw.drop⟩
  rw [if_neg (by rw [bool_not h];simp)]
  clear h
  repeat (first | refine byW ?_ | (refine byV ?_;intro w hw))
  refine W_cond rfl (fun h=>?_) (fun h=>?_)
  ·rw [if_pos (by simpa using h)]
   repeat (first | refine byW ?_ | (refine byV ?_;intro w hw))
   exact ⟨_,rfl,rfl,hw.drop⟩
  rw [if_neg (by rw [bool_not h];simp)]
  clear h
  repeat (first | refine byW ?_ | (refine byV ?_;intro w hw))
  refine W_cond rfl (fun h=>?_) (fun h=>?_)
  ·rw [if_pos (by simpa using h)]
   repeat (first | refine byW ?_ | (refine byV ?_;intro w hw))
   exact ⟨_,rfl,rfl,hw.drop⟩
  rw [if_neg (by rw [bool_not h];simp)]
  clear h
  repeat (first | refine byW ?_ | (refine byV ?_;intro w hw))
  exact ⟨_,rfl,rfl,hw.drop⟩⟩
end Go.Proofs.YthgighljhoneeaaGreatDoor
end
section
open Go Mk
namespace Go.Proofs.YthgighljhoneeaaGreatDoor
def tcmp (t:Int→Int) (a b:Int):Int:=orI (cI (t b) (t a)) (cI a b)
theorem cI_lt {a b:Int}:cI a b < 0↔a < b:=by unfold cI;split <;> (try split) <;> omega
def tsort (t:Int→Int) (l:List Int):List Int:=l.mergeSort fun x y=>!(Go.Proofs.ltOf (tcmp t)) y x
section
variable (far:Int→Int→Int) (cost:Int) (ch:Int→List Int)
def hmostF (cost:Int) (t:Int→Int):Nat→Int→List Int→Int
 | _,m,[]=>m
 | i,m,c::l=>hmostF cost t (i+1) (max m (((i:Int)+1) * cost+t c)) l
def hF:Nat→Int→Int
 | 0,_=>0
 | k+1,c=>hmostF cost (fun d=>far c d+hF k d) 0 0 (tsort (fun d=>far c d+hF k d) (ch c))
def hh (c:Int):Int:=hF far cost ch 4 c
end
section
variable {far:Int→Int→Int} {cost:Int} {ch:Int→List Int}
end
end Go.Proofs.YthgighljhoneeaaGreatDoor
end
section
open Go Mk
namespace Go.Proofs.YthgighljhoneeaaGreatDoor
set_option maxHeartbeats 8000000
attribute [local irreducible] Calls
def coreIx (l:List CoreT) (id:Int):Int:=match l.findIdx? (fun x=>decide (x.ID=id)) with | some k=>k | none=>-1
def findC (l:List CoreT) (id:Int):CoreT × Bool:=match l.find? (fun x=>decide (x.ID=id)) with | some c=>(c,true) | none=>(⟨0,0,0,0⟩,false)
theorem coreIx_some {l:List CoreT} {id:Int} {k:Nat} {x:CoreT} (hx:l[k]? = some x) (he:x.ID=id) (hl:∀ j y,j < k→l[j]? = some y→y.ID≠id):coreIx l id=k∧findC l id=(x,true):=by
 obtain ⟨hk,hxk⟩:=List.getElem?_eq_some_iff.1 hx
 have h1:l.findIdx? (fun x=>decide (x.ID=id))=some k:=by
  rw [List.findIdx?_eq_some_iff_getElem]
  refine ⟨hk,by rw [hxk];simpa using he,fun j hj=>?_⟩
  have:=hl j l[j] hj (List.getElem?_eq_getElem ..)
  simpa using this
 have h2:l.find? (fun x=>decide (x.ID=id))=some x:=by
  rw [List.find?_eq_some_iff_getElem]
  refine ⟨by simpa using he,k,hk,hxk,fun j hj=>?_⟩
  have:=hl j l[j] hj (List.getElem?_eq_getElem ..)
  simpa using this
 unfold coreIx findC
 rw [h1,h2];exact ⟨rfl,rfl⟩
theorem coreIx_none {l:List CoreT} {id:Int} (hl:∀ y∈l,y.ID≠id):coreIx l id = -1∧findC l id=(⟨0,0,0,0⟩,false):=by
 have h1:l.findIdx? (fun x=>decide (x.ID=id))=none:=by
  rw [List.findIdx?_eq_none_iff];intro x hx;simpa using hl x hx
 have h2:l.find? (fun x=>decide (x.ID=id))=none:=by
  rw [List.find?_eq_none];intro x hx;simpa using hl x hx
 unfold coreIx findC
 rw [h1,h2];exact ⟨rfl,rfl⟩
theorem coreIx_cases (l:List CoreT) (id:Int):(coreIx l id = -1∧findC l id=(⟨0,0,0,0⟩,false)∧∀ y∈l,y.ID≠id)∨∃ (k:Nat) (x:CoreT),coreIx l id=k∧l[k]? = some x∧x.ID=id∧findC l id=(x,true):=by
  by_cases h:∀ y∈l,y.ID≠id
  · have:=coreIx_none h
    exact .inl ⟨this.1,this.2,h⟩
  · right
    cases hq:l.findIdx? (fun x=>decide (x.ID=id)) with
    | none=>
      exfalso;apply h
      intro y hy he
      have:=List.findIdx?_eq_none_iff.1 hq y hy
      simp [he] at this
    | some k=>
      obtain ⟨hk,h1,h2⟩:=List.findIdx?_eq_some_iff_getElem.1 hq
      have hx:=List.getElem?_eq_getElem hk
      have h1:l[k].ID=id:=by simpa using h1
      have:=coreIx_some hx h1 (fun j y hj hy=>by
        obtain ⟨hj2,e⟩:=List.getElem?_eq_some_iff.1 hy
        have:=h2 j hj
        rw [← e];simpa using this)
      exact ⟨k,l[k],this.1,hx,h1,this.2⟩
end Go.Proofs.YthgighljhoneeaaGreatDoor
end
section
open Go Mk
namespace Go.Proofs.YthgighljhoneeaaGreatDoor
set_option maxHeartbeats 8000000
attribute [local irreducible] Calls
noncomputable def coreN (H:HwT) (x:Int):Int:=(findC H.Cores x).1.Node
end Go.Proofs.YthgighljhoneeaaGreatDoor
end
section
open Go Mk
namespace Go.Proofs.YthgighljhoneeaaGreatDoor
set_option maxHeartbeats 8000000
attribute [local irreducible] Calls
end Go.Proofs.YthgighljhoneeaaGreatDoor
end
section
open Go Mk
namespace Go.Proofs.YthgighljhoneeaaGreatDoor
set_option maxHeartbeats 8000000
attribute [local irreducible] Calls
end Go.Proofs.YthgighljhoneeaaGreatDoor
end
section
open Go Mk
namespace Go.Proofs.YthgighljhoneeaaGreatDoor
theorem core_node {H:HwT} (hv:validS H=0) {c:CoreT} (hc:c∈H.Cores):0≤c.Node∧c.Node < 64:=by
 obtain ⟨-, -,h3, -⟩:=valid_all hv
 unfold coresRB at h3
 simp only [Bool.and_eq_true] at h3
 have:=List.all_eq_true.1 h3.1.1 c hc
 simp [coreRB,isNodeB] at this
 omega
theorem core_reach {H:HwT} (hv:validS H=0) {c:CoreT} (hc:c∈H.Cores):Reach H.Links ((usedN H).headD 0) c.Node:=by
 obtain ⟨-, -, -, -, -, -, -, -,h9⟩:=valid_all hv
 have hP:ConnP H:=by
  by_cases h:ConnP H
  ·exact h
  ·unfold connB at h9;rw [decP_f h] at h9;cases h9
 refine hP c.Node ?_
 unfold usedN
 exact List.mem_append_left _ (List.mem_append_left _ (List.mem_map.2 ⟨c,hc,rfl⟩))
def updI (f:Int→Int) (a v:Int):Int→Int:=fun x=>if a=x then v else f x
end Go.Proofs.YthgighljhoneeaaGreatDoor
end
section
open Go Mk
namespace Go.Proofs.YthgighljhoneeaaGreatDoor
set_option maxHeartbeats 8000000
attribute [local irreducible] Calls
end Go.Proofs.YthgighljhoneeaaGreatDoor
end
section
open Go Mk
namespace Go.Proofs.YthgighljhoneeaaGreatDoor
set_option maxHeartbeats 8000000
attribute [local irreducible] Calls
end Go.Proofs.YthgighljhoneeaaGreatDoor
end
section
open Go Mk
namespace Go.Proofs.YthgighljhoneeaaGreatDoor
set_option maxHeartbeats 8000000
attribute [local irreducible] Calls
theorem eq_of_all {α:Type} {xs ys:List α} {k:Nat} (hl:xs.length=ys.length) (hk:xs.length≤k) (h:∀ (i:Nat) (x y:α),i < k→xs[i]? = some x→ys[i]? = some y→x=y):xs=ys:=by
 apply List.ext_getElem?
 intro i
 by_cases hi:i < xs.length
 ·obtain ⟨x,hx⟩:=get_lt hi
  obtain ⟨y,hy⟩:=get_lt (l:=ys) (k:=i) (by omega)
  rw [hx,hy,h i x y (by omega) hx hy]
 ·rw [List.getElem?_eq_none (by omega),List.getElem?_eq_none (by omega)]
theorem eq_step {α:Type} {xs ys:List α} {k:Nat} {x y:α} (h:∀ (i:Nat) (x y:α),i < k→xs[i]? = some x→ys[i]? = some y→x=y) (hx:xs[k]? = some x) (hy:ys[k]? = some y) (e:x=y):∀ (i:Nat) (x y:α),i < k+1→xs[i]? = some x→ys[i]? = some y→x=y:=fun i a b hi ha hb=>by
 by_cases q:i=k
 ·subst q;rw [hx] at ha;rw [hy] at hb;cases ha;cases hb;exact e
 ·exact h i a b (by omega) ha hb
end Go.Proofs.YthgighljhoneeaaGreatDoor
end
section
open Go Mk
namespace Go.Proofs.YthgighljhoneeaaGreatDoor
set_option maxHeartbeats 4000000
attribute [local irreducible] Calls
abbrev hwZ:List Value:=[.string ⟨#[]⟩,.slice none 0 0,.slice none 0 0,.slice none 0 0,.slice none 0 0,.slice none 0 0]
section
variable {Γ:Gho} {S:List Res} {w:World} {b2 b3 b4:Nat} {h0:Array Value} {p0:PosT} {e0:Int}
end
section
variable {Γ:Gho} {S:List Res} {w:World}
end
end Go.Proofs.YthgighljhoneeaaGreatDoor
end
section
open Go Mk
namespace Go.Proofs.YthgighljhoneeaaGreatDoor
set_option maxHeartbeats 8000000
attribute [local irreducible] Calls
theorem HwOut.freeze {Γ:Gho} {S:List Res} {w:World} {H:HwT} {u:Value} (h:HwOut Γ H S u w) (hsz:HwSz H):∃ Γ',Γ.le Γ'∧HwR Γ' u H∧Wd Γ' S w:=by
 obtain ⟨v1,v2,v3,v4,v5,cs,hcs,hok,rfl,hw⟩:=h
 obtain ⟨a1,n1,c1,rfl, -, -, -⟩:=hw.own_shape (i:=0) rfl
 obtain ⟨a2,n2,c2,rfl, -, -, -⟩:=hw.own_shape (i:=1) rfl
 obtain ⟨a3,n3,c3,rfl, -, -, -⟩:=hw.own_shape (i:=2) rfl
 obtain ⟨a4,n4,c4,rfl, -, -, -⟩:=hw.own_shape (i:=3) rfl
 obtain ⟨a5,n5,c5,rfl, -, -, -⟩:=hw.own_shape (i:=4) rfl
 obtain ⟨Γ1,e1,r1,hw⟩:=hw.freeze
 obtain ⟨Γ2,e2,r2,hw⟩:=hw.freeze
 obtain ⟨Γ3,e3,r3,hw⟩:=hw.freeze
 obtain ⟨Γ4,e4,r4,hw⟩:=hw.freeze
 obtain ⟨Γ5,e5,r5,hw⟩:=hw.freeze
 have f4:=e5
 have f3:=e4.trans f4
 have f2:=e3.trans f3
 have f1:=e2.trans f2
 exact ⟨Γ5,e1.trans f1,⟨_,_,_,_,_,_,_,_,_,_,_,_,_,_,_,cs,rfl,hcs,fun c hc=>(hok c hc).mono (e1.trans f1),hsz,r1.mono f1,r2.mono f2,r3.mono f3,r4.mono f4,r5⟩,hw⟩
def hw1:HwT:=⟨⟨#[109]⟩,[⟨0,32,0,1⟩],[],[],[],[]⟩
def hw2:HwT:=⟨⟨#[109]⟩,[⟨0,33,0,1⟩],[],[],[],[]⟩
end Go.Proofs.YthgighljhoneeaaGreatDoor
end
section
open Go Mk
namespace Mk
section
variable {α:Type} {lt:α→α→Bool}
def bubC (lt:α→α→Bool):Nat→List α→List α
  | 0,l=>l
  | j+1,l=>match l[j+1]?,l[j]? with
    | some x,some y=>if lt x y then bubC lt j ((l.set (j+1) y).set j x) else l
    | _,_=>l
def isF (lt:α→α→Bool):Nat→Nat→List α→List α
 | 0,_,l=>l
 | m+1,i,l=>isF lt m (i+1) (bubC lt i l)
def isort (lt:α→α→Bool) (l:List α):List α:=isF lt (l.length - 1) 1 l
theorem bubC_step {j:Nat} {l:List α} {x y:α} (hx:l[j+1]? = some x) (hy:l[j]? = some y) (h:lt x y=true):bubC lt (j+1) l=bubC lt j ((l.set (j+1) y).set j x):=by
 simp [bubC,hx,hy,h]
theorem bubC_stop {j:Nat} {l:List α} {x y:α} (hx:l[j+1]? = some x) (hy:l[j]? = some y) (h:lt x y=false):bubC lt (j+1) l=l:=by
 simp [bubC,hx,hy,h]
theorem bubC_spec:∀ (A:List α) (x:α) (B:List α),∃ C D,A=C++D∧bubC lt A.length (A++x::B)=C++x::(D++B)∧(∀ d∈D,lt x d=true)∧(∀ c,C.getLast? = some c→lt x c=false):=by
  intro A
  generalize hn:A.length=n
  induction n generalizing A with
  | zero=>
    intro x B
    obtain rfl:A=[]:=List.eq_nil_of_length_eq_zero hn
    exact ⟨[],[],rfl,rfl,by simp,by simp⟩
  | succ j ih=>
    intro x B
    have hne:A≠[]:=by intro e;subst e;simp at hn
    obtain ⟨A',y,rfl⟩:∃ A' y,A=A'++[y]:=⟨A.dropLast,A.getLast hne,(List.dropLast_concat_getLast hne).symm⟩
    have hA':A'.length=j:=by simpa using hn
    have hx:(A'++[y]++x::B)[j+1]? = some x:=by
      rw [List.getElem?_append_right (by simp [hA'])];simp [hA']
    have hy:(A'++[y]++x::B)[j]? = some y:=by
      rw [List.append_assoc,List.getElem?_append_right (by omega)];simp [hA']
    by_cases h:lt x y=true
    · rw [bubC_step hx hy h]
      have hs:((A'++[y]++x::B).set (j+1) y).set j x=A'++x::(y::B):=by
        rw [List.append_assoc,List.set_append_right _ _ (by omega),List.set_append_right _ _ (by omega)]
        simp [hA']
      rw [hs]
      obtain ⟨C,D,h1,h2,h3,h4⟩:=ih A' hA' x (y::B)
      refine ⟨C,D++[y],by rw [h1];simp,by rw [h2];simp,fun d hd=>?_,h4⟩
      rcases List.mem_append.1 hd with hd | hd
      · exact h3 d hd
      · rw [List.mem_singleton.1 hd];exact h
    · have h:lt x y=false:=by simpa using h
      rw [bubC_stop hx hy h]
      refine ⟨A'++[y],[],by simp,by simp,by simp,fun c hc=>?_⟩
      rw [List.getLast?_append] at hc
      simp at hc
      subst hc;exact h
structure Lt3 (lt:α→α→Bool):Prop where
 asymm:∀ x y,lt x y=true→lt y x=false
 ntrans:∀ x y z,lt y x=false→lt z y=false→lt z x=false
theorem bubC_perm (A:List α) (x:α) (B:List α):(bubC lt A.length (A++x::B)).Perm (A++x::B):=by
 obtain ⟨C,D,h1,h2, -, -⟩:=bubC_spec (lt:=lt) A x B
 rw [h2,h1,List.append_assoc]
 exact List.Perm.append_left C (List.perm_middle.symm)
theorem bubC_sorted (hl:Lt3 lt) (A:List α) (x:α) (B:List α) (hA:A.Pairwise fun a b=>lt b a=false):∃ A',A'.length=A.length+1∧bubC lt A.length (A++x::B)=A'++B∧A'.Pairwise fun a b=>lt b a=false:=by
 obtain ⟨C,D,h1,h2,h3,h4⟩:=bubC_spec (lt:=lt) A x B
 subst h1
 refine ⟨C++x::D,by simp;omega,by rw [h2];simp,?_⟩
 obtain ⟨p1,p2,p3⟩:=List.pairwise_append.1 hA
 have hC:∀ c∈C,lt x c=false:=fun c hc=>by
  have hne:C≠[]:=fun e=>by subst e;cases hc
  have hlast:=h4 (C.getLast hne) (List.getLast?_eq_some_getLast hne)
  have hsp:C=C.dropLast++[C.getLast hne]:=(List.dropLast_concat_getLast hne).symm
  rw [hsp] at hc p1
  rcases List.mem_append.1 hc with hc | hc
  ·exact hl.ntrans _ _ _ ((List.pairwise_append.1 p1).2.2 c hc _ (List.mem_singleton.2 rfl)) hlast
  ·rw [List.mem_singleton.1 hc];exact hlast
 refine List.pairwise_append.2 ⟨p1,List.pairwise_cons.2 ⟨fun d hd=>hl.asymm _ _ (h3 d hd),p2⟩,fun c hc b hb=>?_⟩
 rcases List.mem_cons.1 hb with rfl | hb
 ·exact hC c hc
 ·exact p3 c hc b hb
theorem isF_spec (hl:Lt3 lt):∀ (m:Nat) (A B:List α),B.length=m→(A.Pairwise fun a b=>lt b a=false)→(isF lt m A.length (A++B)).Perm (A++B)∧(isF lt m A.length (A++B)).Pairwise fun a b=>lt b a=false
  | 0,A,B,hB,hA=>by
    obtain rfl:B=[]:=List.eq_nil_of_length_eq_zero hB
    simpa [isF] using hA
  | m+1,A,[],hB,_=>by simp at hB
  | m+1,A,x::B,hB,hA=>by
    show (isF lt m (A.length+1) (bubC lt A.length (A++x::B))).Perm _∧(isF lt m (A.length+1) (bubC lt A.length (A++x::B))).Pairwise _
    have hp:=bubC_perm (lt:=lt) A x B
    obtain ⟨A',h1,h2,h3⟩:=bubC_sorted hl A x B hA
    rw [h2] at hp ⊢
    rw [← h1]
    obtain ⟨q1,q2⟩:=isF_spec hl m A' B (by simpa using hB) h3
    exact ⟨q1.trans hp,q2⟩
theorem isort_spec (hl:Lt3 lt) (l:List α):(isort lt l).Perm l∧(isort lt l).Pairwise fun a b=>lt b a=false:=by
 cases l with
 | nil=>exact ⟨.refl _,.nil⟩
 | cons x l=>exact isF_spec hl l.length [x] l rfl (List.pairwise_singleton ..)
theorem sorted_uniq:∀ {xs ys:List α},(∀ x∈xs,∀ y∈xs,lt x y=false→lt y x=false→x=y)→(xs.Pairwise fun a b=>lt b a=false)→(ys.Pairwise fun a b=>lt b a=false)→ys.Perm xs→ys=xs
  | [],_,_,_,_,h=>List.perm_nil.1 h
  | x::xs,[],_,_,_,h=>absurd h.length_eq (by simp)
  | x::xs,y::ys,he,hx,hy,h=>by
    have hy1:y∈x::xs:=h.subset (List.mem_cons_self ..)
    have hx1:x∈y::ys:=h.symm.subset (List.mem_cons_self ..)
    have hxy:x=y:=by
      rcases List.mem_cons.1 hy1 with e | e
      · exact e.symm
      · rcases List.mem_cons.1 hx1 with e2 | e2
        · exact e2
        · exact he x (List.mem_cons_self ..) y hy1 ((List.pairwise_cons.1 hy).1 x e2) ((List.pairwise_cons.1 hx).1 y e)
    subst hxy
    rw [sorted_uniq (fun a ha b hb=>he a (List.mem_cons_of_mem _ ha) b (List.mem_cons_of_mem _ hb)) (List.pairwise_cons.1 hx).2 (List.pairwise_cons.1 hy).2 (List.Perm.cons_inv h)]
end
end Mk
end
section
open Go Mk
namespace Go.Proofs.YthgighljhoneeaaGreatDoor
set_option maxHeartbeats 16000000
attribute [local irreducible] Calls
def ltC {α:Type} (c:α→α→Int) (x y:α):Bool:=decide (c x y < 0)
theorem ltC_lt3 {α β:Type} {c:β→β→Int} (h:Ord3 c) (f:α→β):Lt3 (ltC fun x y:α=>c (f x) (f y)) where
 asymm x y e:=by
  have h1:c (f x) (f y) < 0:=of_decide_eq_true e
  have h2:=h.anti (f x) (f y)
  refine decide_eq_false ?_
  show ¬ c (f y) (f x) < 0
  omega
 ntrans x y z e1 e2:=by
  have h1:¬ c (f y) (f x) < 0:=of_decide_eq_false e1
  have h2:¬ c (f z) (f y) < 0:=of_decide_eq_false e2
  refine decide_eq_false fun h3=>?_
  have h3:c (f z) (f x) < 0:=h3
  have r1:=h.rng (f y) (f x)
  have r2:=h.rng (f z) (f y)
  have r3:=h.rng (f z) (f x)
  have a1:=h.anti (f y) (f x)
  have a2:=h.anti (f z) (f y)
  have h3':c (f z) (f x) = -1:=by omega
  rcases r1 with r1 | r1 | r1
  ·omega
  ·have e:=h.eq0 r1
   rw [← e] at h3;exact h2 h3
  ·have h4:c (f x) (f y) = -1:=by omega
   have h5:=h.trans h3' h4
   omega
instance pc_isNaNu (s:Int):PC Tryz.prog 77 [.int .u64 s] (.bool false):=⟨fun w=>by
 refine calls_of_W Tryz.func77 rfl rfl ?_
 repeat (first | refine byW ?_ | (refine byV ?_;intro w hw))
 exact ⟨_,rfl,ret_b rfl (by simp),rfl⟩⟩
instance pc_cmpi (a b:Int):PC Tryz.prog 38 [.int .i64 a,.int .i64 b] (.int .i64 (cI a b)):=⟨fun w=>by
 refine calls_of_W Tryz.func38 rfl rfl ?_
 repeat (first | refine byW ?_ | (refine byV ?_;intro w hw))
 refine W_cond_false rfl ?_
 repeat (first | refine byW ?_ | (refine byV ?_;intro w hw))
 refine W_cond_false rfl ?_
 repeat (first | refine byW ?_ | (refine byV ?_;intro w hw))
 refine W_cond rfl (fun h=>?_) (fun h=>?_)
 ·repeat (first | refine byW ?_ | (refine byV ?_;intro w hw))
  exact ⟨_,rfl,ret_i rfl (by simp at h;simp [cI,h]),rfl⟩
 repeat (first | refine byW ?_ | (refine byV ?_;intro w hw))
 refine W_cond rfl (fun h2=>?_) (fun h2=>?_)
 ·repeat (first | refine byW ?_ | (refine byV ?_;intro w hw))
  exact ⟨_,rfl,ret_i rfl (by simp at h h2;unfold cI;rw [if_neg (by omega),if_pos h2]),rfl⟩
 ·repeat (first | refine byW ?_ | (refine byV ?_;intro w hw))
  exact ⟨_,rfl,ret_i rfl (by simp at h h2;unfold cI;rw [if_neg (by omega),if_neg (by omega)]),rfl⟩⟩
instance pc_cmpu (a b:Int):PC Tryz.prog 39 [.int .u64 a,.int .u64 b] (.int .i64 (cI a b)):=⟨fun w=>by
 refine calls_of_W Tryz.func39 rfl rfl ?_
 repeat (first | refine byW ?_ | (refine byV ?_;intro w hw))
 refine W_cond_false rfl ?_
 repeat (first | refine byW ?_ | (refine byV ?_;intro w hw))
 refine W_cond_false rfl ?_
 repeat (first | refine byW ?_ | (refine byV ?_;intro w hw))
 refine W_cond rfl (fun h=>?_) (fun h=>?_)
 ·repeat (first | refine byW ?_ | (refine byV ?_;intro w hw))
  exact ⟨_,rfl,ret_i rfl (by simp at h;simp [cI,h]),rfl⟩
 repeat (first | refine byW ?_ | (refine byV ?_;intro w hw))
 refine W_cond rfl (fun h2=>?_) (fun h2=>?_)
 ·repeat (first | refine byW ?_ | (refine byV ?_;intro w hw))
  exact ⟨_,rfl,ret_i rfl (by simp at h h2;unfold cI;rw [if_neg (by omega),if_pos h2]),rfl⟩
 ·repeat (first | refine byW ?_ | (refine byV ?_;intro w hw))
  exact ⟨_,rfl,ret_i rfl (by simp at h h2;unfold cI;rw [if_neg (by omega),if_neg (by omega)]),rfl⟩⟩
def orL:List Int→Int
 | []=>0
 | x::l=>orI x (orL l)
theorem orI_r (x:Int):orI x 0=x:=by unfold orI;split <;> simp [*]
theorem Or_any {Γ:Gho} {S:List Res} {w:World} {v:Value} (xs:List Int) (hw:Wd Γ S w) (hr:RdS Γ S v 1 (xs.map fun x=>[.int .i64 x])) :
  Calls Tryz.prog 37 #[v] w fun e w'=>e=.returned (.int .i64 (orL xs))∧Wd Γ S w':=by
 obtain ⟨a,n,c,rfl,hn,hnc,hc⟩:=hr.shape
 simp only [List.length_map] at hn
 refine calls_of_W Tryz.func37 rfl rfl ?_
 repeat (first | refine byW ?_ | (refine byV ?_;intro w hw))
 refine W_loop (fun μ ρ w=>∃ (k:Nat),μ+k=n∧Has ρ [(3,.int .i64 0),(6,.slice a n c),(7,.int .i64 n),(8,.int .i64 k)]∧orL xs=orL (xs.drop k)∧Wd Γ S w) n ⟨0,by omega,⟨rfl,rfl,rfl,rfl,trivial⟩,rfl,hw⟩ ?_
 clear hw
 rintro μ ρ w ⟨k,hk,hρ,ho,hw⟩
 rw [hρ.eq]
 repeat (first | refine byW ?_ | (refine byV ?_;intro w hw))
 refine W_cond rfl (fun h=>?_) (fun h=>?_)
 ·have hkn:k < n:=by simpa using h
  obtain ⟨x,hx⟩:=get_lt (l:=xs) (k:=k) (by omega)
  have hd:xs.drop k=x::xs.drop (k+1):=by
   obtain ⟨h1,h2⟩:=List.getElem?_eq_some_iff.1 hx
   rw [← h2];exact (List.drop_eq_getElem_cons h1)
  rw [hd] at ho
  repeat (first | refine byW ?_ | (refine byV ?_;intro w hw))
  refine W_cond rfl (fun h2=>?_) (fun h2=>?_)
  ·repeat (first | refine byW ?_ | (refine byV ?_;intro w hw))
   have h2:¬ x=0:=by simpa using h2
   refine ⟨_,rfl,ret_i rfl ?_,hw⟩
   rw [ho];unfold orL orI;rw [if_neg h2]
  ·repeat (first | refine byW ?_ | (refine byV ?_;intro w hw))
   have h2:x=0:=by simpa using h2
   refine ⟨μ - 1,by omega,k+1,by omega,⟨rfl,rfl,rfl,rfl,trivial⟩,?_,hw⟩
   rw [ho];show orI x _=_;unfold orI;rw [if_pos h2]
 ·have hkn:¬ k < n:=by simpa using h
  repeat (first | refine byW ?_ | (refine byV ?_;intro w hw))
  refine ⟨_,rfl,ret_i rfl ?_,hw⟩
  rw [ho,List.drop_eq_nil_of_le (by omega)];rfl
def cCore (x y:CoreT):Int:=cI x.ID y.ID
def cCache (x y:CacheH):Int:=orI (cI x.Level y.Level) (cB x.Name y.Name)
def cLink (x y:LinkT):Int:=orI (cI x.A y.A) (cI x.B y.B)
def cMem (x y:MemT):Int:=cI x.Base y.Base
def cDev (x y:DevT):Int:=cI x.IRQ y.IRQ
end Go.Proofs.YthgighljhoneeaaGreatDoor
end
section
open Go Mk
namespace Go.Proofs.YthgighljhoneeaaGreatDoor
def lay_rng_ren:Go.Shelf.Ren:=⟨fun | 6=>43 | 15=>75 | 14=>82 | 28=>116 | 29=>117 | 20=>119 | 21=>120 | 22=>121 | 23=>122 | 24=>123 | 25=>124 | 26=>125 | 27=>126 | 46=>155 | 47=>143 | 48=>144 | 49=>156 | 50=>157 | 57=>170 | n=>n,fun | 22=>64 | 24=>68 | 25=>93 | 3=>3 | 39=>117 | 0=>0 | 53=>160 | 55=>57 | 4=>4 | 46=>153 | 45=>152 | 50=>157 | 5=>5 | 9=>9 | 66=>180 | 70=>184 | 76=>198 | 77=>199 | n=>n,fun | n=>n⟩
theorem lay_rng:Go.Proofs.SlLaysF0.n6 Tryz.prog lay_rng_ren:={
 mixed:=by kernel_rfl
 f6:=⟨Tryz.f43.name,by decide,Tryz.func43.trans (congrArg some (by kernel_rfl))⟩
 f14:=⟨Tryz.f82.name,by decide,Tryz.func82.trans (congrArg some (by kernel_rfl))⟩
 f15:=Tryz.func75.trans (congrArg some (by kernel_rfl))
 f20:=⟨Tryz.f119.name,by decide,Tryz.func119.trans (congrArg some (by kernel_rfl))⟩
 f21:=⟨Tryz.f120.name,by decide,Tryz.func120.trans (congrArg some (by kernel_rfl))⟩
 f22:=⟨Tryz.f121.name,by decide,Tryz.func121.trans (congrArg some (by kernel_rfl))⟩
 f23:=⟨Tryz.f122.name,by decide,Tryz.func122.trans (congrArg some (by kernel_rfl))⟩
 f24:=⟨Tryz.f123.name,by decide,Tryz.func123.trans (congrArg some (by kernel_rfl))⟩
 f25:=⟨Tryz.f124.name,by decide,Tryz.func124.trans (congrArg some (by kernel_rfl))⟩
 f26:=⟨Tryz.f125.name,by decide,Tryz.func125.trans (congrArg some (by kernel_rfl))⟩
 f27:=⟨Tryz.f126.name,by decide,Tryz.func126.trans (congrArg some (by kernel_rfl))⟩
 f28:=Tryz.func116.trans (congrArg some (by kernel_rfl))
 f29:=Tryz.func117.trans (congrArg some (by kernel_rfl))
 f46:=⟨Tryz.f155.name,by decide,Tryz.func155.trans (congrArg some (by kernel_rfl))⟩
 f47:=Tryz.func143.trans (congrArg some (by kernel_rfl))
 f48:=Tryz.func144.trans (congrArg some (by kernel_rfl))
 f49:=⟨Tryz.f156.name,by decide,Tryz.func156.trans (congrArg some (by kernel_rfl))⟩
 f50:=⟨Tryz.f157.name,by decide,Tryz.func157.trans (congrArg some (by kernel_rfl))⟩
 f57:=⟨Tryz.f170.name,by decide,Tryz.func170.trans (congrArg some (by kernel_rfl))⟩
 t0:=Tryz.underlying0
 a0:=Tryz.isAgg0
 z0:=Tryz.sizeOf0
 v0:=Tryz.zeroValue0
 t3:=Tryz.underlying3
 a3:=Tryz.isAgg3
 z3:=Tryz.sizeOf3
 v3:=Tryz.zeroValue3
 t4:=Tryz.underlying4
 a4:=Tryz.isAgg4
 z4:=Tryz.sizeOf4
 v4:=Tryz.zeroValue4
 t5:=Tryz.underlying5
 a5:=Tryz.isAgg5
 z5:=Tryz.sizeOf5
 v5:=Tryz.zeroValue5
 t9:=Tryz.underlying9
 a9:=Tryz.isAgg9
 z9:=Tryz.sizeOf9
 v9:=Tryz.zeroValue9
 t22:=Tryz.underlying64
 a22:=Tryz.isAgg64
 z22:=Tryz.sizeOf64
 v22:=Tryz.zeroValue64
 t25:=Tryz.underlying93
 a25:=Tryz.isAgg93
 z25:=Tryz.sizeOf93
 v25:=Tryz.zeroValue93
 t39:=Tryz.underlying117
 a39:=Tryz.isAgg117
 z39:=Tryz.sizeOf117
 v39:=Tryz.zeroValue117
 t45:=Tryz.underlying152
 a45:=Tryz.isAgg152
 z45:=Tryz.sizeOf152
 v45:=Tryz.zeroValue152
 t46:=Tryz.underlying153
 a46:=Tryz.isAgg153
 z46:=Tryz.sizeOf153
 v46:=Tryz.zeroValue153
 t50:=Tryz.underlying157
 a50:=Tryz.isAgg157
 z50:=Tryz.sizeOf157
 v50:=Tryz.zeroValue157
 t53:=Tryz.underlying160
 a53:=Tryz.isAgg160
 z53:=Tryz.sizeOf160
 v53:=Tryz.zeroValue160
 t55:=Tryz.underlying57
 a55:=Tryz.isAgg57
 z55:=Tryz.sizeOf57
 v55:=Tryz.zeroValue57
 t66:=Tryz.underlying180
 a66:=Tryz.isAgg180
 z66:=Tryz.sizeOf180
 v66:=Tryz.zeroValue180
 t70:=Tryz.underlying184
 a70:=Tryz.isAgg184
 z70:=Tryz.sizeOf184
 v70:=Tryz.zeroValue184
 t76:=Tryz.underlying198
 a76:=Tryz.isAgg198
 z76:=Tryz.sizeOf198
 v76:=Tryz.zeroValue198
 t77:=Tryz.underlying199
 a77:=Tryz.isAgg199
 z77:=Tryz.sizeOf199
 v77:=Tryz.zeroValue199 }
def lay_dvs_ren:Go.Shelf.Ren:=⟨fun | 6=>50 | 15=>75 | 14=>83 | 28=>116 | 29=>117 | 20=>127 | 21=>128 | 22=>129 | 23=>130 | 24=>131 | 25=>132 | 26=>133 | 27=>134 | 46=>158 | 47=>143 | 48=>144 | 49=>159 | 50=>160 | 57=>171 | n=>n,fun | 22=>26 | 24=>63 | 25=>101 | 3=>3 | 39=>117 | 0=>0 | 53=>160 | 55=>57 | 4=>4 | 46=>153 | 45=>152 | 50=>157 | 5=>5 | 9=>9 | 66=>180 | 70=>184 | 76=>198 | 77=>199 | n=>n,fun | n=>n⟩
theorem lay_dvs:Go.Proofs.SlLaysF0.n6 Tryz.prog lay_dvs_ren:={
 mixed:=by kernel_rfl
 f6:=⟨Tryz.f50.name,by decide,Tryz.func50.trans (congrArg some (by kernel_rfl))⟩
 f14:=⟨Tryz.f83.name,by decide,Tryz.func83.trans (congrArg some (by kernel_rfl))⟩
 f15:=Tryz.func75.trans (congrArg some (by kernel_rfl))
 f20:=⟨Tryz.f127.name,by decide,Tryz.func127.trans (congrArg some (by kernel_rfl))⟩
 f21:=⟨Tryz.f128.name,by decide,Tryz.func128.trans (congrArg some (by kernel_rfl))⟩
 f22:=⟨Tryz.f129.name,by decide,Tryz.func129.trans (congrArg some (by kernel_rfl))⟩
 f23:=⟨Tryz.f130.name,by decide,Tryz.func130.trans (congrArg some (by kernel_rfl))⟩
 f24:=⟨Tryz.f131.name,by decide,Tryz.func131.trans (congrArg some (by kernel_rfl))⟩
 f25:=⟨Tryz.f132.name,by decide,Tryz.func132.trans (congrArg some (by kernel_rfl))⟩
 f26:=⟨Tryz.f133.name,by decide,Tryz.func133.trans (congrArg some (by kernel_rfl))⟩
 f27:=⟨Tryz.f134.name,by decide,Tryz.func134.trans (congrArg some (by kernel_rfl))⟩
 f28:=Tryz.func116.trans (congrArg some (by kernel_rfl))
 f29:=Tryz.func117.trans (congrArg some (by kernel_rfl))
 f46:=⟨Tryz.f158.name,by decide,Tryz.func158.trans (congrArg some (by kernel_rfl))⟩
 f47:=Tryz.func143.trans (congrArg some (by kernel_rfl))
 f48:=Tryz.func144.trans (congrArg some (by kernel_rfl))
 f49:=⟨Tryz.f159.name,by decide,Tryz.func159.trans (congrArg some (by kernel_rfl))⟩
 f50:=⟨Tryz.f160.name,by decide,Tryz.func160.trans (congrArg some (by kernel_rfl))⟩
 f57:=⟨Tryz.f171.name,by decide,Tryz.func171.trans (congrArg some (by kernel_rfl))⟩
 t0:=Tryz.underlying0
 a0:=Tryz.isAgg0
 z0:=Tryz.sizeOf0
 v0:=Tryz.zeroValue0
 t3:=Tryz.underlying3
 a3:=Tryz.isAgg3
 z3:=Tryz.sizeOf3
 v3:=Tryz.zeroValue3
 t4:=Tryz.underlying4
 a4:=Tryz.isAgg4
 z4:=Tryz.sizeOf4
 v4:=Tryz.zeroValue4
 t5:=Tryz.underlying5
 a5:=Tryz.isAgg5
 z5:=Tryz.sizeOf5
 v5:=Tryz.zeroValue5
 t9:=Tryz.underlying9
 a9:=Tryz.isAgg9
 z9:=Tryz.sizeOf9
 v9:=Tryz.zeroValue9
 t22:=Tryz.underlying26
 a22:=Tryz.isAgg26
 z22:=Tryz.sizeOf26
 v22:=Tryz.zeroValue26
 t25:=Tryz.underlying101
 a25:=Tryz.isAgg101
 z25:=Tryz.sizeOf101
 v25:=Tryz.zeroValue101
 t39:=Tryz.underlying117
 a39:=Tryz.isAgg117
 z39:=Tryz.sizeOf117
 v39:=Tryz.zeroValue117
 t45:=Tryz.underlying152
 a45:=Tryz.isAgg152
 z45:=Tryz.sizeOf152
 v45:=Tryz.zeroValue152
 t46:=Tryz.underlying153
 a46:=Tryz.isAgg153
 z46:=Tryz.sizeOf153
 v46:=Tryz.zeroValue153
 t50:=Tryz.underlying157
 a50:=Tryz.isAgg157
 z50:=Tryz.sizeOf157
 v50:=Tryz.zeroValue157
 t53:=Tryz.underlying160
 a53:=Tryz.isAgg160
 z53:=Tryz.sizeOf160
 v53:=Tryz.zeroValue160
 t55:=Tryz.underlying57
 a55:=Tryz.isAgg57
 z55:=Tryz.sizeOf57
 v55:=Tryz.zeroValue57
 t66:=Tryz.underlying180
 a66:=Tryz.isAgg180
 z66:=Tryz.sizeOf180
 v66:=Tryz.zeroValue180
 t70:=Tryz.underlying184
 a70:=Tryz.isAgg184
 z70:=Tryz.sizeOf184
 v70:=Tryz.zeroValue184
 t76:=Tryz.underlying198
 a76:=Tryz.isAgg198
 z76:=Tryz.sizeOf198
 v76:=Tryz.zeroValue198
 t77:=Tryz.underlying199
 a77:=Tryz.isAgg199
 z77:=Tryz.sizeOf199
 v77:=Tryz.zeroValue199 }
def lay_mms_ren:Go.Shelf.Ren:=⟨fun | 6=>35 | 15=>75 | 14=>74 | 28=>116 | 29=>117 | 20=>108 | 21=>109 | 22=>110 | 23=>111 | 24=>112 | 25=>113 | 26=>114 | 27=>115 | 46=>142 | 47=>143 | 48=>144 | 49=>145 | 50=>146 | 57=>166 | n=>n,fun | 22=>25 | 24=>61 | 25=>87 | 3=>3 | 39=>117 | 0=>0 | 53=>160 | 55=>57 | 4=>4 | 46=>153 | 45=>152 | 50=>157 | 5=>5 | 9=>9 | 66=>180 | 70=>184 | 76=>198 | 77=>199 | n=>n,fun | n=>n⟩
theorem lay_mms:Go.Proofs.SlLaysF0.n6 Tryz.prog lay_mms_ren:={
 mixed:=by kernel_rfl
 f6:=⟨Tryz.f35.name,by decide,Tryz.func35.trans (congrArg some (by kernel_rfl))⟩
 f14:=⟨Tryz.f74.name,by decide,Tryz.func74.trans (congrArg some (by kernel_rfl))⟩
 f15:=Tryz.func75.trans (congrArg some (by kernel_rfl))
 f20:=⟨Tryz.f108.name,by decide,Tryz.func108.trans (congrArg some (by kernel_rfl))⟩
 f21:=⟨Tryz.f109.name,by decide,Tryz.func109.trans (congrArg some (by kernel_rfl))⟩
 f22:=⟨Tryz.f110.name,by decide,Tryz.func110.trans (congrArg some (by kernel_rfl))⟩
 f23:=⟨Tryz.f111.name,by decide,Tryz.func111.trans (congrArg some (by kernel_rfl))⟩
 f24:=⟨Tryz.f112.name,by decide,Tryz.func112.trans (congrArg some (by kernel_rfl))⟩
 f25:=⟨Tryz.f113.name,by decide,Tryz.func113.trans (congrArg some (by kernel_rfl))⟩
 f26:=⟨Tryz.f114.name,by decide,Tryz.func114.trans (congrArg some (by kernel_rfl))⟩
 f27:=⟨Tryz.f115.name,by decide,Tryz.func115.trans (congrArg some (by kernel_rfl))⟩
 f28:=Tryz.func116.trans (congrArg some (by kernel_rfl))
 f29:=Tryz.func117.trans (congrArg some (by kernel_rfl))
 f46:=⟨Tryz.f142.name,by decide,Tryz.func142.trans (congrArg some (by kernel_rfl))⟩
 f47:=Tryz.func143.trans (congrArg some (by kernel_rfl))
 f48:=Tryz.func144.trans (congrArg some (by kernel_rfl))
 f49:=⟨Tryz.f145.name,by decide,Tryz.func145.trans (congrArg some (by kernel_rfl))⟩
 f50:=⟨Tryz.f146.name,by decide,Tryz.func146.trans (congrArg some (by kernel_rfl))⟩
 f57:=⟨Tryz.f166.name,by decide,Tryz.func166.trans (congrArg some (by kernel_rfl))⟩
 t0:=Tryz.underlying0
 a0:=Tryz.isAgg0
 z0:=Tryz.sizeOf0
 v0:=Tryz.zeroValue0
 t3:=Tryz.underlying3
 a3:=Tryz.isAgg3
 z3:=Tryz.sizeOf3
 v3:=Tryz.zeroValue3
 t4:=Tryz.underlying4
 a4:=Tryz.isAgg4
 z4:=Tryz.sizeOf4
 v4:=Tryz.zeroValue4
 t5:=Tryz.underlying5
 a5:=Tryz.isAgg5
 z5:=Tryz.sizeOf5
 v5:=Tryz.zeroValue5
 t9:=Tryz.underlying9
 a9:=Tryz.isAgg9
 z9:=Tryz.sizeOf9
 v9:=Tryz.zeroValue9
 t22:=Tryz.underlying25
 a22:=Tryz.isAgg25
 z22:=Tryz.sizeOf25
 v22:=Tryz.zeroValue25
 t25:=Tryz.underlying87
 a25:=Tryz.isAgg87
 z25:=Tryz.sizeOf87
 v25:=Tryz.zeroValue87
 t39:=Tryz.underlying117
 a39:=Tryz.isAgg117
 z39:=Tryz.sizeOf117
 v39:=Tryz.zeroValue117
 t45:=Tryz.underlying152
 a45:=Tryz.isAgg152
 z45:=Tryz.sizeOf152
 v45:=Tryz.zeroValue152
 t46:=Tryz.underlying153
 a46:=Tryz.isAgg153
 z46:=Tryz.sizeOf153
 v46:=Tryz.zeroValue153
 t50:=Tryz.underlying157
 a50:=Tryz.isAgg157
 z50:=Tryz.sizeOf157
 v50:=Tryz.zeroValue157
 t53:=Tryz.underlying160
 a53:=Tryz.isAgg160
 z53:=Tryz.sizeOf160
 v53:=Tryz.zeroValue160
 t55:=Tryz.underlying57
 a55:=Tryz.isAgg57
 z55:=Tryz.sizeOf57
 v55:=Tryz.zeroValue57
 t66:=Tryz.underlying180
 a66:=Tryz.isAgg180
 z66:=Tryz.sizeOf180
 v66:=Tryz.zeroValue180
 t70:=Tryz.underlying184
 a70:=Tryz.isAgg184
 z70:=Tryz.sizeOf184
 v70:=Tryz.zeroValue184
 t76:=Tryz.underlying198
 a76:=Tryz.isAgg198
 z76:=Tryz.sizeOf198
 v76:=Tryz.zeroValue198
 t77:=Tryz.underlying199
 a77:=Tryz.isAgg199
 z77:=Tryz.sizeOf199
 v77:=Tryz.zeroValue199 }
end Go.Proofs.YthgighljhoneeaaGreatDoor
end
section
open Go Mk
namespace Go.Proofs.YthgighljhoneeaaGreatDoor
set_option maxHeartbeats 8000000
attribute [local irreducible] Calls
end Go.Proofs.YthgighljhoneeaaGreatDoor
end
section
open Go Mk
namespace Go.Proofs.YthgighljhoneeaaGreatDoor
section
variable (H:HwT) (r:Int) (ms:List Int)
end
section
variable {H:HwT} {r:Int} {ms:List Int}
end
end Go.Proofs.YthgighljhoneeaaGreatDoor
end
section
open Go Mk
namespace Go.Proofs.YthgighljhoneeaaGreatDoor
section
variable {H:HwT} {r:Int} {ms:List Int}
def blocks (K:Int→List Int) (fs:List Int):List Pl:=fs.flatMap fun f=>(K f).map fun t=>(f,t)
end
end Go.Proofs.YthgighljhoneeaaGreatDoor
end
section
open Go Mk
namespace Go.Proofs.YthgighljhoneeaaGreatDoor
set_option maxHeartbeats 8000000
attribute [local irreducible] Calls
end Go.Proofs.YthgighljhoneeaaGreatDoor
end
section
open Go Mk
namespace Go.Proofs.YthgighljhoneeaaGreatDoor
end Go.Proofs.YthgighljhoneeaaGreatDoor
end
section
open Go Mk
namespace Go.Proofs.YthgighljhoneeaaGreatDoor
def stL (l:List (Pl × Int)) (st:Int→Int):Int→Int:=l.foldl (fun f p=>updI f p.1.2 p.2) st
section
variable {far:Int→Int→Int} {cost:Int}
end
end Go.Proofs.YthgighljhoneeaaGreatDoor
end
section
open Go Mk
namespace Go.Proofs.YthgighljhoneeaaGreatDoor
set_option maxHeartbeats 8000000
attribute [local irreducible] Calls
section
variable {P:Program} {n:Nat} {ops:List Oper} {Γ:Gho} {K:List Res} {wr tc stab:List (List Nat)} {Q:Fr→World→Prop} {i:Nat} {rest:List Oper} {ρ:Fr} {M:Nat→Fr→List Res}
end
end Go.Proofs.YthgighljhoneeaaGreatDoor
end
section
open Go Mk
namespace Go.Proofs.YthgighljhoneeaaGreatDoor
set_option maxHeartbeats 8000000
attribute [local irreducible] Calls
def bub {α:Type} (lt:α→α→Bool):Nat→List α→List α
  | 0,l=>l
  | k+1,l=>match l[k+1]?,l[k]? with
    | some x,some y=>if lt x y=true then bub lt k ((l.set (k+1) y).set k x) else l
    | _,_=>l
def bsFrom {α:Type} (lt:α→α→Bool):Nat→Nat→List α→List α
 | 0,_,l=>l
 | f+1,i,l=>bsFrom lt f (i+1) (bub lt i l)
def bsort {α:Type} (lt:α→α→Bool) (l:List α):List α:=bsFrom lt (l.length - 1) 1 l
theorem bub_step {α:Type} {lt:α→α→Bool} {k:Nat} {l:List α} {x y:α} (hx:l[k+1]? = some x) (hy:l[k]? = some y) (h:lt x y=true):bub lt (k+1) l=bub lt k ((l.set (k+1) y).set k x):=by
 unfold bub;rw [hx,hy];simp only [if_pos h];cases k <;> rfl
theorem bub_stop {α:Type} {lt:α→α→Bool} {k:Nat} {l:List α} {x y:α} (hx:l[k+1]? = some x) (hy:l[k]? = some y) (h:¬ lt x y=true):bub lt (k+1) l=l:=by
 unfold bub;rw [hx,hy];simp only [if_neg h]
def ltI (a b:Int):Bool:=decide (a < b)
theorem ints_one (xs:List Int):(intRows xs).flatten.all (·.oneCell')=true:=by
 unfold intRows
 induction xs with
 | nil=>rfl
 | cons x l ih=>simp only [List.map_cons,List.flatten_cons,List.all_append,ih];rfl
theorem set_rows {xs:List Int} {k:Nat} {x:Int}:(intRows xs).set k [.int .i64 x]=intRows (xs.set k x):=by unfold intRows;rw [List.map_set]
theorem SortInts_any {Γ : Gho} {S : List Res} {w : World} {v : Value} {xs : List Int} (hr : RdS Γ S v 1 (intRows xs)) (hl : xs.length ≤ 1000000) (hw : Wd Γ S w) :
    Calls Tryz.prog 46 #[v] w fun e w'=>∃ v',e=.returned v'∧Wd Γ (.own v' 3 1 (intRows (bsort ltI xs))::S) w':=by
  obtain ⟨a,n,c,rfl,hn,hnc,hc⟩:=hr.shape
  simp only [intRows,List.length_map] at hn
  refine calls_of_W Tryz.func46 rfl rfl ?_
  repeat (first | refine byW ?_ | (refine byV ?_;intro w hw))
  have hw:Wd Γ (.own (.slice none 0 0) 3 1 []::S) w:=Wd.addNil hw
  refine lApp (i:=0) (rows2:=intRows xs) ?_ (hr.cons.rd hw) (h1:=ints_one xs) (hm:=by simp [intRows];exact hn)
  intro v' w hw
  obtain ⟨q,m,d,rfl,hm, -, -⟩:=hw.own_shape (i:=0) rfl
  simp [intRows] at hm
  have hw:Wd Γ (.own (.slice q m d) 3 1 (intRows xs)::S) w:=hw
  repeat (first | refine byW ?_ | (refine byV ?_;intro w hw))
  refine W_loop (fun μ ρ w=>∃ (i:Nat) (Y:List Int),1≤i∧(m≤i+μ)∧Y.length=m∧bsort ltI xs=bsFrom ltI (m - i) i Y∧Has ρ [(3,.slice q m d),(4,.int .i64 i)]∧Wd Γ (.own (.slice q m d) 3 1 (intRows Y)::S) w) m ⟨1,xs,by omega,by omega,hm.symm,by unfold bsort;rw [← hm],⟨rfl,rfl,trivial⟩,hw⟩ ?_
  clear hw
  rintro μ ρ w ⟨i,Y,hi,hμ,hY,hB,hρ,hw⟩
  rw [hρ.eq]
  repeat (first | refine byW ?_ | (refine byV ?_;intro w hw))
  refine W_cond rfl (fun h=>?_) (fun h=>?_)
  · have him:i < m:=by simpa using h
    have hB2:bsort ltI xs=bsFrom ltI (m - (i+1)) (i+1) (bub ltI i Y):=by
      rw [hB,show m - i=(m - (i+1))+1 by omega];rfl
    repeat (first | refine byW ?_ | (refine byV ?_;intro w hw))
    refine W_loop (fun μ2 ρ w=>∃ (k:Nat) (Z:List Int),μ2=k∧k≤i∧Z.length=m∧bub ltI i Y=bub ltI k Z∧Has ρ [(3,.slice q m d),(4,.int .i64 i),(5,.int .i64 k)]∧Wd Γ (.own (.slice q m d) 3 1 (intRows Z)::S) w) i ⟨i,Y,rfl,Nat.le_refl _,hY,rfl,⟨rfl,rfl,rfl,trivial⟩,hw⟩ ?_
    clear hw
    rintro μ2 ρ w ⟨k,Z,rfl,hk,hZ,hC,hρ,hw⟩
    rw [hρ.eq]
    refine W_seq ?_
    refine W_seq ?_
    have hnr:m=(intRows Z).length:=by simp [intRows];omega
    cases μ2 with
    | zero=>
      refine W_quiet (by kernel_rfl) (by kernel_rfl) hw ?_
      iterate 3 (first | refine Q_nil ?_ | (apply Q_plain;first | (apply Q_go;first | refine qP ?_ | refine qPg ?_) | refine qY ?_) | (apply Q_guarded;first | (apply Q_go;first | refine qPG ?_ | refine qPgG ?_) | refine qG ?_))
      iterate 10 (refine qGF ?_ rfl)
      refine qY (v:=.bool false) ?_ (hy:=fun w hw=>y_pickF rfl rfl)
      refine Q_nil ?_
      clear hw
      intro w hw
      refine W_cond rfl (fun h=>by cases h) (fun _=>?_)
      repeat (first | refine byW ?_ | (refine byV ?_;intro w hw))
      exact ⟨μ - 1,by omega,i+1,Z,by omega,by omega,hZ,by rw [hB2,hC];rfl,⟨rfl,rfl,trivial⟩,hw⟩
    | succ k=>
      obtain ⟨x,hx⟩:=get_lt (l:=Z) (k:=k+1) (by omega)
      obtain ⟨y,hy⟩:=get_lt (l:=Z) (k:=k) (by omega)
      have e1:(((k+1:Nat):Int) - 1)=(k:Int):=by omega
      have hx':Z[((k+1:Nat):Int).toNat]? = some x:=hx
      have hy':Z[(((k+1:Nat):Int) - 1).toNat]? = some y:=by rw [e1];exact hy
      refine W_quiet (by kernel_rfl) (by kernel_rfl) hw ?_
      iterate 1 (first | refine Q_nil ?_ | (apply Q_plain;first | (apply Q_go;first | refine qP ?_ | refine qPg ?_) | refine qY ?_) | (apply Q_guarded;first | (apply Q_go;first | refine qPG ?_ | refine qPgG ?_) | refine qG ?_))
      refine qT (b:=decide ((0:Int) < ((k+1:Nat):Int))) (decide_eq_true (by omega)) ?_
      repeat (first | refine Q_nil ?_ | (apply Q_plain;first | (apply Q_go;first | refine qP ?_ | refine qPg ?_) | refine qY ?_) | (apply Q_guarded;first | (apply Q_go;first | refine qPG ?_ | refine qPgG ?_) | refine qG ?_))
      clear hw
      intro w hw
      refine W_cond rfl (fun h2=>?_) (fun h2=>?_)
      · have h2:ltI x y=true:=by simpa [ltI] using h2
        rw [bub_step hx hy h2] at hC
        repeat (first | refine byW ?_ | (refine byV ?_;intro w hw))
        refine lStoreE (k:=k+1) (i:=0) ?_
        intro w hw
        have hw:Wd Γ (.own (.slice q m d) 3 1 ((intRows Z).set (k+1) [.int .i64 y])::S) w:=hw
        rw [set_rows] at hw
        have hnr:m=(intRows (Z.set (k+1) y)).length:=by simp [intRows];omega
        repeat (first | refine byW ?_ | (refine byV ?_;intro w hw))
        refine lStoreE (k:=k) (i:=0) ?_ (hx:=by show Value.pointer _=_;rw [show (((k+1:Nat):Int) - 1).toNat=k by omega])
        intro w hw
        have hw:Wd Γ (.own (.slice q m d) 3 1 ((intRows (Z.set (k+1) y)).set k [.int .i64 x])::S) w:=hw
        rw [set_rows] at hw
        repeat (first | refine byW ?_ | (refine byV ?_;intro w hw))
        exact ⟨k,by omega,k,_,rfl,by omega,by simp;omega,hC,⟨rfl,rfl,by show Value.int .i64 (((k+1:Nat):Int) - 1)=_;rw [e1],trivial⟩,hw⟩
      · have h2 : ¬ ltI x y = true := by have : ltI x y = false := by simpa [ltI] using h2
                                         rw [this];simp
        rw [bub_stop hx hy h2] at hC
        repeat (first | refine byW ?_ | (refine byV ?_;intro w hw))
        exact ⟨μ - 1,by omega,i+1,Z,by omega,by omega,hZ,by rw [hB2,hC],⟨rfl,rfl,trivial⟩,hw⟩
  · have him:¬ i < m:=by simpa using h
    repeat (first | refine byW ?_ | (refine byV ?_;intro w hw))
    refine ⟨_,rfl,_,rfl,?_⟩
    rw [hB,show m - i=0 by omega];exact hw
end Go.Proofs.YthgighljhoneeaaGreatDoor
end
section
open Go Mk
namespace Go.Proofs.YthgighljhoneeaaGreatDoor
set_option maxHeartbeats 8000000
attribute [local irreducible] Calls
end Go.Proofs.YthgighljhoneeaaGreatDoor
end
section
open Go Mk
namespace Go.Proofs.YthgighljhoneeaaGreatDoor
set_option maxHeartbeats 4000000
attribute [local irreducible] Calls
end Go.Proofs.YthgighljhoneeaaGreatDoor
end
section
open Go Mk
namespace Go.Proofs.YthgighljhoneeaaGreatDoor
set_option maxHeartbeats 4000000
attribute [local irreducible] Calls
section
variable {H:HwT} {nodes sh first irq:Int}
theorem mem_get {α:Type} {l:List α} {x:α} (h:x∈l):∃ i,i < l.length∧l[i]? = some x:=by
 obtain ⟨i,hi,he⟩:=List.getElem_of_mem h
 exact ⟨i,hi,by rw [List.getElem?_eq_getElem hi,he]⟩
end
end Go.Proofs.YthgighljhoneeaaGreatDoor
end
section
open Go Mk
namespace Go.Proofs.YthgighljhoneeaaGreatDoor
set_option maxHeartbeats 4000000
attribute [local irreducible] Calls
section
variable {H:HwT} {nodes sh first irq:Int}
end
end Go.Proofs.YthgighljhoneeaaGreatDoor
end
section
open Go Mk
namespace Go.Proofs.YthgighljhoneeaaGreatDoor
section
variable {far:Int→Int→Int} {cost:Int} {r:Int} {es:List Pl}
end
section
variable {H:HwT} {r:Int} {ms:List Int} {cost:Int}
end
end Go.Proofs.YthgighljhoneeaaGreatDoor
end
section
open Go Mk
namespace Go.Proofs.YthgighljhoneeaaGreatDoor
set_option maxHeartbeats 16000000
attribute [local irreducible] Calls
theorem find_any (l:List CoreT) (id:Int):(findC l id).2=l.any fun x=>decide (x.ID=id):=by
 rcases coreIx_cases l id with ⟨-,h2,h3⟩ | ⟨k,x, -,h2,h3,h4⟩
 ·rw [h2]
  symm
  rw [List.any_eq_false]
  intro x hx;simpa using h3 x hx
 ·rw [h4]
  symm
  exact List.any_eq_true.2 ⟨x,List.mem_of_getElem? h2,by simpa using h3⟩
theorem coreAt_lt {l:List CoreT} {id:Int}:decide (coreAt l id < 0) = !(findC l id).2:=by rw [coreAt_neg,find_any]
theorem pg_NodeOf {Γ:Gho} {u:Value} {H:HwT} [hh:HwR Γ u H] {x:Int} (hx:(findC H.Cores x).2=true):PG Tryz.prog Γ 54 [u,.int .i64 x] (.int .i64 (coreN H x)):=⟨fun S w hw=>by
 have hh':=hh
 obtain ⟨a1,n1,c1,a2,n2,c2,a3,n3,c3,a4,n4,c4,a5,n5,c5,cs,rfl,hcs,hok,hsz,r1,r2,r3,r4,r5⟩:=hh.h
 obtain ⟨hn1,hm1,hx1⟩:=rep_facts r1
 simp only [List.length_map] at hn1
 obtain ⟨k,y,hk,hy,hyid,hf⟩:∃ (k:Nat) (y:CoreT),coreAt H.Cores x=k∧H.Cores[k]? = some y∧y.ID=x∧findC H.Cores x=(y,true):=by
  rcases coreIx_cases H.Cores x with ⟨-,h2, -⟩ | h
  ·rw [h2] at hx;cases hx
  ·exact h
 have hkl:=(List.getElem?_eq_some_iff.1 hy).1
 have hcn:coreN H x=y.Node:=by unfold coreN;rw [hf]
 rw [hcn]
 haveI pc:PG Tryz.prog Γ 31 [.agg #[.string H.Name,.slice a1 n1 c1,.slice a2 n2 c2,.slice a3 n3 c3,.slice a4 n4 c4,.slice a5 n5 c5],.int .i64 x] (.int .i64 (k:Nat)):=by
  have:=pg_CoreAt (hh:=hh') (id:=x)
  rwa [hk] at this
 refine calls_of_W Tryz.func54 rfl rfl ?_
 repeat (first | refine byW ?_ | (refine byV ?_;intro w hw))
 refine lBox ?_
 intro b2 w hw
 have hw:Wd Γ (.blk b2 (hwC H a1 n1 c1 a2 n2 c2 a3 n3 c3 a4 n4 c4 a5 n5 c5)::S) w:=hw
 repeat (first | refine byW ?_ | (refine byV ?_;intro w hw))
 refine W_quiet (by kernel_rfl) (by kernel_rfl) hw ?_
 repeat (first | refine Q_nil ?_ | (apply Q_plain;first | (apply Q_go;first | refine qP ?_ | refine qPg ?_) | refine qY ?_) | (apply Q_guarded;first | (apply Q_go;first | refine qPG ?_ | refine qPgG ?_) | refine qG ?_))
 intro w hw
 repeat (first | refine byW ?_ | (refine byV ?_;intro w hw))
 exact ⟨_,rfl,rfl,hw.drop⟩⟩
end Go.Proofs.YthgighljhoneeaaGreatDoor
end
section
open Go Mk
namespace Go.Proofs.YthgighljhoneeaaGreatDoor
set_option maxHeartbeats 8000000
attribute [local irreducible] Calls
end Go.Proofs.YthgighljhoneeaaGreatDoor
end
section
open Go Mk
namespace Go.Proofs.YthgighljhoneeaaGreatDoor
end Go.Proofs.YthgighljhoneeaaGreatDoor
end
section
open Go Mk
namespace Go.Proofs.YthgighljhoneeaaGreatDoor
set_option maxHeartbeats 16000000
attribute [local irreducible] Calls
end Go.Proofs.YthgighljhoneeaaGreatDoor
end
section
open Go Mk
namespace Go.Proofs.YthgighljhoneeaaGreatDoor
set_option maxHeartbeats 16000000
attribute [local irreducible] Calls
theorem intRows_app (a b:List Int):intRows (a++b)=intRows a++intRows b:=by unfold intRows;rw [List.map_append]
end Go.Proofs.YthgighljhoneeaaGreatDoor
end
section
open Go Mk
namespace Go.Proofs.YthgighljhoneeaaGreatDoor
set_option maxHeartbeats 16000000
attribute [local irreducible] Calls
class HwQ (Γ:Gho) (u:Value) (H:outParam HwT):Prop where
 h:∃ (a1:Option Addr) (n1 c1:Nat) (a2:Option Addr) (n2 c2:Nat) (a3:Option Addr) (n3 c3:Nat) (a4:Option Addr) (n4 c4:Nat) (a5:Option Addr) (n5 c5:Nat) (cs:List CacheH),
  u=.agg #[.string H.Name,.slice a1 n1 c1,.slice a2 n2 c2,.slice a3 n3 c3,.slice a4 n4 c4,.slice a5 n5 c5]∧cs.map CacheH.T=H.Caches∧(∀ c∈cs,COk Γ c) ∧
  RepS Γ (.slice a1 n1 c1) 4 (H.Cores.map enc)∧RepS Γ (.slice a2 n2 c2) 5 (cs.map cC)∧RepS Γ (.slice a3 n3 c3) 3 (H.Links.map enc)∧RepS Γ (.slice a4 n4 c4) 5 (H.Mems.map enc)∧RepS Γ (.slice a5 n5 c5) 5 (H.Devs.map enc)
instance hwq_r {Γ:Gho} {u:Value} {H:HwT} [hh:HwR Γ u H]:HwQ Γ u H:=by
 obtain ⟨a1,n1,c1,a2,n2,c2,a3,n3,c3,a4,n4,c4,a5,n5,c5,cs,h1,h2,h3, -,r⟩:=hh.h
 exact ⟨a1,n1,c1,a2,n2,c2,a3,n3,c3,a4,n4,c4,a5,n5,c5,cs,h1,h2,h3,r⟩
instance pg_SameInts {Γ:Gho} {v v2:Value} {xs ys:List Int} [hr:SlC Γ v 1 (intRows xs)] [hr2:SlC Γ v2 1 (intRows ys)]:PG Tryz.prog Γ 48 [v,v2] (.bool (decide (xs=ys))):=⟨fun S w hw=>by
 have hr:=hr.h
 have hr2:=hr2.h
 obtain ⟨a,n,c,rfl,hn,hnc,hc⟩:=hr.shape
 obtain ⟨a',n',c',rfl,hn',hnc',hc'⟩:=hr2.shape
 simp only [intRows,List.length_map] at hn hn'
 refine calls_of_W Tryz.func48 rfl rfl ?_
 repeat (first | refine byW ?_ | (refine byV ?_;intro w hw))
 refine W_cond rfl (fun h=>?_) (fun h=>?_)
 ·have h:n≠n':=by simp at h;omega
  repeat (first | refine byW ?_ | (refine byV ?_;intro w hw))
  exact ⟨_,rfl,ret_b rfl (decide_eq_false fun e=>h (by rw [hn,hn',e])).symm,hw⟩
 have h:n=n':=by simp at h;omega
 repeat (first | refine byW ?_ | (refine byV ?_;intro w hw))
 refine W_loop (fun μ ρ w=>∃ (k:Nat),μ+k=n∧Has ρ [(0,.slice a n c),(1,.slice a' n' c'),(5,.int .i64 k)]∧(∀ (i:Nat) (x y:Int),i < k→xs[i]? = some x→ys[i]? = some y→x=y)∧Wd Γ S w) n ⟨0,by omega,⟨rfl,rfl,rfl,trivial⟩,fun i x y hi=>absurd hi (Nat.not_lt_zero i),hw⟩ ?_
 clear hw
 rintro μ ρ w ⟨k,hk,hρ,hall,hw⟩
 rw [hρ.eq]
 repeat (first | refine byW ?_ | (refine byV ?_;intro w hw))
 refine W_cond rfl (fun h2=>?_) (fun h2=>?_)
 ·have hkn:k < n:=by simpa using h2
  obtain ⟨x,hx⟩:=get_lt (l:=xs) (k:=k) (by omega)
  obtain ⟨y,hy⟩:=get_lt (l:=ys) (k:=k) (by omega)
  repeat (first | refine byW ?_ | (refine byV ?_;intro w hw))
  refine W_quiet (by kernel_rfl) (by kernel_rfl) hw ?_
  repeat (first | refine Q_nil ?_ | (apply Q_plain;first | (apply Q_go;first | refine qP ?_ | refine qPg ?_) | refine qY ?_) | (apply Q_guarded;first | (apply Q_go;first | refine qPG ?_ | refine qPgG ?_) | refine qG ?_))
  intro w hw
  refine W_cond rfl (fun h3=>?_) (fun h3=>?_)
  ·have h3:x≠y:=of_decide_eq_true h3
   repeat (first | refine byW ?_ | (refine byV ?_;intro w hw))
   exact ⟨_,rfl,ret_b rfl (decide_eq_false fun e=>h3 (by subst e;rw [hx] at hy;cases hy;rfl)).symm,hw⟩
  ·have h3:x=y:=Classical.not_not.1 (of_decide_eq_false h3)
   repeat (first | refine byW ?_ | (refine byV ?_;intro w hw))
   exact ⟨μ - 1,by omega,k+1,by omega,⟨rfl,rfl,rfl,trivial⟩,eq_step hall hx hy h3,hw⟩
 ·have hkn:¬ k < n:=by simpa using h2
  repeat (first | refine byW ?_ | (refine byV ?_;intro w hw))
  exact ⟨_,rfl,ret_b rfl (decide_eq_true (eq_of_all (by omega) (by omega) hall)).symm,hw⟩⟩
theorem cacheT_eq {x y:CacheT} (a:x.Name=y.Name) (b:x.Level=y.Level) (c:x.Line=y.Line) (d:x.Size=y.Size) (e:x.Cores=y.Cores):x=y:=by
 cases x;cases y
 simp only [CacheT.mk.injEq]
 exact ⟨a,b,c,d,e⟩
instance pg_REqual {Γ:Gho} {u u':Value} {H G:HwT} [hh:HwQ Γ u H] [hg:HwQ Γ u' G]:PG Tryz.prog Γ 16 [u,u'] (.bool (decide (H=G))):=⟨fun S w hw=>by
 obtain ⟨a1,n1,c1,a2,n2,c2,a3,n3,c3,a4,n4,c4,a5,n5,c5,cs,rfl,hcs,hok,r1,r2,r3,r4,r5⟩:=hh.h
 obtain ⟨A1,N1,C1,A2,N2,C2,A3,N3,C3,A4,N4,C4,A5,N5,C5,cs',rfl,hcs',hok',R1,R2,R3,R4,R5⟩:=hg.h
 obtain ⟨hn1,hm1,hx1⟩:=rep_facts r1
 obtain ⟨HN1,HM1,HX1⟩:=rep_facts R1
 obtain ⟨hn2,hm2,hx2⟩:=rep_facts r2
 obtain ⟨HN2,HM2,HX2⟩:=rep_facts R2
 obtain ⟨hn3,hm3,hx3⟩:=rep_facts r3
 obtain ⟨HN3,HM3,HX3⟩:=rep_facts R3
 obtain ⟨hn4,hm4,hx4⟩:=rep_facts r4
 obtain ⟨HN4,HM4,HX4⟩:=rep_facts R4
 obtain ⟨hn5,hm5,hx5⟩:=rep_facts r5
 obtain ⟨HN5,HM5,HX5⟩:=rep_facts R5
 simp only [List.length_map] at hn1 hn2 hn3 hn4 hn5 HN1 HN2 HN3 HN4 HN5
 refine calls_of_W Tryz.func16 rfl rfl ?_
 repeat (first | refine byW ?_ | (refine byV ?_;intro w hw))
 refine lBox ?_
 intro b2 w hw
 refine lBox ?_
 intro b3 w hw
 have hw:Wd Γ (.blk b3 (.cells #[.string G.Name,.slice A1 N1 C1,.slice A2 N2 C2,.slice A3 N3 C3,.slice A4 N4 C4,.slice A5 N5 C5] 28)::.blk b2 (.cells #[.string H.Name,.slice a1 n1 c1,.slice a2 n2 c2,.slice a3 n3 c3,.slice a4 n4 c4,.slice a5 n5 c5] 28)::S) w:=hw
 repeat (first | refine byW ?_ | (refine byV ?_;intro w hw))
 refine W_cond rfl (fun h=>?_) (fun h=>?_)
 ·have hne:¬ H=G:=fun e=>by
   subst e
   have q:(((((decide (H.Name≠H.Name) || decide ((n1:Int)≠N1)) || decide ((n2:Int)≠N2)) || decide ((n3:Int)≠N3)) || decide ((n4:Int)≠N4)) || decide ((n5:Int)≠N5))=true:=h
   have q2:cs.length=cs'.length:=by have:=congrArg List.length (hcs.trans hcs'.symm);simpa using this
   simp only [Bool.or_eq_true,decide_eq_true_eq] at q
   rcases q with ((((q | q) | q) | q) | q) | q
   ·exact q rfl
   all_goals exact q (by omega)
  repeat (first | refine byW ?_ | (refine byV ?_;intro w hw))
  exact ⟨_,rfl,ret_b rfl (decide_eq_false hne).symm,hw.drop.drop⟩
 have hq:(((((decide (H.Name≠G.Name) || decide ((n1:Int)≠N1)) || decide ((n2:Int)≠N2)) || decide ((n3:Int)≠N3)) || decide ((n4:Int)≠N4)) || decide ((n5:Int)≠N5))=false:=h
 simp only [Bool.or_eq_false_iff,decide_eq_false_iff_not,Classical.not_not] at hq
 obtain ⟨⟨⟨⟨⟨q0,q1⟩,q2⟩,q3⟩,q4⟩,q5⟩:=hq
 clear h
 repeat (first | refine byW ?_ | (refine byV ?_;intro w hw))
 refine W_cutB (fun ρ w=>H.Cores=G.Cores∧Has ρ [(2,.pointer (some ⟨b2,0,none⟩)),(3,.pointer (some ⟨b3,0,none⟩))]∧Wd Γ (.blk b3 (.cells #[.string G.Name,.slice A1 N1 C1,.slice A2 N2 C2,.slice A3 N3 C3,.slice A4 N4 C4,.slice A5 N5 C5] 28)::.blk b2 (.cells #[.string H.Name,.slice a1 n1 c1,.slice a2 n2 c2,.slice a3 n3 c3,.slice a4 n4 c4,.slice a5 n5 c5] 28)::S) w) ?_ ?_
 ·refine W_loop (fun μ ρ w=>∃ (k:Nat),μ+k=n1∧Has ρ [(2,.pointer (some ⟨b2,0,none⟩)),(3,.pointer (some ⟨b3,0,none⟩)),(5,.int .i64 k)]∧(∀ (i:Nat) (x y:CoreT),i < k→H.Cores[i]? = some x→G.Cores[i]? = some y→x=y)∧Wd Γ (.blk b3 (.cells #[.string G.Name,.slice A1 N1 C1,.slice A2 N2 C2,.slice A3 N3 C3,.slice A4 N4 C4,.slice A5 N5 C5] 28)::.blk b2 (.cells #[.string H.Name,.slice a1 n1 c1,.slice a2 n2 c2,.slice a3 n3 c3,.slice a4 n4 c4,.slice a5 n5 c5] 28)::S) w) n1 ⟨0,by omega,⟨rfl,rfl,rfl,trivial⟩,fun i x y hi=>absurd hi (Nat.not_lt_zero i),hw⟩ ?_
  clear hw
  rintro μ ρ w ⟨k,hk,hρ,hall,hw⟩
  rw [hρ.eq]
  repeat (first | refine byW ?_ | (refine byV ?_;intro w hw))
  refine W_cond rfl (fun h2=>?_) (fun h2=>?_)
  ·have hkn:k < n1:=by simpa using h2
   obtain ⟨x,hx⟩:=get_lt (l:=H.Cores) (k:=k) (by omega)
   obtain ⟨y,hy⟩:=get_lt (l:=G.Cores) (k:=k) (by omega)
   repeat (first | refine byW ?_ | (refine byV ?_;intro w hw))
   refine W_quiet (by kernel_rfl) (by kernel_rfl) hw ?_
   repeat (first | refine Q_nil ?_ | (apply Q_plain;first | (apply Q_go;first | refine qP ?_ | refine qPg ?_) | refine qY ?_) | (apply Q_guarded;first | (apply Q_go;first | refine qPG ?_ | refine qPgG ?_) | refine qG ?_))
   intro w hw
   refine W_cond rfl (fun h3=>?_) (fun h3=>?_)
   ·have h3:x≠y:=of_decide_eq_true h3
    repeat (first | refine byW ?_ | (refine byV ?_;intro w hw))
    exact ⟨_,rfl,ret_b rfl (decide_eq_false fun e=>h3 (by subst e;rw [hx] at hy;cases hy;rfl)).symm,hw.drop.drop⟩
   ·have h3:x=y:=Classical.not_not.1 (of_decide_eq_false h3)
    repeat (first | refine byW ?_ | (refine byV ?_;intro w hw))
    exact ⟨μ - 1,by omega,k+1,by omega,⟨rfl,rfl,rfl,trivial⟩,eq_step hall hx hy h3,hw⟩
  ·have hkn:¬ k < n1:=by simpa using h2
   repeat (first | refine byW ?_ | (refine byV ?_;intro w hw))
   exact ⟨eq_of_all (by omega) (by omega) hall,⟨rfl,rfl,trivial⟩,hw⟩
 clear hw
 rintro ρ w ⟨e1,hρ,hw⟩
 rw [hρ.eq]
 clear hρ
 repeat (first | refine byW ?_ | (refine byV ?_;intro w hw))
 refine W_cutB (fun ρ w=>H.Caches=G.Caches∧Has ρ [(2,.pointer (some ⟨b2,0,none⟩)),(3,.pointer (some ⟨b3,0,none⟩))]∧Wd Γ (.blk b3 (.cells #[.string G.Name,.slice A1 N1 C1,.slice A2 N2 C2,.slice A3 N3 C3,.slice A4 N4 C4,.slice A5 N5 C5] 28)::.blk b2 (.cells #[.string H.Name,.slice a1 n1 c1,.slice a2 n2 c2,.slice a3 n3 c3,.slice a4 n4 c4,.slice a5 n5 c5] 28)::S) w) ?_ ?_
 ·refine W_loop (fun μ ρ w=>∃ (k:Nat),μ+k=n2∧Has ρ [(2,.pointer (some ⟨b2,0,none⟩)),(3,.pointer (some ⟨b3,0,none⟩)),(6,.int .i64 k)]∧(∀ (i:Nat) (x y:CacheT),i < k→(cs.map CacheH.T)[i]? = some x→(cs'.map CacheH.T)[i]? = some y→x=y)∧Wd Γ (.blk b3 (.cells #[.string G.Name,.slice A1 N1 C1,.slice A2 N2 C2,.slice A3 N3 C3,.slice A4 N4 C4,.slice A5 N5 C5] 28)::.blk b2 (.cells #[.string H.Name,.slice a1 n1 c1,.slice a2 n2 c2,.slice a3 n3 c3,.slice a4 n4 c4,.slice a5 n5 c5] 28)::S) w) n2 ⟨0,by omega,⟨rfl,rfl,rfl,trivial⟩,fun i x y hi=>absurd hi (Nat.not_lt_zero i),hw⟩ ?_
  clear hw
  rintro μ ρ w ⟨k,hk,hρ,hall,hw⟩
  rw [hρ.eq]
  repeat (first | refine byW ?_ | (refine byV ?_;intro w hw))
  refine W_cond rfl (fun h2=>?_) (fun h2=>?_)
  ·have hkn:k < n2:=by simpa using h2
   obtain ⟨x,hx⟩:=get_lt (l:=cs) (k:=k) (by omega)
   obtain ⟨y,hy⟩:=get_lt (l:=cs') (k:=k) (by omega)
   have hx2:(cs.map CacheH.T)[k]? = some x.T:=by simp [hx]
   have hy2:(cs'.map CacheH.T)[k]? = some y.T:=by simp [hy]
   haveI:SlC Γ (.slice x.A x.N x.C) 1 (intRows x.Cores):=⟨hok x (List.mem_of_getElem? hx)⟩
   haveI:SlC Γ (.slice y.A y.N y.C) 1 (intRows y.Cores):=⟨hok' y (List.mem_of_getElem? hy)⟩
   repeat (first | refine byW ?_ | (refine byV ?_;intro w hw))
   refine W_mixed [.blk b3 (.cells #[.string G.Name,.slice A1 N1 C1,.slice A2 N2 C2,.slice A3 N3 C3,.slice A4 N4 C4,.slice A5 N5 C5] 28),.blk b2 (.cells #[.string H.Name,.slice a1 n1 c1,.slice a2 n2 c2,.slice a3 n3 c3,.slice a4 n4 c4,.slice a5 n5 c5] 28)] [fun _=>[],fun _=>[],fun _=>S] [[],[],[],[],[],[],[],[],[],[],[0],[1],[0],[1]] [[],[],[],[],[],[],[],[],[],[],[0],[1],[0],[1]] [[7],[8],[]] (by have:=hw;simpa [List.range,List.range.loop,ML] using this) ?_
   repeat (first | refine mY ?_ | refine mP ?_ | refine mPg ?_)
   refine mAlloc ?_
   refine mAlloc ?_
   refine mStoreAt ?_
   refine mStoreAt ?_
   refine mEnd fun w g hw=>?_
   have hw:Wd Γ (.blk b3 (.cells #[.string G.Name,.slice A1 N1 C1,.slice A2 N2 C2,.slice A3 N3 C3,.slice A4 N4 C4,.slice A5 N5 C5] 28)::.blk b2 (.cells #[.string H.Name,.slice a1 n1 c1,.slice a2 n2 c2,.slice a3 n3 c3,.slice a4 n4 c4,.slice a5 n5 c5] 28)::atP (g 7) _::atP (g 8) _::(S++[])) w:=hw
   rw [List.append_nil] at hw
   obtain ⟨b7,hg7,hw⟩:=(Wd.ps [2] hw).openAt
   have hw:Wd Γ (.blk b7 (.cells (cC x).toArray 59)::.blk b3 (.cells #[.string G.Name,.slice A1 N1 C1,.slice A2 N2 C2,.slice A3 N3 C3,.slice A4 N4 C4,.slice A5 N5 C5] 28)::.blk b2 (.cells #[.string H.Name,.slice a1 n1 c1,.slice a2 n2 c2,.slice a3 n3 c3,.slice a4 n4 c4,.slice a5 n5 c5] 28)::atP (g 8) _::S) w:=hw
   obtain ⟨b8,hg8,hw⟩:=(Wd.ps [3] hw).openAt
   have hw:Wd Γ (.blk b8 (.cells (cC y).toArray 59)::.blk b7 (.cells (cC x).toArray 59)::.blk b3 (.cells #[.string G.Name,.slice A1 N1 C1,.slice A2 N2 C2,.slice A3 N3 C3,.slice A4 N4 C4,.slice A5 N5 C5] 28)::.blk b2 (.cells #[.string H.Name,.slice a1 n1 c1,.slice a2 n2 c2,.slice a3 n3 c3,.slice a4 n4 c4,.slice a5 n5 c5] 28)::S) w:=hw
   refine W_has (l:=[(2,.pointer (some ⟨b2,0,none⟩)),(3,.pointer (some ⟨b3,0,none⟩)),(6,.int .i64 k),(7,.pointer (some ⟨b7,0,none⟩)),(8,.pointer (some ⟨b8,0,none⟩))]) ⟨rfl,rfl,rfl,hg7,hg8,trivial⟩ fun ρ' hρ'=>?_
   clear hg7 hg8
   rw [hρ'.eq]
   clear hρ'
   repeat (first | refine byW ?_ | (refine byV ?_;intro w hw))
   refine W_cond rfl (fun h3=>?_) (fun h3=>?_)
   ·have h3:x.T≠y.T:=fun e=>by
     have q:((((decide (x.T.Name≠y.T.Name) || decide (x.T.Level≠y.T.Level)) || decide (x.T.Line≠y.T.Line)) || decide (x.T.Size≠y.T.Size)) || !decide (x.T.Cores=y.T.Cores))=true:=h3
     rw [e] at q
     simp at q
    repeat (first | refine byW ?_ | (refine byV ?_;intro w hw))
    exact ⟨_,rfl,ret_b rfl (decide_eq_false fun e=>h3 (by have e2:=congrArg HwT.Caches e;rw [← hcs,← hcs'] at e2;rw [e2,hy2] at hx2;exact (Option.some.inj hx2).symm)).symm,hw.drop.drop.drop.drop⟩
   ·have h3:x.T=y.T:=by
     have q:((((decide (x.T.Name≠y.T.Name) || decide (x.T.Level≠y.T.Level)) || decide (x.T.Line≠y.T.Line)) || decide (x.T.Size≠y.T.Size)) || !decide (x.T.Cores=y.T.Cores))=false:=h3
     simp only [Bool.or_eq_false_iff,decide_eq_false_iff_not,Classical.not_not,Bool.not_eq_false',decide_eq_true_eq] at q
     obtain ⟨⟨⟨⟨a,b⟩,c⟩,d⟩,e⟩:=q
     exact cacheT_eq a b c d e
    repeat (first | refine byW ?_ | (refine byV ?_;intro w hw))
    exact ⟨μ - 1,by omega,k+1,by omega,⟨rfl,rfl,rfl,trivial⟩,eq_step hall hx2 hy2 h3,hw.drop.drop⟩
  ·have hkn:¬ k < n2:=by simpa using h2
   repeat (first | refine byW ?_ | (refine byV ?_;intro w hw))
   refine ⟨?_,⟨rfl,rfl,trivial⟩,hw⟩
   rw [← hcs,← hcs']
   exact eq_of_all (by simp;omega) (by simp;omega) hall
 clear hw
 rintro ρ w ⟨e2,hρ,hw⟩
 rw [hρ.eq]
 clear hρ
 repeat (first | refine byW ?_ | (refine byV ?_;intro w hw))
 refine W_cutB (fun ρ w=>H.Links=G.Links∧Has ρ [(2,.pointer (some ⟨b2,0,none⟩)),(3,.pointer (some ⟨b3,0,none⟩))]∧Wd Γ (.blk b3 (.cells #[.string G.Name,.slice A1 N1 C1,.slice A2 N2 C2,.slice A3 N3 C3,.slice A4 N4 C4,.slice A5 N5 C5] 28)::.blk b2 (.cells #[.string H.Name,.slice a1 n1 c1,.slice a2 n2 c2,.slice a3 n3 c3,.slice a4 n4 c4,.slice a5 n5 c5] 28)::S) w) ?_ ?_
 ·refine W_loop (fun μ ρ w=>∃ (k:Nat),μ+k=n3∧Has ρ [(2,.pointer (some ⟨b2,0,none⟩)),(3,.pointer (some ⟨b3,0,none⟩)),(9,.int .i64 k)]∧(∀ (i:Nat) (x y:LinkT),i < k→H.Links[i]? = some x→G.Links[i]? = some y→x=y)∧Wd Γ (.blk b3 (.cells #[.string G.Name,.slice A1 N1 C1,.slice A2 N2 C2,.slice A3 N3 C3,.slice A4 N4 C4,.slice A5 N5 C5] 28)::.blk b2 (.cells #[.string H.Name,.slice a1 n1 c1,.slice a2 n2 c2,.slice a3 n3 c3,.slice a4 n4 c4,.slice a5 n5 c5] 28)::S) w) n3 ⟨0,by omega,⟨rfl,rfl,rfl,trivial⟩,fun i x y hi=>absurd hi (Nat.not_lt_zero i),hw⟩ ?_
  clear hw
  rintro μ ρ w ⟨k,hk,hρ,hall,hw⟩
  rw [hρ.eq]
  repeat (first | refine byW ?_ | (refine byV ?_;intro w hw))
  refine W_cond rfl (fun h2=>?_) (fun h2=>?_)
  ·have hkn:k < n3:=by simpa using h2
   obtain ⟨x,hx⟩:=get_lt (l:=H.Links) (k:=k) (by omega)
   obtain ⟨y,hy⟩:=get_lt (l:=G.Links) (k:=k) (by omega)
   repeat (first | refine byW ?_ | (refine byV ?_;intro w hw))
   refine W_quiet (by kernel_rfl) (by kernel_rfl) hw ?_
   repeat (first | refine Q_nil ?_ | (apply Q_plain;first | (apply Q_go;first | refine qP ?_ | refine qPg ?_) | refine qY ?_) | (apply Q_guarded;first | (apply Q_go;first | refine qPG ?_ | refine qPgG ?_) | refine qG ?_))
   intro w hw
   refine W_cond rfl (fun h3=>?_) (fun h3=>?_)
   ·have h3:x≠y:=of_decide_eq_true h3
    repeat (first | refine byW ?_ | (refine byV ?_;intro w hw))
    exact ⟨_,rfl,ret_b rfl (decide_eq_false fun e=>h3 (by subst e;rw [hx] at hy;cases hy;rfl)).symm,hw.drop.drop⟩
   ·have h3:x=y:=Classical.not_not.1 (of_decide_eq_false h3)
    repeat (first | refine byW ?_ | (refine byV ?_;intro w hw))
    exact ⟨μ - 1,by omega,k+1,by omega,⟨rfl,rfl,rfl,trivial⟩,eq_step hall hx hy h3,hw⟩
  ·have hkn:¬ k < n3:=by simpa using h2
   repeat (first | refine byW ?_ | (refine byV ?_;intro w hw))
   exact ⟨eq_of_all (by omega) (by omega) hall,⟨rfl,rfl,trivial⟩,hw⟩
 clear hw
 rintro ρ w ⟨e3,hρ,hw⟩
 rw [hρ.eq]
 clear hρ
 repeat (first | refine byW ?_ | (refine byV ?_;intro w hw))
 refine W_cutB (fun ρ w=>H.Mems=G.Mems∧Has ρ [(2,.pointer (some ⟨b2,0,none⟩)),(3,.pointer (some ⟨b3,0,none⟩))]∧Wd Γ (.blk b3 (.cells #[.string G.Name,.slice A1 N1 C1,.slice A2 N2 C2,.slice A3 N3 C3,.slice A4 N4 C4,.slice A5 N5 C5] 28)::.blk b2 (.cells #[.string H.Name,.slice a1 n1 c1,.slice a2 n2 c2,.slice a3 n3 c3,.slice a4 n4 c4,.slice a5 n5 c5] 28)::S) w) ?_ ?_
 ·refine W_loop (fun μ ρ w=>∃ (k:Nat),μ+k=n4∧Has ρ [(2,.pointer (some ⟨b2,0,none⟩)),(3,.pointer (some ⟨b3,0,none⟩)),(10,.int .i64 k)]∧(∀ (i:Nat) (x y:MemT),i < k→H.Mems[i]? = some x→G.Mems[i]? = some y→x=y)∧Wd Γ (.blk b3 (.cells #[.string G.Name,.slice A1 N1 C1,.slice A2 N2 C2,.slice A3 N3 C3,.slice A4 N4 C4,.slice A5 N5 C5] 28)::.blk b2 (.cells #[.string H.Name,.slice a1 n1 c1,.slice a2 n2 c2,.slice a3 n3 c3,.slice a4 n4 c4,.slice a5 n5 c5] 28)::S) w) n4 ⟨0,by omega,⟨rfl,rfl,rfl,trivial⟩,fun i x y hi=>absurd hi (Nat.not_lt_zero i),hw⟩ ?_
  clear hw
  rintro μ ρ w ⟨k,hk,hρ,hall,hw⟩
  rw [hρ.eq]
  repeat (first | refine byW ?_ | (refine byV ?_;intro w hw))
  refine W_cond rfl (fun h2=>?_) (fun h2=>?_)
  ·have hkn:k < n4:=by simpa using h2
   obtain ⟨x,hx⟩:=get_lt (l:=H.Mems) (k:=k) (by omega)
   obtain ⟨y,hy⟩:=get_lt (l:=G.Mems) (k:=k) (by omega)
   repeat (first | refine byW ?_ | (refine byV ?_;intro w hw))
   refine W_quiet (by kernel_rfl) (by kernel_rfl) hw ?_
   repeat (first | refine Q_nil ?_ | (apply Q_plain;first | (apply Q_go;first | refine qP ?_ | refine qPg ?_) | refine qY ?_) | (apply Q_guarded;first | (apply Q_go;first | refine qPG ?_ | refine qPgG ?_) | refine qG ?_))
   intro w hw
   refine W_cond rfl (fun h3=>?_) (fun h3=>?_)
   ·have h3:x≠y:=of_decide_eq_true h3
    repeat (first | refine byW ?_ | (refine byV ?_;intro w hw))
    exact ⟨_,rfl,ret_b rfl (decide_eq_false fun e=>h3 (by subst e;rw [hx] at hy;cases hy;rfl)).symm,hw.drop.drop⟩
   ·have h3:x=y:=Classical.not_not.1 (of_decide_eq_false h3)
    repeat (first | refine byW ?_ | (refine byV ?_;intro w hw))
    exact ⟨μ - 1,by omega,k+1,by omega,⟨rfl,rfl,rfl,trivial⟩,eq_step hall hx hy h3,hw⟩
  ·have hkn:¬ k < n4:=by simpa using h2
   repeat (first | refine byW ?_ | (refine byV ?_;intro w hw))
   exact ⟨eq_of_all (by omega) (by omega) hall,⟨rfl,rfl,trivial⟩,hw⟩
 clear hw
 rintro ρ w ⟨e4,hρ,hw⟩
 rw [hρ.eq]
 clear hρ
 repeat (first | refine byW ?_ | (refine byV ?_;intro w hw))
 refine W_cutB (fun ρ w=>H.Devs=G.Devs∧Has ρ [(2,.pointer (some ⟨b2,0,none⟩)),(3,.pointer (some ⟨b3,0,none⟩))]∧Wd Γ (.blk b3 (.cells #[.string G.Name,.slice A1 N1 C1,.slice A2 N2 C2,.slice A3 N3 C3,.slice A4 N4 C4,.slice A5 N5 C5] 28)::.blk b2 (.cells #[.string H.Name,.slice a1 n1 c1,.slice a2 n2 c2,.slice a3 n3 c3,.slice a4 n4 c4,.slice a5 n5 c5] 28)::S) w) ?_ ?_
 ·refine W_loop (fun μ ρ w=>∃ (k:Nat),μ+k=n5∧Has ρ [(2,.pointer (some ⟨b2,0,none⟩)),(3,.pointer (some ⟨b3,0,none⟩)),(11,.int .i64 k)]∧(∀ (i:Nat) (x y:DevT),i < k→H.Devs[i]? = some x→G.Devs[i]? = some y→x=y)∧Wd Γ (.blk b3 (.cells #[.string G.Name,.slice A1 N1 C1,.slice A2 N2 C2,.slice A3 N3 C3,.slice A4 N4 C4,.slice A5 N5 C5] 28)::.blk b2 (.cells #[.string H.Name,.slice a1 n1 c1,.slice a2 n2 c2,.slice a3 n3 c3,.slice a4 n4 c4,.slice a5 n5 c5] 28)::S) w) n5 ⟨0,by omega,⟨rfl,rfl,rfl,trivial⟩,fun i x y hi=>absurd hi (Nat.not_lt_zero i),hw⟩ ?_
  clear hw
  rintro μ ρ w ⟨k,hk,hρ,hall,hw⟩
  rw [hρ.eq]
  repeat (first | refine byW ?_ | (refine byV ?_;intro w hw))
  refine W_cond rfl (fun h2=>?_) (fun h2=>?_)
  ·have hkn:k < n5:=by simpa using h2
   obtain ⟨x,hx⟩:=get_lt (l:=H.Devs) (k:=k) (by omega)
   obtain ⟨y,hy⟩:=get_lt (l:=G.Devs) (k:=k) (by omega)
   repeat (first | refine byW ?_ | (refine byV ?_;intro w hw))
   refine W_quiet (by kernel_rfl) (by kernel_rfl) hw ?_
   repeat (first | refine Q_nil ?_ | (apply Q_plain;first | (apply Q_go;first | refine qP ?_ | refine qPg ?_) | refine qY ?_) | (apply Q_guarded;first | (apply Q_go;first | refine qPG ?_ | refine qPgG ?_) | refine qG ?_))
   intro w hw
   refine W_cond rfl (fun h3=>?_) (fun h3=>?_)
   ·have h3:x≠y:=of_decide_eq_true h3
    repeat (first | refine byW ?_ | (refine byV ?_;intro w hw))
    exact ⟨_,rfl,ret_b rfl (decide_eq_false fun e=>h3 (by subst e;rw [hx] at hy;cases hy;rfl)).symm,hw.drop.drop⟩
   ·have h3:x=y:=Classical.not_not.1 (of_decide_eq_false h3)
    repeat (first | refine byW ?_ | (refine byV ?_;intro w hw))
    exact ⟨μ - 1,by omega,k+1,by omega,⟨rfl,rfl,rfl,trivial⟩,eq_step hall hx hy h3,hw⟩
  ·have hkn:¬ k < n5:=by simpa using h2
   repeat (first | refine byW ?_ | (refine byV ?_;intro w hw))
   exact ⟨eq_of_all (by omega) (by omega) hall,⟨rfl,rfl,trivial⟩,hw⟩
 clear hw
 rintro ρ w ⟨e5,hρ,hw⟩
 rw [hρ.eq]
 clear hρ
 repeat (first | refine byW ?_ | (refine byV ?_;intro w hw))
 refine ⟨_,rfl,ret_b rfl (decide_eq_true ?_).symm,hw.drop.drop⟩
 cases H;cases G
 simp only [HwT.mk.injEq]
 exact ⟨q0,e1,e2,e3,e4,e5⟩⟩
end Go.Proofs.YthgighljhoneeaaGreatDoor
end
section
open Go Mk
namespace Go.Proofs.YthgighljhoneeaaGreatDoor
set_option maxHeartbeats 16000000
attribute [local irreducible] Calls
end Go.Proofs.YthgighljhoneeaaGreatDoor
end
section
open Go Mk
namespace Go.Proofs.YthgighljhoneeaaGreatDoor
set_option maxHeartbeats 4000000
attribute [local irreducible] Calls
section
variable {H:HwT} {nodes sh first irq:Int}
end
end Go.Proofs.YthgighljhoneeaaGreatDoor
end
section
open Go Mk
namespace Go.Proofs.YthgighljhoneeaaGreatDoor
theorem lats_ok {ls:List LinkT} (h:LinksOk ls):∀ l∈ls,0≤l.Latency∧l.Latency≤1000000:=fun l hl=>by
 have:=h.2 l hl;omega
theorem valid_keys {H:HwT} (h:validS H=0):(H.Links.map linkKey).Nodup:=by
 obtain ⟨-, -, -, -,h5, -⟩:=valid_all h
 unfold uniqueB at h5
 simp only [Bool.and_eq_true,decide_eq_true_eq] at h5
 exact h5.2.2
end Go.Proofs.YthgighljhoneeaaGreatDoor
end
section
open Go Mk
namespace Go.Proofs.YthgighljhoneeaaGreatDoor
set_option maxHeartbeats 16000000
attribute [local irreducible] Calls
end Go.Proofs.YthgighljhoneeaaGreatDoor
end
section
open Go Mk
namespace Go.Proofs.YthgighljhoneeaaGreatDoor
set_option maxHeartbeats 16000000
attribute [local irreducible] Calls
end Go.Proofs.YthgighljhoneeaaGreatDoor
end
section
open Go Mk
namespace Go.Proofs.YthgighljhoneeaaGreatDoor
set_option maxHeartbeats 16000000
attribute [local irreducible] Calls
end Go.Proofs.YthgighljhoneeaaGreatDoor
end
section
open Go Mk
namespace Go.Proofs.YthgighljhoneeaaGreatDoor
set_option maxHeartbeats 16000000
attribute [local irreducible] Calls
end Go.Proofs.YthgighljhoneeaaGreatDoor
end
section
open Go Mk
namespace Go.Proofs.YthgighljhoneeaaGreatDoor
set_option maxHeartbeats 16000000
attribute [local irreducible] Calls
section
variable {H:HwT} {r:Int} {ms:List Int} {cost:Int}
end
end Go.Proofs.YthgighljhoneeaaGreatDoor
end
section
open Go Mk
namespace Go.Proofs.YthgighljhoneeaaGreatDoor
set_option maxHeartbeats 16000000
attribute [local irreducible] Calls
def matL (D:Mx):List Value:=(List.range 4096).map fun n=>.int .i64 (D ((n / 64:Nat):Int) ((n % 64:Nat):Int))
theorem matL_len (D:Mx):(matL D).length=4096:=by simp [matL]
theorem matL_one (D:Mx):∀ v∈matL D,v.oneCell'=true:=by simp [matL,Value.oneCell']
theorem matL_get (D:Mx) {n:Nat} (h:n < 4096):(matL D)[n]? = some (.int .i64 (D ((n / 64:Nat):Int) ((n % 64:Nat):Int))):=by
 unfold matL
 rw [List.getElem?_map,List.getElem?_range h];rfl
theorem matL_at (D:Mx) {a b:Int} (ha:nIn a) (hb:nIn b):(matL D)[a.toNat * 64+b.toNat]? = some (.int .i64 (D a b)):=by
 unfold nIn at ha hb
 rw [matL_get D (by omega)]
 rw [show (((a.toNat * 64+b.toNat) / 64:Nat):Int)=a by omega,show (((a.toNat * 64+b.toNat) % 64:Nat):Int)=b by omega]
theorem matL_set (D:Mx) {a b v:Int} (ha:nIn a) (hb:nIn b):(matL D).set (a.toNat * 64+b.toNat) (.int .i64 v)=matL (updM D a b v):=by
 unfold nIn at ha hb
 refine List.ext_getElem? fun n=>?_
 rw [List.getElem?_set]
 by_cases h:n < 4096
 ·rw [matL_get _ h,matL_get _ h]
  unfold updM
  by_cases e:a.toNat * 64+b.toNat=n
  ·rw [if_pos e,if_pos (by rw [matL_len];omega),if_pos (by omega)]
  ·rw [if_neg e,if_neg (by omega)]
 ·rw [List.getElem?_eq_none (by rw [matL_len];omega),List.getElem?_eq_none (by rw [matL_len];omega)]
  split
  ·rw [if_neg (by rw [matL_len];omega)]
  ·rfl
theorem getM (D:Mx) {a b:Int} (ha:nIn a) (hb:nIn b):(matL D).toArray[0+a.toNat * 64+b.toNat * 1]? = some (.int .i64 (D a b)):=by
 rw [show 0+a.toNat * 64+b.toNat * 1=a.toNat * 64+b.toNat by omega]
 simpa using matL_at D ha hb
theorem putM (D:Mx) {a b v:Int} (ha:nIn a) (hb:nIn b):putCells (matL D).toArray (0+a.toNat * 64+b.toNat * 1) [.int .i64 v]=(matL (updM D a b v)).toArray:=by
 rw [← matL_set D ha hb]
 unfold putCells
 have hl:a.toNat * 64+b.toNat < (matL D).length:=by rw [matL_len];unfold nIn at ha hb;omega
 rw [show 0+a.toNat * 64+b.toNat * 1=a.toNat * 64+b.toNat by omega,List.set_eq_take_append_cons_drop,if_pos hl]
 simp
theorem matL_congr {D D':Mx} (h:∀ a b,nIn a→nIn b→D a b=D' a b):matL D=matL D':=by
 unfold matL
 refine List.map_congr_left fun n hn=>?_
 have:n < 4096:=by simpa using hn
 rw [h _ _ (by unfold nIn;omega) (by unfold nIn;omega)]
theorem matL_zero:List.replicate 4096 (.int .i64 0)=matL fun _ _=>0:=by
 refine List.ext_getElem? fun n=>?_
 rw [List.getElem?_replicate]
 by_cases h:n < 4096
 ·rw [matL_get _ h,if_pos h]
 ·rw [List.getElem?_eq_none (by rw [matL_len];omega),if_neg h]
set_option maxRecDepth 100000 in
instance tz_mat:TZ Tryz.prog 80 (List.replicate 4096 (.int .i64 0)):=⟨by kernel_rfl⟩
end Go.Proofs.YthgighljhoneeaaGreatDoor
end
section
open Go Mk
namespace Go.Proofs.YthgighljhoneeaaGreatDoor
set_option maxHeartbeats 32000000
attribute [local irreducible] Calls
attribute [local irreducible] matL
instance pg_coreOf {Γ:Gho} {u:Value} {H:HwT} [hh:HwR Γ u H] (id:Int):PG Tryz.prog Γ 25 [u,.int .i64 id] (.tuple #[.agg (enc (findC H.Cores id).1).toArray,.bool (findC H.Cores id).2]):=⟨fun S w hw=>by
 obtain ⟨a1,n1,c1,a2,n2,c2,a3,n3,c3,a4,n4,c4,a5,n5,c5,cs,rfl,hcs,hok,hsz,r1,r2,r3,r4,r5⟩:=hh.h
 obtain ⟨hn1,hm1,hx1⟩:=rep_facts r1
 simp only [List.length_map] at hn1
 refine calls_of_WC Tryz.func25 rfl rfl ?_
 repeat (first | refine byW ?_ | (refine byV ?_;intro w hw))
 refine lBox ?_
 intro b1 w hw
 refine lAlloc ?_
 intro b4 w hw
 have hw:Wd Γ (.blk b4 (.cells (enc (⟨0,0,0,0⟩:CoreT)).toArray 54)::.blk b1 (hwC H a1 n1 c1 a2 n2 c2 a3 n3 c3 a4 n4 c4 a5 n5 c5)::S) w:=hw
 repeat (first | refine byW ?_ | (refine byV ?_;intro w hw))
 refine W_loop (fun μ ρ w=>∃ (k:Nat),μ+k=n1∧Has ρ [(1,.int .i64 id),(2,.pointer (some ⟨b1,0,none⟩)),(4,.pointer (some ⟨b4,0,none⟩)),(9,.slice a1 n1 c1),(10,.int .i64 n1),(11,.int .i64 k)]∧(∀ j x,j < k→H.Cores[j]? = some x→x.ID≠id)∧Wd Γ (.blk b4 (.cells (enc (⟨0,0,0,0⟩:CoreT)).toArray 54)::.blk b1 (hwC H a1 n1 c1 a2 n2 c2 a3 n3 c3 a4 n4 c4 a5 n5 c5)::S) w) n1 ⟨0,by omega,⟨rfl,rfl,rfl,rfl,rfl,rfl,trivial⟩,fun j x hj=>by omega,hw⟩ ?_
 clear hw
 rintro μ ρ w ⟨k,hk,hρ,hno,hw⟩
 rw [hρ.eq]
 clear hρ
 repeat (first | refine byW ?_ | (refine byV ?_;intro w hw))
 refine W_cond rfl (fun h=>?_) (fun h=>?_)
 ·have hkn:k < n1:=by have:=of_decide_eq_true h;omega
  clear h
  obtain ⟨x,hx⟩:=get_lt (l:=H.Cores) (k:=k) (by omega)
  repeat (first | refine byW ?_ | (refine byV ?_;intro w hw))
  refine lAlloc ?_
  intro b7 w hw
  refine lStore ?_
  intro w hw
  have hw:Wd Γ (.blk b7 (.cells (enc x).toArray 54)::.blk b4 (.cells (enc (⟨0,0,0,0⟩:CoreT)).toArray 54)::.blk b1 (hwC H a1 n1 c1 a2 n2 c2 a3 n3 c3 a4 n4 c4 a5 n5 c5)::S) w:=hw
  repeat (first | refine byW ?_ | (refine byV ?_;intro w hw))
  refine W_cond rfl (fun h=>?_) (fun h=>?_)
  ·have h:x.ID=id:=of_decide_eq_true h
   repeat (first | refine byW ?_ | (refine byV ?_;intro w hw))
   refine lStore ?_
   intro w hw
   have hw:Wd Γ (.blk b7 (.cells (enc x).toArray 54)::.blk b4 (.cells (enc x).toArray 54)::.blk b1 (hwC H a1 n1 c1 a2 n2 c2 a3 n3 c3 a4 n4 c4 a5 n5 c5)::S) w:=hw
   repeat (first | refine byW ?_ | (refine byV ?_;intro w hw))
   exact ⟨[_,_],⟨resC (i:=1) hw rfl rfl rfl,rfl,trivial⟩,by rw [(coreIx_some hx h hno).2];rfl,hw.ds [0,0,0]⟩
  ·have h:¬ x.ID=id:=of_decide_eq_false h
   repeat (first | refine byW ?_ | (refine byV ?_;intro w hw))
   refine ⟨μ - 1,by omega,k+1,by omega,⟨rfl,rfl,rfl,rfl,rfl,rfl,trivial⟩,fun j y hj hy=>?_,hw.drop⟩
   by_cases e:j=k
   ·subst e;rw [hx] at hy;cases hy;exact h
   ·exact hno j y (by omega) hy
 ·have hkn:¬ k < n1:=by have:=of_decide_eq_false h;omega
  have hno2:=(coreIx_none (l:=H.Cores) (id:=id) (fun y hy=>by
   obtain ⟨j,hj⟩:=List.mem_iff_getElem?.1 hy
   exact hno j y (by have:=(List.getElem?_eq_some_iff.1 hj).1;omega) hj)).2
  repeat (first | refine byW ?_ | (refine byV ?_;intro w hw))
  refine lStore ?_
  intro w hw
  have hw:Wd Γ (.blk b4 (.cells (enc (⟨0,0,0,0⟩:CoreT)).toArray 54)::.blk b1 (hwC H a1 n1 c1 a2 n2 c2 a3 n3 c3 a4 n4 c4 a5 n5 c5)::S) w:=hw
  repeat (first | refine byW ?_ | (refine byV ?_;intro w hw))
  exact ⟨[_,_],⟨resC (i:=0) hw rfl rfl rfl,rfl,trivial⟩,by rw [hno2];rfl,hw.ds [0,0]⟩⟩
def initF (i k:Int):Mx:=fun a b=>if a < i∨(a=i∧b < k) then (if a=b then 0 else farV) else 0
theorem initF_far {i k:Int} (h:i≠k):matL (updM (initF i k) i k farV)=matL (initF i (k+1)):=matL_congr fun a b _ _=>by
 unfold updM initF
 by_cases e:a=i∧b=k
 ·rw [if_pos e,if_pos (show a < i∨(a=i∧b < k+1) by omega),if_neg (show ¬ a=b by omega)]
 ·rw [if_neg e]
  by_cases e1:a < i∨(a=i∧b < k)
  ·rw [if_pos e1,if_pos (show a < i∨(a=i∧b < k+1) by omega)]
  ·rw [if_neg e1,if_neg (show ¬ (a < i∨(a=i∧b < k+1)) by omega)]
theorem initF_same {i:Int}:matL (initF i i)=matL (initF i (i+1)):=matL_congr fun a b _ _=>by
 unfold initF
 by_cases e:a=b
 ·rw [if_pos e,ite_self,ite_self]
 ·rw [if_neg e]
  by_cases e1:a < i∨(a=i∧b < i)
  ·rw [if_pos e1,if_pos (show a < i∨(a=i∧b < i+1) by omega)]
  ·rw [if_neg e1,if_neg (show ¬ (a < i∨(a=i∧b < i+1)) by omega)]
theorem initF_row {i:Int}:matL (initF i 64)=matL (initF (i+1) 0):=matL_congr fun a b _ hb=>by
 unfold nIn at hb
 unfold initF
 by_cases e1:a < i∨(a=i∧b < 64)
 ·rw [if_pos e1,if_pos (show a < i+1∨(a=i+1∧b < 0) by omega)]
 ·rw [if_neg e1,if_neg (show ¬ (a < i+1∨(a=i+1∧b < 0)) by omega)]
theorem initF_start:matL (fun _ _=>0)=matL (initF 0 0):=matL_congr fun a b ha hb=>by
 unfold nIn at ha hb
 unfold initF
 rw [if_neg (by omega)]
theorem initF_end:matL (initF 64 0)=matL (fM (linkD [])):=matL_congr fun a b ha hb=>by
 unfold nIn at ha hb
 unfold initF fM linkD
 rw [if_pos (by omega)]
 show _=if (if a=b then 0 else -1:Int) < 0 then farV else if a=b then 0 else -1
 by_cases e:a=b
 ·rw [if_pos e,if_pos e,if_neg (by omega)]
 ·rw [if_neg e,if_neg e,if_pos (by omega)]
theorem ends_ne {H:HwT} (h:validS H=0) {l:LinkT} (hl:l∈H.Links):l.A≠l.B:=by
 obtain ⟨-,h2,h3, -⟩:=valid_all h
 unfold coresRB at h3
 simp only [Bool.and_eq_true] at h3
 have:=List.all_eq_true.1 h3.1.2.2 l hl
 unfold linkRB at this
 simp only [Bool.and_eq_true,decide_eq_true_eq] at this
 exact this.1.2
noncomputable def dstF (H:HwT):Mx:=fM fun a b=>dstI (nbrL H.Links) a b
set_option maxRecDepth 100000 in
instance tz_dist:TZ Tryz.prog 118 (List.replicate 4096 (.int .i64 0)):=⟨by kernel_rfl⟩
set_option maxRecDepth 8000 in
theorem measure_any {Γ:Gho} {u:Value} {H:HwT} [hh:HwR Γ u H] (hv:validS H=0) {S:List Res} {w:World} (hw:Wd Γ S w) :
  Calls Tryz.prog 28 #[u] w fun e w'=>∃ b3,e=.returned (.pointer (some ⟨b3,0,none⟩))∧Wd Γ (.blk b3 (.cells (matL (dstF H)).toArray 118)::S) w':=by
 obtain ⟨a1,n1,c1,a2,n2,c2,a3,n3,c3,a4,n4,c4,a5,n5,c5,cs,rfl,hcs,hok,hsz,r1,r2,r3,r4,r5⟩:=hh.h
 obtain ⟨hn3,hm3,hx3⟩:=rep_facts r3
 simp only [List.length_map] at hn3
 have hLk:=valid_links hv
 have hLM:LinkM H.Links (linkD H.Links):=linkD_ok _ rfl (fun l hl=>⟨ends_ne hv hl,(lats_ok hLk l hl).1⟩) (valid_keys hv)
 refine calls_of_W Tryz.func28 rfl rfl ?_
 repeat (first | refine byW ?_ | (refine byV ?_;intro w hw))
 refine lBox ?_
 intro b1 w hw
 repeat (first | refine byW ?_ | (refine byV ?_;intro w hw))
 refine lAlloc ?_
 intro b3 w hw
 rw [matL_zero] at hw
 have hw:Wd Γ (.blk b3 (.cells (matL (fun _ _=>0)).toArray 118)::.blk b1 (hwC H a1 n1 c1 a2 n2 c2 a3 n3 c3 a4 n4 c4 a5 n5 c5)::S) w:=hw
 rw [initF_start] at hw
 repeat (first | refine byW ?_ | (refine byV ?_;intro w hw))
 have hBW:Wd Γ (.blk b3 (.cells (matL (initF 0 0)).toArray 118)::.blk b1 (hwC H a1 n1 c1 a2 n2 c2 a3 n3 c3 a4 n4 c4 a5 n5 c5)::S) w:=hw
 clear hw
 refine W_loop (fun μ ρ w=>∃ i:Nat,μ+i=64∧Has ρ [(1,.pointer (some ⟨b1,0,none⟩)),(3,.pointer (some ⟨b3,0,none⟩)),(11,.int .i64 i)]∧Wd Γ (.blk b3 (.cells (matL (initF i 0)).toArray 118)::.blk b1 (hwC H a1 n1 c1 a2 n2 c2 a3 n3 c3 a4 n4 c4 a5 n5 c5)::S) w) 64 ⟨0,by omega,⟨rfl,rfl,rfl,trivial⟩,hBW⟩ ?_
 clear hBW
 rintro μ ρ w ⟨i,hi,hρ,hw⟩
 rw [hρ.eq]
 clear hρ
 repeat (first | refine byW ?_ | (refine byV ?_;intro w hw))
 refine W_cond rfl (fun h=>?_) (fun h=>?_)
 ·have hin:i < 64:=by have:=of_decide_eq_true h;omega
  clear h
  have hiI:nIn (i:Int):=by unfold nIn;omega
  repeat (first | refine byW ?_ | (refine byV ?_;intro w hw))
  refine W_loop (fun μ2 ρ w=>∃ k:Nat,μ2+k=64∧Has ρ [(1,.pointer (some ⟨b1,0,none⟩)),(3,.pointer (some ⟨b3,0,none⟩)),(4,.int .i64 i),(11,.int .i64 i),(14,.int .i64 k)]∧Wd Γ (.blk b3 (.cells (matL (initF i k)).toArray 118)::.blk b1 (hwC H a1 n1 c1 a2 n2 c2 a3 n3 c3 a4 n4 c4 a5 n5 c5)::S) w) 64 ⟨0,by omega,⟨rfl,rfl,rfl,rfl,rfl,trivial⟩,hw⟩ ?_
  clear hw
  rintro μ2 ρ w ⟨k,hk,hρ,hw⟩
  rw [hρ.eq]
  clear hρ
  repeat (first | refine byW ?_ | (refine byV ?_;intro w hw))
  refine W_cond rfl (fun h=>?_) (fun h=>?_)
  ·have hkn:k < 64:=by have:=of_decide_eq_true h;omega
   clear h
   have hkI:nIn (k:Int):=by unfold nIn;omega
   repeat (first | refine byW ?_ | (refine byV ?_;intro w hw))
   refine W_cond rfl (fun h=>?_) (fun h=>?_)
   ·have h:(i:Int)≠k:=of_decide_eq_true h
    repeat (first | refine byW ?_ | (refine byV ?_;intro w hw))
    refine lStore (i:=0) (o:=0+(i:Int).toNat * 64+(k:Int).toNat * 1) (ho:=by rw [List.size_toArray,matL_len];omega) ?_
    intro w hw
    have hw:Wd Γ (.blk b3 (.cells (putCells (matL (initF i k)).toArray (0+(i:Int).toNat * 64+(k:Int).toNat * 1) [.int .i64 farV]) 118)::.blk b1 (hwC H a1 n1 c1 a2 n2 c2 a3 n3 c3 a4 n4 c4 a5 n5 c5)::S) w:=hw
    rw [putM _ hiI hkI,initF_far h] at hw
    repeat (first | refine byW ?_ | (refine byV ?_;intro w hw))
    exact ⟨μ2 - 1,by omega,k+1,by omega,⟨rfl,rfl,rfl,rfl,rfl,trivial⟩,hw⟩
   ·have h:(i:Int)=k:=by have:=of_decide_eq_false h;simpa using this
    have hik:k=i:=by omega
    subst hik
    rw [initF_same] at hw
    repeat (first | refine byW ?_ | (refine byV ?_;intro w hw))
    exact ⟨μ2 - 1,by omega,k+1,by omega,⟨rfl,rfl,rfl,rfl,rfl,trivial⟩,hw⟩
  ·have hkn:k=64:=by have:=of_decide_eq_false h;omega
   subst hkn
   clear h
   have hw:Wd Γ (.blk b3 (.cells (matL (initF i 64)).toArray 118)::.blk b1 (hwC H a1 n1 c1 a2 n2 c2 a3 n3 c3 a4 n4 c4 a5 n5 c5)::S) w:=hw
   rw [initF_row] at hw
   repeat (first | refine byW ?_ | (refine byV ?_;intro w hw))
   exact ⟨μ - 1,by omega,i+1,by omega,⟨rfl,rfl,rfl,trivial⟩,hw⟩
 have hin:i=64:=by have:=of_decide_eq_false h;omega
 subst hin
 clear h hi
 have hw:Wd Γ (.blk b3 (.cells (matL (initF 64 0)).toArray 118)::.blk b1 (hwC H a1 n1 c1 a2 n2 c2 a3 n3 c3 a4 n4 c4 a5 n5 c5)::S) w:=hw
 rw [initF_end,show ([]:List LinkT)=H.Links.take 0 from rfl] at hw
 repeat (first | refine byW ?_ | (refine byV ?_;intro w hw))
 refine W_loop (fun μ ρ w=>∃ k:Nat,μ+k=n3∧Has ρ [(1,.pointer (some ⟨b1,0,none⟩)),(3,.pointer (some ⟨b3,0,none⟩)),(27,.slice a3 n3 c3),(28,.int .i64 n3),(29,.int .i64 k)]∧Wd Γ (.blk b3 (.cells (matL (fM (linkD (H.Links.take k)))).toArray 118)::.blk b1 (hwC H a1 n1 c1 a2 n2 c2 a3 n3 c3 a4 n4 c4 a5 n5 c5)::S) w) n3 ⟨0,by omega,⟨rfl,rfl,rfl,rfl,rfl,trivial⟩,hw⟩ ?_
 clear hw
 rintro μ ρ w ⟨k,hk,hρ,hw⟩
 rw [hρ.eq]
 clear hρ
 repeat (first | refine byW ?_ | (refine byV ?_;intro w hw))
 refine W_cond rfl (fun h=>?_) (fun h=>?_)
 ·have hkn:k < n3:=by have:=of_decide_eq_true h;omega
  clear h
  obtain ⟨l,hl⟩:=get_lt (l:=H.Links) (k:=k) (by omega)
  obtain ⟨hA0,hA1,hB0,hB1, -⟩:=hLk.2 l (List.mem_of_getElem? hl)
  have hla:=(lats_ok hLk l (List.mem_of_getElem? hl)).1
  have hAI:nIn l.A:=⟨hA0,hA1⟩
  have hBI:nIn l.B:=⟨hB0,hB1⟩
  have hsn:=linkD_snoc hl
  generalize linkD (H.Links.take k)=D at *
  repeat (first | refine byW ?_ | (refine byV ?_;intro w hw))
  refine lAlloc ?_
  intro b7 w hw
  refine lStore ?_
  intro w hw
  have hw:Wd Γ ([.blk b7 (.cells (enc l).toArray 98)]++(.blk b3 (.cells (matL (fM D)).toArray 118)::.blk b1 (hwC H a1 n1 c1 a2 n2 c2 a3 n3 c3 a4 n4 c4 a5 n5 c5)::S)) w:=hw
  repeat (first | refine byW ?_ | (refine byV ?_;intro w hw))
  refine W_mix1 [.blk b7 (.cells (enc l).toArray 98)] _ [[],[],[],[],[],[],[],[],[],[],[],[],[],[],[0],[],[],[0]] [[],[],[],[],[],[],[],[],[],[],[],[],[],[],[0],[],[],[0]] hw ?_
  repeat (first | refine mY ?_ | refine mP ?_ | refine mPg ?_)
  refine mStoreC (o:=0+l.A.toNat * 64+l.B.toNat * 1) (ho:=by rw [List.size_toArray,matL_len];omega) ?_
  repeat (first | refine mY ?_ | refine mP ?_ | refine mPg ?_)
  refine mStoreC (cs:=putCells (matL (fM D)).toArray (0+l.A.toNat * 64+l.B.toNat * 1) [.int .i64 l.Latency]) (o:=0+l.B.toNat * 64+l.A.toNat * 1) (ho:=by rw [putM _ hAI hBI,List.size_toArray,matL_len];omega) ?_ (hM:=by first | exact setC_self | exact rfl)
  refine mEnd0 ?_
  clear hw
  intro w hw
  have hw:Wd Γ ([.blk b7 (.cells (enc l).toArray 98)]++((.blk b3 (.cells (putCells (putCells (matL (fM D)).toArray (0+l.A.toNat * 64+l.B.toNat * 1) [.int .i64 l.Latency]) (0+l.B.toNat * 64+l.A.toNat * 1) [.int .i64 l.Latency]) 118)::.blk b1 (hwC H a1 n1 c1 a2 n2 c2 a3 n3 c3 a4 n4 c4 a5 n5 c5)::S)++[])) w:=hw
  rw [putM _ hAI hBI,putM _ hBI hAI,List.append_nil,fM_upd hla,fM_upd hla] at hw
  have hw:Wd Γ (.blk b3 (.cells (matL (fM (linkStep D l))).toArray 118)::.blk b1 (hwC H a1 n1 c1 a2 n2 c2 a3 n3 c3 a4 n4 c4 a5 n5 c5)::S) w:=hw.drop
  rw [hsn] at hw
  repeat (first | refine byW ?_ | (refine byV ?_;intro w hw))
  exact ⟨μ - 1,by omega,k+1,by omega,⟨rfl,rfl,rfl,rfl,rfl,trivial⟩,hw⟩
 have hkn:¬ k < n3:=by have:=of_decide_eq_false h;omega
 rw [List.take_of_length_le (by omega)] at hw
 clear h hkn hk
 have hF0:FW (linkD H.Links) (linkD H.Links) 0 0 0:=fun a b ha hb=>by
  unfold nIn at ha hb
  rw [if_neg (by omega)]
  exact OkM.zero hLM.neg ha hb
 repeat (first | refine byW ?_ | (refine byV ?_;intro w hw))
 refine W_loop (fun μ ρ w=>∃ (m:Nat) (D:Mx),μ+m=64∧FW (linkD H.Links) D m 0 0∧Has ρ [(1,.pointer (some ⟨b1,0,none⟩)),(3,.pointer (some ⟨b3,0,none⟩)),(50,.int .i64 m)]∧Wd Γ (.blk b3 (.cells (matL (fM D)).toArray 118)::.blk b1 (hwC H a1 n1 c1 a2 n2 c2 a3 n3 c3 a4 n4 c4 a5 n5 c5)::S) w) 64 ⟨0,_,by omega,hF0,⟨rfl,rfl,rfl,trivial⟩,hw⟩ ?_
 clear hw hF0
 rintro μ ρ w ⟨m,D,hm,hF,hρ,hw⟩
 rw [hρ.eq]
 clear hρ
 repeat (first | refine byW ?_ | (refine byV ?_;intro w hw))
 refine W_cond rfl (fun h=>?_) (fun h=>?_)
 ·have hmn:m < 64:=by have:=of_decide_eq_true h;omega
  clear h
  have hmI:nIn (m:Int):=by unfold nIn;omega
  repeat (first | refine byW ?_ | (refine byV ?_;intro w hw))
  refine W_loop (fun μ2 ρ w=>∃ (i:Nat) (D:Mx),μ2+i=64∧FW (linkD H.Links) D m i 0∧Has ρ [(1,.pointer (some ⟨b1,0,none⟩)),(3,.pointer (some ⟨b3,0,none⟩)),(8,.int .i64 m),(50,.int .i64 m),(53,.int .i64 i)]∧Wd Γ (.blk b3 (.cells (matL (fM D)).toArray 118)::.blk b1 (hwC H a1 n1 c1 a2 n2 c2 a3 n3 c3 a4 n4 c4 a5 n5 c5)::S) w) 64 ⟨0,D,by omega,hF,⟨rfl,rfl,rfl,rfl,rfl,trivial⟩,hw⟩ ?_
  clear hw hF
  rintro μ2 ρ w ⟨i,D,hi,hF,hρ,hw⟩
  rw [hρ.eq]
  clear hρ
  repeat (first | refine byW ?_ | (refine byV ?_;intro w hw))
  refine W_cond rfl (fun h=>?_) (fun h=>?_)
  ·have hin:i < 64:=by have:=of_decide_eq_true h;omega
   clear h
   have hiI:nIn (i:Int):=by unfold nIn;omega
   repeat (first | refine byW ?_ | (refine byV ?_;intro w hw))
   refine W_loop (fun μ3 ρ w=>∃ (k:Nat) (D:Mx),μ3+k=64∧FW (linkD H.Links) D m i k∧Has ρ [(1,.pointer (some ⟨b1,0,none⟩)),(3,.pointer (some ⟨b3,0,none⟩)),(8,.int .i64 m),(9,.int .i64 i),(50,.int .i64 m),(53,.int .i64 i),(56,.int .i64 k)]∧Wd Γ (.blk b3 (.cells (matL (fM D)).toArray 118)::.blk b1 (hwC H a1 n1 c1 a2 n2 c2 a3 n3 c3 a4 n4 c4 a5 n5 c5)::S) w) 64 ⟨0,D,by omega,hF,⟨rfl,rfl,rfl,rfl,rfl,rfl,rfl,trivial⟩,hw⟩ ?_
   clear hw hF
   rintro μ3 ρ w ⟨k,D,hk,hF,hρ,hw⟩
   rw [hρ.eq]
   clear hρ
   repeat (first | refine byW ?_ | (refine byV ?_;intro w hw))
   refine W_cond rfl (fun h=>?_) (fun h=>?_)
   ·have hkn:k < 64:=by have:=of_decide_eq_true h;omega
    clear h
    have hkI:nIn (k:Int):=by unfold nIn;omega
    have g1:=hF.bound hLM hLk hiI hmI
    have g2:=hF.bound hLM hLk hmI hkI
    have g3:=hF.bound hLM hLk hiI hkI
    have hnx:=hF.next hmI hiI hkI
    have hrx:=fM_relax (D:=D) (m:=m) (i:=i) (k:=k) ⟨g1.1,by omega⟩ ⟨g2.1,by omega⟩ ⟨g3.1,by omega⟩
    have f1:=fM_bound (D:=D) (a:=i) (b:=m) g1 (by unfold farV;omega)
    have f2:=fM_bound (D:=D) (a:=m) (b:=k) g2 (by unfold farV;omega)
    have f3:=fM_bound (D:=D) (a:=i) (b:=k) g3 (by unfold farV;omega)
    unfold farV at f1 f2 f3
    have q1:=getM (fM D) hiI hmI
    have q2:=getM (fM D) hmI hkI
    have q3:=getM (fM D) hiI hkI
    rw [show min (fM D i k) (fM D i m+fM D m k)=if fM D i m+fM D m k < fM D i k then fM D i m+fM D m k else fM D i k by split <;> omega] at hrx
    repeat (first | refine byW ?_ | (refine byV ?_;intro w hw))
    refine W_mix1 [] (.blk b3 (.cells (matL (fM D)).toArray 118)::.blk b1 (hwC H a1 n1 c1 a2 n2 c2 a3 n3 c3 a4 n4 c4 a5 n5 c5)::S) [[],[],[],[],[],[],[],[],[],[],[],[],[],[],[],[],[],[],[],[],[],[0]] [[],[],[],[],[],[],[0],[],[],[],[],[0],[],[],[],[],[0],[],[],[],[],[0]] hw ?_
    repeat (first | refine mY ?_ | refine mP ?_ | refine mPg ?_)
    refine mY (v:=.int .i64 (fM D i k)) ?_ (hy:=fun Y w g hw=>y_l1b (i:=0) hw rfl rfl q3)
    repeat (first | refine mY ?_ | refine mP ?_ | refine mPg ?_)
    refine mY (v:=.int .i64 (fM D i m)) ?_ (hy:=fun Y w g hw=>y_l1b (i:=0) hw rfl rfl q1)
    repeat (first | refine mY ?_ | refine mP ?_ | refine mPg ?_)
    refine mY (v:=.int .i64 (fM D m k)) ?_ (hy:=fun Y w g hw=>y_l1b (i:=0) hw rfl rfl q2)
    repeat (first | refine mY ?_ | refine mP ?_ | refine mPg ?_)
    refine mStoreC (o:=0+(i:Int).toNat * 64+(k:Int).toNat * 1) (ho:=by rw [List.size_toArray,matL_len];omega) ?_
    refine mEnd0 ?_
    clear hw
    intro w hw
    have hw:Wd Γ ((.blk b3 (.cells (putCells (matL (fM D)).toArray (0+(i:Int).toNat * 64+(k:Int).toNat * 1) [.int .i64 (if fM D i m+fM D m k < fM D i k then fM D i m+fM D m k else fM D i k)]) 118)::.blk b1 (hwC H a1 n1 c1 a2 n2 c2 a3 n3 c3 a4 n4 c4 a5 n5 c5)::S)++[]) w:=hw
    rw [putM _ hiI hkI,hrx,List.append_nil] at hw
    repeat (first | refine byW ?_ | (refine byV ?_;intro w hw))
    exact ⟨μ3 - 1,by omega,k+1,_,by omega,hnx,⟨rfl,rfl,rfl,rfl,rfl,rfl,rfl,trivial⟩,hw⟩
   ·have hkn:k=64:=by have:=of_decide_eq_false h;omega
    subst hkn
    have hF:FW (linkD H.Links) D m i 64:=hF
    repeat (first | refine byW ?_ | (refine byV ?_;intro w hw))
    exact ⟨μ2 - 1,by omega,i+1,D,by omega,hF.row,⟨rfl,rfl,rfl,rfl,rfl,trivial⟩,hw⟩
  ·have hin:i=64:=by have:=of_decide_eq_false h;omega
   subst hin
   have hF:FW (linkD H.Links) D m 64 0:=hF
   repeat (first | refine byW ?_ | (refine byV ?_;intro w hw))
   exact ⟨μ - 1,by omega,m+1,D,by omega,hF.phase,⟨rfl,rfl,rfl,trivial⟩,hw⟩
 have hmn:m=64:=by have:=of_decide_eq_false h;omega
 subst hmn
 have hfin:matL (fM D)=matL (dstF H):=matL_congr fun a b ha hb=>by
  have:=hF a b ha hb
  unfold nIn at ha hb
  rw [if_neg (by omega)] at this
  have h1:=OkM.dst hLM hLk ha this
  show (if D a b < 0 then farV else D a b)=if dstI (nbrL H.Links) a b < 0 then farV else dstI (nbrL H.Links) a b
  rw [h1]
 rw [hfin] at hw
 repeat (first | refine byW ?_ | (refine byV ?_;intro w hw))
 exact ⟨_,rfl,b3,rfl,hw.ps [1] |>.drop⟩
end Go.Proofs.YthgighljhoneeaaGreatDoor
end
section
open Go Mk
namespace Go.Proofs.YthgighljhoneeaaGreatDoor
set_option maxHeartbeats 16000000
attribute [local irreducible] Calls
attribute [local irreducible] matL
abbrev tabB (b:Nat) (D:Mx):Res:=.blk b (.cells (matL D).toArray 118)
class Tab (Γ:Gho) (b:Nat) (D:outParam Mx):Prop where h:ImB Γ b (matL D).toArray 118
def costM (D:Mx) (c:CoreT) (m:MemT):Int:=D c.Node m.Node+m.Latency
structure Can (D:Mx) (c:CoreT) (m:MemT):Prop where
 cn:nIn c.Node
 mn:nIn m.Node
 d:0≤D c.Node m.Node∧D c.Node m.Node≤1152921504606846976
 l:1≤m.Latency∧m.Latency≤1000000
theorem memory_own {Γ:Gho} {S:List Res} {w:World} {b:Nat} {D:Mx} {c:CoreT} {m:MemT} (h:Can D c m) (hw:Wd Γ (tabB b D::S) w) :
  Calls Tryz.prog 29 #[.pointer (some ⟨b,0,none⟩),.agg (enc c).toArray,.agg (enc m).toArray] w fun e w'=>e=.returned (.int .i64 (costM D c m))∧Wd Γ (tabB b D::S) w':=by
 obtain ⟨hc,hm,hd,hl⟩:=h
 refine calls_of_W Tryz.func29 rfl rfl ?_
 repeat (first | refine byW ?_ | (refine byV ?_;intro w hw))
 refine lBox ?_
 intro b4 w hw
 refine lBox ?_
 intro b5 w hw
 have hw:Wd Γ (.blk b5 (.cells (enc m).toArray 61)::.blk b4 (.cells (enc c).toArray 54)::tabB b D::S) w:=hw
 have q:=getM D hc hm
 have hc:0≤c.Node∧c.Node < 64:=hc
 have hm:0≤m.Node∧m.Node < 64:=hm
 repeat (first | refine byW ?_ | (refine byV ?_;intro w hw))
 refine W_quiet (by kernel_rfl) (by kernel_rfl) hw ?_
 repeat (first | refine Q_nil ?_ | (apply Q_plain;first | (apply Q_go;first | refine qP ?_ | refine qPg ?_) | refine qY ?_) | (apply Q_guarded;first | (apply Q_go;first | refine qPG ?_ | refine qPgG ?_) | refine qG ?_))
 refine qY (v:=.int .i64 (D c.Node m.Node)) ?_ (hy:=fun w hw=>y_l1b (i:=2) hw rfl rfl q)
 repeat (first | refine Q_nil ?_ | (apply Q_plain;first | (apply Q_go;first | refine qP ?_ | refine qPg ?_) | refine qY ?_) | (apply Q_guarded;first | (apply Q_go;first | refine qPG ?_ | refine qPgG ?_) | refine qG ?_))
 intro w hw
 repeat (first | refine byW ?_ | (refine byV ?_;intro w hw))
 exact ⟨_,rfl,rfl,hw.ds [0,0]⟩
theorem pg_memory {Γ:Gho} {b:Nat} {D:Mx} {c:CoreT} {m:MemT} [hT:Tab Γ b D] (h:Can D c m) :
  PG Tryz.prog Γ 29 [.pointer (some ⟨b,0,none⟩),.agg (enc c).toArray,.agg (enc m).toArray] (.int .i64 (costM D c m)):=⟨fun S w hw=>by
 haveI:=hT.h
 obtain ⟨hc,hm,hd,hl⟩:=h
 refine calls_of_W Tryz.func29 rfl rfl ?_
 repeat (first | refine byW ?_ | (refine byV ?_;intro w hw))
 refine lBox ?_
 intro b4 w hw
 refine lBox ?_
 intro b5 w hw
 have hw:Wd Γ (.blk b5 (.cells (enc m).toArray 61)::.blk b4 (.cells (enc c).toArray 54)::S) w:=hw
 have q:=getM D hc hm
 have hc:0≤c.Node∧c.Node < 64:=hc
 have hm:0≤m.Node∧m.Node < 64:=hm
 repeat (first | refine byW ?_ | (refine byV ?_;intro w hw))
 refine W_quiet (by kernel_rfl) (by kernel_rfl) hw ?_
 repeat (first | refine Q_nil ?_ | (apply Q_plain;first | (apply Q_go;first | refine qP ?_ | refine qPg ?_) | refine qY ?_) | (apply Q_guarded;first | (apply Q_go;first | refine qPG ?_ | refine qPgG ?_) | refine qG ?_))
 refine qY (v:=.int .i64 (D c.Node m.Node)) ?_ (hy:=fun w hw=>y_l1m hw rfl q)
 repeat (first | refine Q_nil ?_ | (apply Q_plain;first | (apply Q_go;first | refine qP ?_ | refine qPg ?_) | refine qY ?_) | (apply Q_guarded;first | (apply Q_go;first | refine qPG ?_ | refine qPgG ?_) | refine qG ?_))
 intro w hw
 repeat (first | refine byW ?_ | (refine byV ?_;intro w hw))
 exact ⟨_,rfl,rfl,hw.ds [0,0]⟩⟩
def memIx (l:List MemT) (s:ByteArray):Int:=match l.findIdx? (fun x=>decide (x.Name=s)) with | some k=>k | none=>-1
theorem memIx_some {l:List MemT} {s:ByteArray} {k:Nat} {x:MemT} (hx:l[k]? = some x) (he:x.Name=s) (hl:∀ j y,j < k→l[j]? = some y→y.Name≠s):memIx l s=k:=by
 obtain ⟨hk,hxk⟩:=List.getElem?_eq_some_iff.1 hx
 have h1:l.findIdx? (fun x=>decide (x.Name=s))=some k:=by
  rw [List.findIdx?_eq_some_iff_getElem]
  refine ⟨hk,by rw [hxk];simpa using he,fun j hj=>?_⟩
  have:=hl j l[j] hj (List.getElem?_eq_getElem ..)
  simpa using this
 unfold memIx
 rw [h1]
theorem memIx_none {l:List MemT} {s:ByteArray} (hl:∀ y∈l,y.Name≠s):memIx l s = -1:=by
 have h1:l.findIdx? (fun x=>decide (x.Name=s))=none:=by
  rw [List.findIdx?_eq_none_iff];intro x hx;simpa using hl x hx
 unfold memIx
 rw [h1]
theorem memIx_cases (l:List MemT) (s:ByteArray):(memIx l s = -1∧∀ y∈l,y.Name≠s)∨∃ (k:Nat) (x:MemT),memIx l s=k∧l[k]? = some x∧x.Name=s∧∀ j y,j < k→l[j]? = some y→y.Name≠s:=by
  by_cases h:∀ y∈l,y.Name≠s
  · exact .inl ⟨memIx_none h,h⟩
  · right
    cases hq:l.findIdx? (fun x=>decide (x.Name=s)) with
    | none=>
      exfalso;apply h
      intro y hy he
      have:=List.findIdx?_eq_none_iff.1 hq y hy
      simp [he] at this
    | some k=>
      obtain ⟨hk,h1,h2⟩:=List.findIdx?_eq_some_iff_getElem.1 hq
      have hx:=List.getElem?_eq_getElem hk
      have h1:l[k].Name=s:=by simpa using h1
      have hno:∀ j y,j < k→l[j]? = some y→y.Name≠s:=fun j y hj hy=>by
        obtain ⟨hj2,e⟩:=List.getElem?_eq_some_iff.1 hy
        have:=h2 j hj
        rw [← e];simpa using this
      exact ⟨k,l[k],memIx_some hx h1 hno,hx,h1,hno⟩
theorem cost1_any {Γ:Gho} {S:List Res} {w:World} {b:Nat} {s:ByteArray} (x:MemT) (hw:Wd Γ (.blk b (.cells #[.string s] 9)::S) w) :
  Calls Tryz.prog 27 #[.agg (enc x).toArray,.pointer (some ⟨b,0,none⟩)] w fun e w'=>e=.returned (.bool (decide (x.Name=s)))∧Wd Γ (.blk b (.cells #[.string s] 9)::S) w':=by
 refine calls_of_W Tryz.func27 rfl rfl ?_
 repeat (first | refine byW ?_ | (refine byV ?_;intro w hw))
 refine lBox ?_
 intro b2 w hw
 have hw:Wd Γ (.blk b2 (.cells (enc x).toArray 61)::.blk b (.cells #[.string s] 9)::S) w:=hw
 repeat (first | refine byW ?_ | (refine byV ?_;intro w hw))
 exact ⟨_,rfl,rfl,hw.drop⟩
theorem memIdx_any {Γ:Gho} {S:List Res} {w:World} {b:Nat} {s:ByteArray} {v:Value} {xs:List MemT} (hr:RepS Γ v 5 (xs.map enc)) (hw:Wd Γ (.blk b (.cells #[.string s] 9)::S) w) :
  Calls Tryz.prog 26 #[v,.func (.func 27) #[] #[.pointer (some ⟨b,0,none⟩)]] w fun e w'=>e=.returned (.int .i64 (memIx xs s))∧Wd Γ (.blk b (.cells #[.string s] 9)::S) w':=by
 obtain ⟨a,n,c,rfl,hn,hnc,hc⟩:=hr.shape
 simp only [List.length_map] at hn
 refine calls_of_W Tryz.func26 rfl rfl ?_
 repeat (first | refine byW ?_ | (refine byV ?_;intro w hw))
 refine W_loop (fun μ ρ w=>∃ (k:Nat),μ+k=n∧Has ρ [(0,.slice a n c),(1,.func (.func 27) #[] #[.pointer (some ⟨b,0,none⟩)]),(7,.int .i64 n),(8,.int .i64 k)]∧(∀ j x,j < k→xs[j]? = some x→x.Name≠s)∧Wd Γ (.blk b (.cells #[.string s] 9)::S) w) n ⟨0,by omega,⟨rfl,rfl,rfl,rfl,trivial⟩,fun j x hj=>by omega,hw⟩ ?_
 clear hw
 rintro μ ρ w ⟨k,hk,hρ,hno,hw⟩
 rw [hρ.eq]
 clear hρ
 repeat (first | refine byW ?_ | (refine byV ?_;intro w hw))
 refine W_cond rfl (fun h=>?_) (fun h=>?_)
 ·have hkn:k < n:=by have:=of_decide_eq_true h;omega
  obtain ⟨x,hx⟩:=get_lt (l:=xs) (k:=k) (by omega)
  repeat (first | refine byW ?_ | (refine byV ?_;intro w hw))
  refine lCallv (fst:=[]) (cap:=[.pointer (some ⟨b,0,none⟩)]) (vs:=[.agg (enc x).toArray]) ?_
  refine (cost1_any x hw).mono ?_
  clear hw
  rintro e w ⟨rfl,hw⟩
  refine ⟨_,rfl,?_⟩
  repeat (first | refine byW ?_ | (refine byV ?_;intro w hw))
  refine W_cond rfl (fun h2=>?_) (fun h2=>?_)
  ·have h2:x.Name=s:=of_decide_eq_true h2
   repeat (first | refine byW ?_ | (refine byV ?_;intro w hw))
   exact ⟨_,rfl,by rw [memIx_some hx h2 hno];rfl,hw⟩
  ·have h2:¬ x.Name=s:=of_decide_eq_false h2
   repeat (first | refine byW ?_ | (refine byV ?_;intro w hw))
   refine ⟨μ - 1,by omega,k+1,by omega,⟨rfl,rfl,rfl,rfl,trivial⟩,fun j y hj hy=>?_,hw⟩
   by_cases e:j=k
   ·subst e;rw [hx] at hy;cases hy;exact h2
   ·exact hno j y (by omega) hy
 ·have hkn:¬ k < n:=by have:=of_decide_eq_false h;omega
  repeat (first | refine byW ?_ | (refine byV ?_;intro w hw))
  exact ⟨_,rfl,by rw [memIx_none (l:=xs) (s:=s) (fun y hy=>by
   obtain ⟨j,hj⟩:=List.mem_iff_getElem?.1 hy
   exact hno j y (by have:=(List.getElem?_eq_some_iff.1 hj).1;omega) hj)];rfl,hw⟩
noncomputable def costS (H:HwT) (id:Int) (s:ByteArray):Int × Int:=
 if validS H≠0 then (0,validS H) else if (findC H.Cores id).2=false∨memIx H.Mems s < 0 then (0,57) else (costM (dstF H) (findC H.Cores id).1 (H.Mems.getD (memIx H.Mems s).toNat default),0)
theorem mem_rng {H:HwT} (hv:validS H=0) {m:MemT} (hm:m∈H.Mems):nIn m.Node∧1≤m.Latency∧m.Latency≤1000000:=by
 obtain ⟨-,h2,h3, -⟩:=valid_all hv
 unfold regionsRB at h3
 simp only [Bool.and_eq_true] at h3
 have:=List.all_eq_true.1 h3.2.1 m hm
 unfold memRB isNodeB isLatB at this
 simp only [Bool.and_eq_true,decide_eq_true_eq] at this
 exact ⟨this.1.1,this.1.2⟩
theorem dstF_rng {H:HwT} (hv:validS H=0) {a:Int} (ha:nIn a) (b:Int):0≤dstF H a b∧dstF H a b≤1152921504606846976:=by
 have hLk:=valid_links hv
 have h:=dst_le (x:=b) hLk ha
 have:=fM_bound (D:=fun a b=>dstI (nbrL H.Links) a b) (a:=a) (b:=b) (B:=63000000) ⟨by
  show -1≤dstI (nbrL H.Links) a b
  rcases dst_ex (nbr_ok hLk ha) b with ⟨h1, -⟩ | ⟨h1, -⟩ <;> omega,h.2⟩ (by unfold farV;omega)
 unfold farV at this
 exact this
theorem can_of {H:HwT} (hv:validS H=0) {c:CoreT} (hc:c∈H.Cores) {m:MemT} (hm:m∈H.Mems):Can (dstF H) c m:=
 ⟨core_node hv hc,(mem_rng hv hm).1,dstF_rng hv (core_node hv hc) _,(mem_rng hv hm).2⟩
theorem findC_in {l:List CoreT} {id:Int} (h:(findC l id).2=true):(findC l id).1∈l∧(findC l id).1.ID=id:=by
 rcases coreIx_cases l id with ⟨-,h2, -⟩ | ⟨k,x, -,hx,he,h2⟩
 ·rw [h2] at h;cases h
 ·rw [h2];exact ⟨List.mem_of_getElem? hx,he⟩
instance pg_Cost {Γ:Gho} {u:Value} {H:HwT} [hh:HwR Γ u H] (id:Int) (s:ByteArray):PG Tryz.prog Γ 8 [u,.int .i64 id,.string s] (.tuple #[.int .i64 (costS H id s).1,.int .i64 (costS H id s).2]):=⟨fun S w hw=>by
 obtain ⟨a1,n1,c1,a2,n2,c2,a3,n3,c3,a4,n4,c4,a5,n5,c5,cs,rfl,hcs,hok,hsz,r1,r2,r3,r4,r5⟩:=hh.h
 obtain ⟨hn4,hm4,hx4⟩:=rep_facts r4
 simp only [List.length_map] at hn4
 refine calls_of_W Tryz.func8 rfl rfl ?_
 repeat (first | refine byW ?_ | (refine byV ?_;intro w hw))
 refine lBox ?_
 intro b3 w hw
 repeat (first | refine byW ?_ | (refine byV ?_;intro w hw))
 refine lBox ?_
 intro b5 w hw
 have hw:Wd Γ (.blk b5 (.cells #[.string s] 9)::.blk b3 (hwC H a1 n1 c1 a2 n2 c2 a3 n3 c3 a4 n4 c4 a5 n5 c5)::S) w:=hw
 repeat (first | refine byW ?_ | (refine byV ?_;intro w hw))
 refine W_cond rfl (fun h=>?_) (fun h=>?_)
 ·have h:validS H≠0:=of_decide_eq_true h
  repeat (first | refine byW ?_ | (refine byV ?_;intro w hw))
  exact ⟨_,rfl,by unfold costS;rw [if_pos h];rfl,hw.ds [0,0]⟩
 have hv:validS H=0:=by have:=of_decide_eq_false h;simpa using this
 clear h
 repeat (first | refine byW ?_ | (refine byV ?_;intro w hw))
 refine lAlloc ?_
 intro b9 w hw
 refine lStore ?_
 intro w hw
 have hw:Wd Γ (.blk b9 (.cells (enc (findC H.Cores id).1).toArray 54)::.blk b5 (.cells #[.string s] 9)::.blk b3 (hwC H a1 n1 c1 a2 n2 c2 a3 n3 c3 a4 n4 c4 a5 n5 c5)::S) w:=hw
 repeat (first | refine byW ?_ | (refine byV ?_;intro w hw))
 refine lCall ((memIdx_any (s:=s) r4 (hw.ps [1])).mono fun e w hq=>?_)
 obtain ⟨rfl,hw⟩:=hq
 refine ⟨_,rfl,?_⟩
 have hw:Wd Γ (.blk b9 (.cells (enc (findC H.Cores id).1).toArray 54)::.blk b5 (.cells #[.string s] 9)::.blk b3 (hwC H a1 n1 c1 a2 n2 c2 a3 n3 c3 a4 n4 c4 a5 n5 c5)::S) w:=hw.ps [1]
 repeat (first | refine byW ?_ | (refine byV ?_;intro w hw))
 refine W_cond rfl (fun h=>?_) (fun h=>?_)
 ·have h2:(findC H.Cores id).2=false∨memIx H.Mems s < 0:=by simpa using h
  repeat (first | refine byW ?_ | (refine byV ?_;intro w hw))
  exact ⟨_,rfl,by unfold costS;rw [if_neg (by simp [hv]),if_pos h2];rfl,hw.ds [0,0,0]⟩
 have h2:¬ ((findC H.Cores id).2=false∨memIx H.Mems s < 0):=by simpa using h
 clear h
 have hf:(findC H.Cores id).2=true:=by
  cases hq:(findC H.Cores id).2 with
  | true=>rfl
  | false=>exact absurd (.inl hq) h2
 obtain ⟨hcm, -⟩:=findC_in hf
 rcases memIx_cases H.Mems s with ⟨h3, -⟩ | ⟨k,x,h3,hx, -, -⟩
 ·exact absurd (.inr (by omega)) h2
 have hcs:costS H id s=(costM (dstF H) (findC H.Cores id).1 x,0):=by
  unfold costS
  rw [if_neg (by simp [hv]),if_neg h2,h3]
  simp [hx]
 have hcan:=can_of hv hcm (List.mem_of_getElem? hx)
 have hkl:k < n4:=by have:=(List.getElem?_eq_some_iff.1 hx).1;omega
 rw [hcs,h3]
 generalize (findC H.Cores id).1=c at *
 repeat (first | refine byW ?_ | (refine byV ?_;intro w hw))
 refine W_mixE 1 [[],[0],[],[],[],[],[],[],[],[],[]] [[],[0],[],[],[],[],[],[],[0],[],[]] [[34]] ?_ (hw:=hw)
 repeat (first | refine mY ?_ | refine mP ?_ | refine mPg ?_)
 refine mCallG (c:=0) (F:=fun _=>[]) (fun g=>[atP (g 34) fun bb=>[tabB bb (dstF H)]]) (fun _=>[.agg #[.string H.Name,.slice a1 n1 c1,.slice a2 n2 c2,.slice a3 n3 c3,.slice a4 n4 c4,.slice a5 n5 c5]]) (fun g w Y hw=>(measure_any (hh:=hh) hv hw).mono fun e w hq=>?_) ?_
 ·obtain ⟨b3,rfl,hw⟩:=hq
  exact ⟨_,rfl,Wd.closeAt (F:=fun bb=>[tabB bb (dstF H)]) hw⟩
 repeat (first | refine mY ?_ | refine mP ?_ | refine mPg ?_)
 refine mCallR (c:=0) (F:=fun g=>[atP (g 34) fun bb=>[tabB bb (dstF H)]]) (fun g=>[g 34,.agg (enc c).toArray,.agg (enc x).toArray]) (v:=.int .i64 (costM (dstF H) c x)) (fun g w Y hw=>?_) ?_
 ·obtain ⟨bb,hg,hw⟩:=Wd.openAt hw
  rw [show (ovr ([[34]].getD 0 []) g noFr) 34=.pointer (some ⟨bb,0,none⟩) from hg]
  exact (memory_own hcan hw).mono fun e w hq=>⟨hq.1,Wd.closeAt (F:=fun bb=>[tabB bb (dstF H)]) hq.2⟩
 repeat (first | refine mY ?_ | refine mP ?_ | refine mPg ?_)
 refine mEnd fun w g hw=>?_
 have hw:=Wd.left hw
 repeat (first | refine byW ?_ | (refine byV ?_;intro w hw))
 exact ⟨_,rfl,rfl,hw.ds [0,0,0]⟩⟩
end Go.Proofs.YthgighljhoneeaaGreatDoor
end
section
open Go
namespace Mk
def iRows (xs:List Int):List (List Value):=xs.map fun x=>[Value.int .i64 x]
section
variable {P:Program} {Γ:Gho} {S:List Res} {w:World} {E i:Nat}
theorem grow_none (w:World):Go.Sort.grow w #[]=w:=by
 unfold Go.Sort.grow;simp
theorem Sort_int {ρ:Go.Shelf.Ren} (L:Go.Proofs.Lays.n189 P ρ) (xs:List Int) (v:Value) (hw:Wd Γ S w) (hi:S[i]? = some (.own v E 1 (iRows xs))) (hlen:xs.length < 4611686018427387904) :
  Calls P (ρ.f 189) #[v] w fun e w'=>e=.returned (.tuple #[])∧Wd Γ (S.set i (.own v E 1 (iRows (xs.mergeSort fun x y=>decide (x≤y))))) w':=by
 obtain ⟨a,n,c,rfl,e2,e3,e4,e5⟩:=own_block hw hi
 have hn:n=xs.length:=by simpa [iRows] using e2
 by_cases h0:n=0
 ·have hx:xs=[]:=List.eq_nil_of_length_eq_zero (by omega)
  subst h0
  refine (Go.calls_of_every_depth fun D=>Go.Proofs.AnyS.slices_Sort_int_none_alone L D a c w).mono ?_
  rintro e w' ⟨he,rfl⟩
  refine ⟨he,?_⟩
  rw [hx] at hi ⊢
  have hset:S.set i (.own (.slice a 0 c) E 1 (iRows (([]:List Int).mergeSort fun x y=>decide (x≤y))))=S:=by
   obtain ⟨hil,hie⟩:=List.getElem?_eq_some_iff.1 hi
   rw [List.mergeSort_nil,← hie];exact List.set_getElem_self hil
  rw [hset];exact hw
 ·have hc:0 < c:=by omega
  rcases e5 with e5 | ⟨g,cur,rfl,hg,hcur,hcs,htk⟩
  ·omega
  obtain ⟨hH,hgl⟩:=own_holdsK (enc:=fun x:Int=>[Value.int .i64 x]) (k:=1) (fun _=>rfl) hw hi hc
  have hH1:Go.Sort.Holds (Value.int .i64) w g 0 xs.toArray:=fun j hj=>by
   have:=hH j (by simpa using hj)
   rw [flatK_one] at this
   have hj:j < xs.length:=by simpa using hj
   simpa [hj] using this
  have:=Go.calls_of_every_depth fun D=>Go.Proofs.AnyS.slices_Sort_int_alone L D g 0 c xs w hH1 hgl hlen
  rw [← hn] at this
  refine this.mono ?_
  rintro e w' ⟨he,n',os,rfl⟩
  refine ⟨he,?_⟩
  have h1:Go.Sort.grow (Go.Sort.putRow (Value.int .i64) (Go.Sort.ahead w n') g 0 (xs.mergeSort fun x y=>decide (x≤y)).toArray) os=Go.Proofs.sortWorldK (fun x:Int=>[Value.int .i64 x]) 1 w g 0 n' (xs.mergeSort fun x y=>decide (x≤y)).toArray os:=sortWorld_K1 w g n' _ os
  rw [h1]
  exact own_sortWorld (enc:=fun x:Int=>[Value.int .i64 x]) (k:=1) (fun _=>rfl) hw hi hc (xs.mergeSort fun x y=>decide (x≤y)).toArray (by simp) n' os
theorem Compact_int {ρ:Go.Shelf.Ren} (L:Go.Proofs.Lays2.n20 P ρ) (xs:List Int) (v:Value) (hw:Wd Γ S w) (hi:S[i]? = some (.own v E 1 (iRows xs))) (hlen:xs.length < 4611686018427387904) :
  Calls P (ρ.f 20) #[v] w fun e w'=>∃ a c,e=.returned (.slice a (Go.Lib.compact xs).length c)∧∃ zs,Wd Γ (S.set i (.own v E 1 (iRows zs))) w':=by
 obtain ⟨a,n,c,rfl,e2,e3,e4,e5⟩:=own_block hw hi
 have hn:n=xs.length:=by simpa [iRows] using e2
 by_cases h0:n=0
 ·have hx:xs=[]:=List.eq_nil_of_length_eq_zero (by omega)
  subst h0
  refine (Go.Proofs.Any.slices_Compact_int_empty L a c w).mono ?_
  rintro e w' ⟨he,rfl⟩
  refine ⟨a,c,by rw [he,hx];rfl,xs,?_⟩
  have hset:S.set i (.own (.slice a 0 c) E 1 (iRows xs))=S:=by
   obtain ⟨hil,hie⟩:=List.getElem?_eq_some_iff.1 hi
   rw [← hie];exact List.set_getElem_self hil
  rw [hset];exact hw
 ·have hc:0 < c:=by omega
  rcases e5 with e5 | ⟨g,cur,rfl,hg,hcur,hcs,htk⟩
  ·omega
  obtain ⟨hH,hgl⟩:=own_holdsK (enc:=fun x:Int=>[Value.int .i64 x]) (k:=1) (fun _=>rfl) hw hi hc
  have hH1:Go.Sort.Holds (Value.int .i64) w g 0 xs.toArray:=fun j hj=>by
   have:=hH j (by simpa using hj)
   rw [flatK_one] at this
   have hj:j < xs.length:=by simpa using hj
   simpa [hj] using this
  have:=Go.Proofs.Any.slices_Compact_int L g 0 c xs w hH1 (by omega) (by omega)
  rw [← hn] at this
  refine this.mono ?_
  rintro e w' ⟨he,q,rfl⟩
  have hle:(Go.Lib.compact xs).length≤xs.length:=by
   unfold Go.Lib.compact Go.Lib.compactUpTo
   have:=List.length_filter_le (Go.Lib.keeps xs.toArray) (List.range xs.length)
   simpa using this
  refine ⟨_,c,he,Go.Lib.compact xs++List.replicate (n - (Go.Lib.compact xs).length) 0,?_⟩
  have h1:Go.Sort.putRow (Value.int .i64) (Go.Sort.ahead w q) g 0 (Go.Lib.compact xs++List.replicate (n - (Go.Lib.compact xs).length) 0).toArray=Go.Proofs.sortWorldK (fun x:Int=>[Value.int .i64 x]) 1 w g 0 q (Go.Lib.compact xs++List.replicate (n - (Go.Lib.compact xs).length) 0).toArray #[]:=by
   rw [← sortWorld_K1];unfold Go.Proofs.sortWorld;rw [grow_none]
  rw [h1]
  exact own_sortWorld (enc:=fun x:Int=>[Value.int .i64 x]) (k:=1) (fun _=>rfl) hw hi hc _ (by simp;omega) q #[]
end
theorem compact_len {xs:List Int} (hs:xs.Pairwise (·≤·)):(Go.Lib.compact xs).length < xs.length↔¬ xs.Nodup:=by
  have h0:(Go.Lib.compact xs).length=((List.range xs.length).filter (Go.Lib.keeps xs.toArray)).length:=by
    unfold Go.Lib.compact Go.Lib.compactUpTo;simp
  rw [h0]
  constructor
  · intro h hn
    have:(List.range xs.length).filter (Go.Lib.keeps xs.toArray)=List.range xs.length:=List.filter_eq_self.2 fun j hj=>by
      have hj:j < xs.length:=by simpa using hj
      unfold Go.Lib.keeps
      by_cases e:j=0
      · simp [e]
      · have h1 : xs[j] ≠ xs[j - 1] := fun hh => by
          have:=(List.pairwise_iff_getElem.1 hn) (j - 1) j (by omega) hj (by omega)
          exact this hh.symm
        simp only [List.getElem!_toArray,List.getElem!_eq_getElem?_getD,List.getElem?_eq_getElem hj,List.getElem?_eq_getElem (show j - 1 < xs.length by omega),Option.getD_some]
        simp [h1]
    rw [this] at h
    simp at h
  · intro hn
    refine Classical.byContradiction fun hc=>hn ?_
    have hall:∀ j,j < xs.length→Go.Lib.keeps xs.toArray j=true:=fun j hj=>by
      have:=List.length_filter_eq_length_iff.1 (Nat.le_antisymm (List.length_filter_le (Go.Lib.keeps xs.toArray) (List.range xs.length)) (by simp at hc ⊢;exact hc))
      exact this j (by simpa using hj)
    have hst:∀ j,(h:j+1 < xs.length)→xs[j] < xs[j+1]:=fun j h=>by
      have h1:=hall (j+1) h
      unfold Go.Lib.keeps at h1
      simp only [List.getElem!_toArray,List.getElem!_eq_getElem?_getD,List.getElem?_eq_getElem h,Nat.add_sub_cancel,List.getElem?_eq_getElem (show j < xs.length by omega),Option.getD_some] at h1
      have h2:xs[j]≠xs[j+1]:=by
        intro e
        simp [e] at h1
      have h3:=(List.pairwise_iff_getElem.1 hs) j (j+1) (by omega) h (by omega)
      omega
    have hlt:∀ k j,(h:j+1+k < xs.length)→xs[j] < xs[j+1+k]:=fun k=>by
      induction k with
      | zero=>intro j h;exact hst j h
      | succ k ih=>
        intro j h
        have h1:=ih j (by omega)
        have h2:=hst (j+1+k) (by omega)
        exact Int.lt_trans h1 h2
    refine List.nodup_iff_pairwise_ne.2 (List.pairwise_iff_getElem.2 fun i j hi hj hij=>?_)
    have h1:=hlt (j - i - 1) i (by omega)
    have h2:xs[i+1+(j - i - 1)]'(by omega)=xs[j]:=by congr 1;omega
    rw [h2] at h1
    omega
end Mk
end
section
open Go Mk
namespace Go.Proofs.YthgighljhoneeaaGreatDoor
def lay_sorti_ren:Go.Shelf.Ren:=⟨fun | 189=>80 | 125=>75 | 257=>118 | 128=>116 | 129=>117 | 294=>147 | 295=>148 | 296=>149 | 297=>150 | 298=>151 | 299=>152 | 216=>138 | 300=>153 | 301=>154 | 328=>167 | 329=>143 | 330=>144 | 331=>168 | 332=>169 | 215=>76 | 343=>175 | n=>n,fun | 28=>29 | 3=>3 | 46=>117 | 0=>0 | 51=>160 | 53=>57 | 4=>4 | 183=>153 | 182=>152 | 131=>157 | 5=>5 | 9=>9 | 218=>180 | 222=>184 | 228=>198 | 229=>199 | n=>n,fun | n=>n⟩
theorem lay_sorti:Go.Proofs.Lays.n189 Tryz.prog lay_sorti_ren:={
 mixed:=by kernel_rfl
 f125:=Tryz.func75.trans (congrArg some (by kernel_rfl))
 f128:=Tryz.func116.trans (congrArg some (by kernel_rfl))
 f129:=Tryz.func117.trans (congrArg some (by kernel_rfl))
 f189:=Tryz.func80.trans (congrArg some (by kernel_rfl))
 f215:=Tryz.func76.trans (congrArg some (by kernel_rfl))
 f216:=Tryz.func138.trans (congrArg some (by kernel_rfl))
 f257:=Tryz.func118.trans (congrArg some (by kernel_rfl))
 f294:=Tryz.func147.trans (congrArg some (by kernel_rfl))
 f295:=Tryz.func148.trans (congrArg some (by kernel_rfl))
 f296:=Tryz.func149.trans (congrArg some (by kernel_rfl))
 f297:=Tryz.func150.trans (congrArg some (by kernel_rfl))
 f298:=Tryz.func151.trans (congrArg some (by kernel_rfl))
 f299:=Tryz.func152.trans (congrArg some (by kernel_rfl))
 f300:=Tryz.func153.trans (congrArg some (by kernel_rfl))
 f301:=Tryz.func154.trans (congrArg some (by kernel_rfl))
 f328:=Tryz.func167.trans (congrArg some (by kernel_rfl))
 f329:=Tryz.func143.trans (congrArg some (by kernel_rfl))
 f330:=Tryz.func144.trans (congrArg some (by kernel_rfl))
 f331:=Tryz.func168.trans (congrArg some (by kernel_rfl))
 f332:=Tryz.func169.trans (congrArg some (by kernel_rfl))
 f343:=Tryz.func175.trans (congrArg some (by kernel_rfl))
 t0:=Tryz.underlying0
 a0:=Tryz.isAgg0
 z0:=Tryz.sizeOf0
 v0:=Tryz.zeroValue0
 t3:=Tryz.underlying3
 a3:=Tryz.isAgg3
 z3:=Tryz.sizeOf3
 v3:=Tryz.zeroValue3
 t4:=Tryz.underlying4
 a4:=Tryz.isAgg4
 z4:=Tryz.sizeOf4
 v4:=Tryz.zeroValue4
 t5:=Tryz.underlying5
 a5:=Tryz.isAgg5
 z5:=Tryz.sizeOf5
 v5:=Tryz.zeroValue5
 t9:=Tryz.underlying9
 a9:=Tryz.isAgg9
 z9:=Tryz.sizeOf9
 v9:=Tryz.zeroValue9
 t28:=Tryz.underlying29
 a28:=Tryz.isAgg29
 z28:=Tryz.sizeOf29
 v28:=Tryz.zeroValue29
 t46:=Tryz.underlying117
 a46:=Tryz.isAgg117
 z46:=Tryz.sizeOf117
 v46:=Tryz.zeroValue117
 t51:=Tryz.underlying160
 a51:=Tryz.isAgg160
 z51:=Tryz.sizeOf160
 v51:=Tryz.zeroValue160
 t53:=Tryz.underlying57
 a53:=Tryz.isAgg57
 z53:=Tryz.sizeOf57
 v53:=Tryz.zeroValue57
 t131:=Tryz.underlying157
 a131:=Tryz.isAgg157
 z131:=Tryz.sizeOf157
 v131:=Tryz.zeroValue157
 t182:=Tryz.underlying152
 a182:=Tryz.isAgg152
 z182:=Tryz.sizeOf152
 v182:=Tryz.zeroValue152
 t183:=Tryz.underlying153
 a183:=Tryz.isAgg153
 z183:=Tryz.sizeOf153
 v183:=Tryz.zeroValue153
 t218:=Tryz.underlying180
 a218:=Tryz.isAgg180
 z218:=Tryz.sizeOf180
 v218:=Tryz.zeroValue180
 t222:=Tryz.underlying184
 a222:=Tryz.isAgg184
 z222:=Tryz.sizeOf184
 v222:=Tryz.zeroValue184
 t228:=Tryz.underlying198
 a228:=Tryz.isAgg198
 z228:=Tryz.sizeOf198
 v228:=Tryz.zeroValue198
 t229:=Tryz.underlying199
 a229:=Tryz.isAgg199
 z229:=Tryz.sizeOf199
 v229:=Tryz.zeroValue199 }
def lay_cpi_ren:Go.Shelf.Ren:=⟨fun | 20=>81 | n=>n,fun | 22=>29 | 3=>3 | 4=>4 | 0=>0 | n=>n,fun | n=>n⟩
theorem lay_cpi:Go.Proofs.Lays2.n20 Tryz.prog lay_cpi_ren:={
 mixed:=by kernel_rfl
 f20:=Tryz.func81.trans (congrArg some (by kernel_rfl))
 t0:=Tryz.underlying0
 a0:=Tryz.isAgg0
 z0:=Tryz.sizeOf0
 v0:=Tryz.zeroValue0
 t3:=Tryz.underlying3
 a3:=Tryz.isAgg3
 z3:=Tryz.sizeOf3
 v3:=Tryz.zeroValue3
 t4:=Tryz.underlying4
 a4:=Tryz.isAgg4
 z4:=Tryz.sizeOf4
 v4:=Tryz.zeroValue4
 t22:=Tryz.underlying29
 a22:=Tryz.isAgg29
 z22:=Tryz.sizeOf29
 v22:=Tryz.zeroValue29
 i3:=by kernel_rfl }
end Go.Proofs.YthgighljhoneeaaGreatDoor
end
section
open Go Mk
namespace Go.Proofs.YthgighljhoneeaaGreatDoor
set_option maxHeartbeats 16000000
attribute [local irreducible] Calls
attribute [local irreducible] matL
theorem iRows_eq (xs:List Int):iRows xs=intRows xs:=rfl
theorem cloneI_any {Γ : Gho} {S : List Res} {w : World} {v : Value} {xs : List Int} (hr : RepS Γ v 1 (intRows xs)) (hN : xs.length ≤ 1000000) (hw : Wd Γ S w) :
    Calls Tryz.prog 79 #[v] w fun e w'=>∃ v',e=.returned v'∧Wd Γ (.own v' 3 1 (intRows xs)::S) w':=by
  obtain ⟨a,n,c,rfl,hn,hnc,hc⟩:=hr.shape
  have hn:n=xs.length:=by simpa [intRows] using hn
  refine calls_of_W Tryz.func79 rfl rfl ?_
  repeat (first | refine byW ?_ | (refine byV ?_;intro w hw))
  refine W_cond rfl (fun h=>?_) (fun h=>?_)
  · repeat (first | refine byW ?_ | (refine byV ?_;intro w hw))
    have hx:xs=[]:=by
      cases a with
      | none=>
        cases xs with
        | nil=>rfl
        | cons x xs=>have:=(hr.rd hw).at_ (by simp [intRows]);cases this
      | some a=>cases h
    subst hx
    exact ⟨_,rfl,_,rfl,Wd.addNil hw⟩
  · repeat (first | refine byW ?_ | (refine byV ?_;intro w hw))
    refine lBuildSlice [] ?_
    intro a2 w hw
    repeat (first | refine byW ?_ | (refine byV ?_;intro w hw))
    refine lApp (i:=0) (rows2:=intRows xs) ?_ (hr.rd hw) rfl rfl hw rfl (ints_one xs) (by simpa [intRows] using hn)
    intro v' w hw
    repeat (first | refine byW ?_ | (refine byV ?_;intro w hw))
    exact ⟨_,rfl,v',rfl,by simpa using hw⟩
abbrev sortZ (l:List Int):List Int:=l.mergeSort fun x y=>decide (x≤y)
theorem sortZ_perm (l:List Int):(sortZ l).Perm l:=List.mergeSort_perm _ _
theorem sortZ_sorted (l:List Int):(sortZ l).Pairwise (·≤·):=by
 have:=List.pairwise_mergeSort (le:=fun x y:Int=>decide (x≤y)) (fun a b c h1 h2=>by simp at *;omega) (fun a b=>by simp;omega) l
 exact this.imp fun h=>by simpa using h
noncomputable def liveS (H:HwT) (L:List Int):List CoreT × Int:=
 if validS H≠0 then ([],validS H) else if ∃ id∈sortZ L,(findC H.Cores id).2=false then ([],57) else if (Go.Lib.compact (sortZ L)).length < (sortZ L).length then ([],56)
 else if sortZ L=[] then ([],64) else ((sortZ L).map fun id=>(findC H.Cores id).1,0)
theorem liveCores_any {Γ:Gho} {u:Value} {H:HwT} [hh:HwR Γ u H] {S:List Res} {w:World} {v:Value} {L:List Int} (hr:RepS Γ v 1 (intRows L)) (hN:L.length≤1000) (hw:Wd Γ S w) :
  Calls Tryz.prog 41 #[u,v] w fun e w'=>∃ v',e=.returned (.tuple #[v',.int .i64 (liveS H L).2])∧Wd Γ (.own v' 54 4 ((liveS H L).1.map enc)::S) w':=by
 obtain ⟨a1,n1,c1,a2,n2,c2,a3,n3,c3,a4,n4,c4,a5,n5,c5,cs,rfl,hcs,hok,hsz,r1,r2,r3,r4,r5⟩:=hh.h
 refine calls_of_W Tryz.func41 rfl rfl ?_
 repeat (first | refine byW ?_ | (refine byV ?_;intro w hw))
 refine lBox ?_
 intro b2 w hw
 have hw:Wd Γ (.blk b2 (hwC H a1 n1 c1 a2 n2 c2 a3 n3 c3 a4 n4 c4 a5 n5 c5)::S) w:=hw
 repeat (first | refine byW ?_ | (refine byV ?_;intro w hw))
 refine W_cond rfl (fun h=>?_) (fun h=>?_)
 ·have h:validS H≠0:=of_decide_eq_true h
  have hl:liveS H L=([],validS H):=by unfold liveS;rw [if_pos h]
  repeat (first | refine byW ?_ | (refine byV ?_;intro w hw))
  exact ⟨_,rfl,.slice none 0 0,by rw [hl];rfl,by rw [hl];exact Wd.addNil hw.drop⟩
 have hv:validS H=0:=by have:=of_decide_eq_false h;simpa using this
 clear h
 repeat (first | refine byW ?_ | (refine byV ?_;intro w hw))
 refine lCall ((cloneI_any hr (by omega) hw).mono fun e w hq=>?_)
 obtain ⟨v7,rfl,hw⟩:=hq
 refine ⟨_,rfl,?_⟩
 repeat (first | refine byW ?_ | (refine byV ?_;intro w hw))
 refine lCall ((Sort_int lay_sorti L v7 (i:=0) hw rfl (by omega)).mono fun e w hq=>?_)
 obtain ⟨rfl,hw⟩:=hq
 refine ⟨_,rfl,?_⟩
 have hw:Wd Γ (.own v7 3 1 (intRows (sortZ L))::.blk b2 (hwC H a1 n1 c1 a2 n2 c2 a3 n3 c3 a4 n4 c4 a5 n5 c5)::S) w:=hw
 have hlen:(sortZ L).length=L.length:=(sortZ_perm L).length_eq
 obtain ⟨a7,n7,c7,rfl,hn7,hnc7,hc7⟩:=hw.own_shape (i:=0) rfl
 have hn7:n7=(sortZ L).length:=by simpa [intRows] using hn7
 have hw:=Wd.addNil (a:=none) (E:=54) (sz:=4) hw
 have hI:liveS H L=if ∃ id∈sortZ L,(findC H.Cores id).2=false then ([],57) else if (Go.Lib.compact (sortZ L)).length < (sortZ L).length then ([],56) else if sortZ L=[] then ([],64) else ((sortZ L).map fun id=>(findC H.Cores id).1,0):=by
  unfold liveS;rw [if_neg (by simp [hv])]
 rw [← hlen] at hN
 generalize sortZ L=X at *
 repeat (first | refine byW ?_ | (refine byV ?_;intro w hw))
 refine W_loop (fun μ ρ w=>∃ (k:Nat) (v8:Value),μ+k=n7∧(∀ id∈X.take k,(findC H.Cores id).2=true)∧Has ρ [(2,.pointer (some ⟨b2,0,none⟩)),(7,.slice a7 n7 c7),(8,v8),(22,.slice a7 n7 c7),(23,.int .i64 n7),(24,.int .i64 k)]∧Wd Γ (.own v8 54 4 (((X.take k).map fun id=>(findC H.Cores id).1).map enc)::.own (.slice a7 n7 c7) 3 1 (intRows X)::.blk b2 (hwC H a1 n1 c1 a2 n2 c2 a3 n3 c3 a4 n4 c4 a5 n5 c5)::S) w) n7 ⟨0,.slice none 0 0,by omega,by simp,⟨rfl,rfl,rfl,rfl,rfl,rfl,trivial⟩,hw⟩ ?_
 clear hw
 rintro μ ρ w ⟨k,v8,hk,hall,hρ,hw⟩
 rw [hρ.eq]
 clear hρ
 obtain ⟨a8,n8,c8,rfl,hn8,hnc8,hc8⟩:=hw.own_shape (i:=0) rfl
 simp only [List.length_map,List.length_take] at hn8
 repeat (first | refine byW ?_ | (refine byV ?_;intro w hw))
 refine W_cond rfl (fun h=>?_) (fun h=>?_)
 ·have hkn:k < n7:=by have:=of_decide_eq_true h;omega
  clear h
  obtain ⟨id,hid⟩:=get_lt (l:=X) (k:=k) (by omega)
  have hrow:(intRows X)[k]? = some [.int .i64 id]:=by simp [intRows,hid]
  repeat (first | refine byW ?_ | (refine byV ?_;intro w hw))
  refine lAlloc ?_
  intro b11 w hw
  refine lStore ?_
  intro w hw
  have hw:Wd Γ (.blk b11 (.cells (enc (findC H.Cores id).1).toArray 54)::.own (.slice a8 n8 c8) 54 4 (((X.take k).map fun id=>(findC H.Cores id).1).map enc)::.own (.slice a7 n7 c7) 3 1 (intRows X)::.blk b2 (hwC H a1 n1 c1 a2 n2 c2 a3 n3 c3 a4 n4 c4 a5 n5 c5)::S) w:=hw
  repeat (first | refine byW ?_ | (refine byV ?_;intro w hw))
  refine W_cond rfl (fun h=>?_) (fun h=>?_)
  ·have h:(findC H.Cores id).2=false:=by simpa using h
   have hI2:liveS H L=([],57):=by rw [hI,if_pos ⟨id,List.mem_of_getElem? hid,h⟩]
   repeat (first | refine byW ?_ | (refine byV ?_;intro w hw))
   exact ⟨_,rfl,.slice none 0 0,by rw [hI2];rfl,by rw [hI2];exact Wd.addNil (hw.ds [0,0,0,0])⟩
  ·have h:(findC H.Cores id).2=true:=by simpa using h
   repeat (first | refine byW ?_ | (refine byV ?_;intro w hw))
   refine lBuildSlice [enc (findC H.Cores id).1] ?_
   intro a38 w hw
   refine lApp (i:=2) (rows2:=[enc (findC H.Cores id).1]) ?_ (hw.own_rd (i:=0) rfl) rfl rfl hw rfl (by simpa using encs_one [(findC H.Cores id).1]) rfl
   intro v8 w hw
   repeat (first | refine byW ?_ | (refine byV ?_;intro w hw))
   refine ⟨μ - 1,by omega,k+1,v8,by omega,?_,⟨rfl,rfl,rfl,rfl,rfl,rfl,trivial⟩,?_⟩
   ·rw [take_succ_of hid]
    intro q hq
    rcases List.mem_append.1 hq with hq | hq
    ·exact hall q hq
    ·simp at hq;subst hq;exact h
   ·have hw:Wd Γ (.own v8 54 4 (((X.take k).map fun id=>(findC H.Cores id).1).map enc++[enc (findC H.Cores id).1])::.own (.slice a7 n7 c7) 3 1 (intRows X)::.blk b2 (hwC H a1 n1 c1 a2 n2 c2 a3 n3 c3 a4 n4 c4 a5 n5 c5)::S) w:=hw.ds [0,0]
    rw [take_succ_of hid,List.map_append,List.map_append]
    exact hw
 have hkn:k=n7:=by have:=of_decide_eq_false h;omega
 subst hkn
 clear h hk
 rw [List.take_of_length_le (by omega)] at hw hall
 have hno:¬ ∃ id∈X,(findC H.Cores id).2=false:=fun ⟨id,h1,h2⟩=>by rw [hall id h1] at h2;cases h2
 rw [if_neg hno] at hI
 repeat (first | refine byW ?_ | (refine byV ?_;intro w hw))
 refine lCall ((Compact_int lay_cpi X _ (i:=1) hw rfl (by omega)).mono fun e w hq=>?_)
 obtain ⟨a43,c43,rfl,zs,hw⟩:=hq
 refine ⟨_,rfl,?_⟩
 have hw:Wd Γ (.own (.slice a8 n8 c8) 54 4 ((X.map fun id=>(findC H.Cores id).1).map enc)::.own (.slice a7 k c7) 3 1 (iRows zs)::.blk b2 (hwC H a1 n1 c1 a2 n2 c2 a3 n3 c3 a4 n4 c4 a5 n5 c5)::S) w:=hw
 repeat (first | refine byW ?_ | (refine byV ?_;intro w hw))
 refine W_cond rfl (fun h=>?_) (fun h=>?_)
 ·have h:((Go.Lib.compact X).length:Int) < n8:=of_decide_eq_true h
  have hI2:liveS H L=([],56):=by rw [hI,if_pos (by omega)]
  repeat (first | refine byW ?_ | (refine byV ?_;intro w hw))
  exact ⟨_,rfl,.slice none 0 0,by rw [hI2];rfl,by rw [hI2];exact Wd.addNil (hw.ds [0,0,0])⟩
 have h:¬ ((Go.Lib.compact X).length:Int) < n8:=of_decide_eq_false h
 rw [if_neg (by omega)] at hI
 clear h
 repeat (first | refine byW ?_ | (refine byV ?_;intro w hw))
 refine W_cond rfl (fun h=>?_) (fun h=>?_)
 ·have h:(n8:Int)=0:=of_decide_eq_true h
  have hI2:liveS H L=([],64):=by rw [hI,if_pos (List.eq_nil_of_length_eq_zero (by omega))]
  repeat (first | refine byW ?_ | (refine byV ?_;intro w hw))
  exact ⟨_,rfl,.slice none 0 0,by rw [hI2];rfl,by rw [hI2];exact Wd.addNil (hw.ds [0,0,0])⟩
 ·have h:¬ (n8:Int)=0:=of_decide_eq_false h
  rw [if_neg (fun e=>by rw [e] at hn7;simp at hn7;omega)] at hI
  repeat (first | refine byW ?_ | (refine byV ?_;intro w hw))
  exact ⟨_,rfl,_,by rw [hI];rfl,by rw [hI];exact hw.ds [1,1]⟩
end Go.Proofs.YthgighljhoneeaaGreatDoor
end
section
open Go Mk
namespace Go.Proofs.YthgighljhoneeaaGreatDoor
def dblN (len q:Nat):Nat→Nat→Nat
 | 0,n=>n
 | f+1,n=>if n < len∧n < q then dblN len q f (2 * n) else n
theorem dblN_pow {len e:Nat}:∀ (f j:Nat),j≤e→∃ k,j≤k∧k≤e∧dblN len (2 ^ e) f (2 ^ j)=2 ^ k
  | 0,j,h=>⟨j,Nat.le_refl _,h,rfl⟩
  | f+1,j,h=>by
    unfold dblN
    by_cases c:2 ^ j < len∧2 ^ j < 2 ^ e
    · rw [if_pos c]
      have hj:j < e:=(Nat.pow_lt_pow_iff_right (by omega)).1 c.2
      obtain ⟨k,h1,h2,h3⟩:=dblN_pow (len:=len) f (j+1) hj
      rw [Nat.pow_succ,Nat.mul_comm] at h3
      exact ⟨k,by omega,h2,h3⟩
    · rw [if_neg c];exact ⟨j,Nat.le_refl _,h,rfl⟩
def blkN (b e j i:Nat):Nat:=b+i * 2 ^ (e - j)
section
variable {b e j i k:Nat}
theorem blk_aligned (hb:b % 2 ^ e=0) (hj:j≤e):blkN b e j i % 2 ^ (e - j)=0:=by
 unfold blkN
 have h:2 ^ (e - j) ∣ 2 ^ e:=Nat.pow_dvd_pow 2 (by omega)
 have h2:2 ^ (e - j) ∣ b:=Nat.dvd_trans h (Nat.dvd_of_mod_eq_zero hb)
 exact Nat.mod_eq_zero_of_dvd ((Nat.dvd_add_iff_right h2).1 (Nat.dvd_mul_left _ _))
theorem blk_end (hj:j≤e) (hi:i < 2 ^ j):blkN b e j i+2 ^ (e - j)≤b+2 ^ e:=by
 unfold blkN
 have h1:(i+1) * 2 ^ (e - j)≤2 ^ j * 2 ^ (e - j):=Nat.mul_le_mul_right _ hi
 rw [← Nat.pow_add,show j+(e - j)=e by omega,Nat.add_mul,Nat.one_mul] at h1
 omega
theorem blk_apart (h:i < k):blkN b e j i+2 ^ (e - j)≤blkN b e j k:=by
 unfold blkN
 have h1:(i+1) * 2 ^ (e - j)≤k * 2 ^ (e - j):=Nat.mul_le_mul_right _ h
 rw [Nat.add_mul,Nat.one_mul] at h1
 omega
end
end Go.Proofs.YthgighljhoneeaaGreatDoor
end
section
open Go Mk
namespace Go.Proofs.YthgighljhoneeaaGreatDoor
set_option maxHeartbeats 16000000
attribute [local irreducible] Calls
structure RangeT where
 Base:Int
 Bits:Int
 deriving DecidableEq,Inhabited
instance:GoT RangeT where
 enc a:=[.int .i64 a.Base,.int .i64 a.Bits]
 inj a b h:=by cases a;cases b;simp at h;simp [h]
 ks:=[5,5]
 kinds a:=rfl
def brTab:List Int:=[0,1,56,2,57,49,28,3,61,58,42,50,38,29,17,4,62,47,59,36,45,43,51,22,53,39,33,30,24,18,12,5,63,55,48,27,60,41,37,16,46,35,44,21,52,32,23,11,54,26,40,15,34,20,31,10,25,14,19,9,13,8,7,6]
class BrG (Γ:Gho):Prop where
 h:∀ S w,Wd Γ S w→Lib.TabIs Tryz.prog w "math/bits.deBruijn64tab" .u8 brTab
theorem BrG.mono {Γ Γ':Gho} (h:BrG Γ) (hl:Γ.le Γ'):BrG Γ':=⟨fun S w hw=>h.h [] w (wd_less hl (wd_nil hw))⟩
theorem tab_keep {P:Program} {w w':World} {name:String} {k:IntKind} {zs:List Int} (h:Lib.TabIs P w name k zs) (hk:∀ (b:Nat) (o:Obj),w.heap[b]? = some o→w'.heap[b]? = some o):Lib.TabIs P w' name k zs:=by
  unfold Lib.TabIs World.var? at *
  cases hg:P.globalNamed name with
  | none=>rw [hg] at h;cases h
  | some g=>
    rw [hg] at h
    simp only [Option.bind_some] at h ⊢
    cases hb:w.heap[g]? with
    | none=>rw [hb] at h;cases h
    | some o=>
      rw [hb] at h
      rw [hk g o hb];exact h
theorem brG_all {w:World} (h:Lib.TabIs Tryz.prog w "math/bits.deBruijn64tab" .u8 brTab):BrG (allG w):=⟨fun S w' hw=>tab_keep h fun b o hb=>hw.imm b o hb⟩
def brIx (k:Nat):Nat:=(2 ^ k * 285870213051353865) % 2 ^ 64 / 2 ^ 58
theorem br_ok:(List.range 64).all (fun k=>decide (brIx k < 64) && decide (brTab.getD (brIx k) 0=(k:Int)))=true:=by decide +kernel
theorem br_and:(List.range 64).all (fun k=>decide (bitsZ .and .u64 ((2 ^ k:Nat):Int) (IntKind.u64.wrap (-((2 ^ k:Nat):Int)))=((2 ^ k:Nat):Int)))=true:=by decide +kernel
theorem br_mul:(List.range 64).all (fun k=>decide (Int.fdiv (IntKind.u64.wrap (((2 ^ k:Nat):Int) * 285870213051353865)) (2 ^ (min (58:Int).toNat IntKind.u64.bits))=((brIx k:Nat):Int)))=true:=by decide +kernel
theorem yv {P:Program} {o:Oper} {ρ:Fr} {w:World} {v v':Value} (h:Mk.Yields P o ρ w v) (e:v=v'):Mk.Yields P o ρ w v':=e ▸ h
theorem br_facts {k:Nat} (hk:k < 64):∃ (x y z:Int) (bi:Nat),x=((2 ^ k:Nat):Int)∧x≠0∧y=IntKind.u64.wrap (-x)∧bitsZ .and .u64 x y=x∧z=IntKind.u64.wrap (x * 285870213051353865)∧Int.fdiv z (2 ^ (min (58:Int).toNat IntKind.u64.bits))=(bi:Nat)∧bi < 64∧brTab.getD bi 0=(k:Int):=by
 have h1:=List.all_eq_true.1 br_ok k (by simpa using hk)
 have h2:=of_decide_eq_true (List.all_eq_true.1 br_and k (by simpa using hk))
 have h3:=of_decide_eq_true (List.all_eq_true.1 br_mul k (by simpa using hk))
 simp only [Bool.and_eq_true,decide_eq_true_eq] at h1
 have hp:0 < 2 ^ k:=Nat.pow_pos (by omega)
 exact ⟨_,_,_,brIx k,rfl,by omega,rfl,h2,rfl,h3,h1.1,h1.2⟩
theorem pg_tz {Γ:Gho} [hT:BrG Γ] {k:Nat} (hk:k < 64):PG Tryz.prog Γ 42 [.int .u64 ((2 ^ k:Nat):Int)] (.int .i64 k):=⟨fun S w hw=>by
 obtain ⟨x,y,z,bi,hx0,hx,hy,h2,hz,h3,hb,hbt⟩:=br_facts hk
 rw [← hx0]
 clear hx0
 have hc:=(hT.h S w hw).cell (g:=0) (by kernel_rfl) bi (by simpa [brTab] using hb)
 rw [hbt] at hc
 have hkw:IntKind.i64.wrap (k:Int)=k:=wrap_i64 (by omega) (by omega)
 clear hbt hk
 generalize (k:Int)=kk at *
 refine calls_of_W Tryz.func42 rfl rfl ?_
 repeat (first | refine byW ?_ | (refine byV ?_;intro w hw))
 refine W_cond_false (by show Value.bool (decide (x=0))=_;rw [decide_eq_false hx]) ?_
 repeat (first | refine byW ?_ | (refine byV ?_;intro w hw))
 refine lY (v:=.int .u64 y) ?_ (hy:=yv (y_negW rfl) (by rw [hy]))
 refine lY (v:=.int .u64 x) ?_ (hy:=yv (y_and rfl rfl) (by rw [h2]))
 refine lY (v:=.int .u64 z) ?_ (hy:=yv (y_mul rfl rfl) (by rw [hz]))
 refine lY (v:=.int .u64 (bi:Nat)) ?_ (hy:=yv (y_shr rfl rfl (by omega)) (by rw [h3]))
 refine lY (v:=.pointer (some ⟨0,0+((bi:Nat):Int).toNat * 1,none⟩)) ?_ (hy:=y_idxArr rfl rfl (by omega) (by omega))
 refine lY (v:=.int .u8 kk) ?_ (hy:=y_load1 rfl (by simpa using hc))
 refine lY (v:=.int .i64 kk) ?_ (hy:=yv (y_convI rfl) (by rw [hkw]))
 repeat (first | refine byW ?_ | (refine byV ?_;intro w hw))
 exact ⟨_,rfl,rfl,hw⟩⟩
structure MemP (m:MemT) (e:Nat):Prop where
 lo:12≤e
 hi:e≤40
 size:m.Size=((2 ^ e:Nat):Int)
 base:0≤m.Base
 al:m.Base.toNat % 2 ^ e=0
 fin:m.Base+m.Size≤1099511627776
theorem mem_pow {H:HwT} (hv:validS H=0) (hw:MemWide H) {m:MemT} (hm:m∈H.Mems):∃ e,MemP m e:=by
 obtain ⟨-, -,h3,h4, -⟩:=valid_all hv
 have hb:=hw m hm
 unfold regionsRB at h3
 simp only [Bool.and_eq_true] at h3
 have h5:=List.all_eq_true.1 h3.2.1 m hm
 unfold memRB inSpaceB at h5
 simp only [Bool.and_eq_true,decide_eq_true_eq] at h5
 obtain ⟨⟨-, -⟩,⟨h6,h7⟩,h8⟩:=h5
 have hwr:IntKind.u64.wrap (1099511627776 - m.Size)=1099511627776 - m.Size:=by simp [IntKind.wrap,IntKind.bits,IntKind.signed];omega
 rw [hwr] at h8
 unfold alignRB at h4
 simp only [Bool.and_eq_true] at h4
 have h9:=List.all_eq_true.1 h4.1 m hm
 unfold memAB at h9
 have hal:=align_eq (b:=m.Base) (s:=m.Size) hb ⟨h6,h7⟩
 rw [h9] at hal
 simp only [Bool.and_eq_true,decide_eq_true_eq] at hal
 have hw2:IntKind.u64.wrap (m.Size - 1)=m.Size - 1:=by simp [IntKind.wrap,IntKind.bits,IntKind.signed];omega
 have hs1:u64I m.Size:=by unfold u64I;omega
 have hs2:u64I (m.Size - 1):=by unfold u64I;omega
 have h10:=hal.1
 unfold powB at h10
 simp only [Bool.and_eq_true,decide_eq_true_eq] at h10
 rw [hw2,bitsU hs1 hs2] at h10
 obtain ⟨e,he⟩:=pow_of_and m.Size.toNat (by omega) (by
  have:(m.Size - 1).toNat=m.Size.toNat - 1:=by omega
  rw [this] at h10;omega)
 unfold u64I at hb
 have hsz:m.Size=((2 ^ e:Nat):Int):=by omega
 refine ⟨e,?_,?_,hsz,hb.1,?_,by omega⟩
 ·refine Classical.byContradiction fun hc=>?_
  have:2 ^ e < 2 ^ 12:=Nat.pow_lt_pow_right (by omega) (by omega)
  omega
 ·refine Classical.byContradiction fun hc=>?_
  have:2 ^ 40 < 2 ^ e:=Nat.pow_lt_pow_right (by omega) (by omega)
  omega
 ·have h11:=hal.2
  rw [Int.tmod_eq_emod_of_nonneg hb.1,hsz] at h11
  have:m.Base=((m.Base.toNat:Nat):Int):=by omega
  rw [this,← Int.natCast_emod] at h11
  omega
def candR (f:Nat→Int):Nat→Int × List Nat
 | 0=>(-1,[])
 | k+1=>if (candR f k).1 < 0∨f k < (candR f k).1 then (f k,[k]) else if f k=(candR f k).1 then ((candR f k).1,(candR f k).2++[k]) else candR f k
theorem candR_ok {f:Nat→Int}:∀ k,(∀ i,i < k→0≤f i)→(k=0∧candR f k=(-1,[]))∨(0 < k∧(∀ i,i < k→(candR f k).1≤f i)∧(candR f k).2=(List.range k).filter (fun i=>decide (f i=(candR f k).1))∧0 < (candR f k).2.length∧0≤(candR f k).1)
  | 0,_=>.inl ⟨rfl,rfl⟩
  | k+1,hf=>by
    right
    refine ⟨by omega,?_⟩
    rcases candR_ok k (fun i hi=>hf i (by omega)) with ⟨h1,h2⟩ | ⟨h1,h2,h3,h4,h5⟩
    · subst h1
      have:candR f (0+1)=(f 0,[0]):=by rw [candR,h2];simp
      rw [this]
      exact ⟨fun i hi=>by rw [show i=0 by omega];exact Int.le_refl _,by simp,by simp,hf 0 (by omega)⟩
    · rw [candR]
      by_cases c1:(candR f k).1 < 0∨f k < (candR f k).1
      · rw [if_pos c1]
        have c2:f k < (candR f k).1:=by omega
        refine ⟨fun i hi=>?_,?_,by simp,hf k (by omega)⟩
        · by_cases e:i=k
          · subst e;exact Int.le_refl _
          · have:=h2 i (by omega);simp only;omega
        · rw [List.range_succ,List.filter_append]
          have:(List.range k).filter (fun i=>decide (f i=f k))=[]:=List.filter_eq_nil_iff.2 fun i hi=>by
            have:=h2 i (by simpa using hi)
            simp;omega
          simp [this]
      · rw [if_neg c1]
        by_cases c2:f k=(candR f k).1
        · rw [if_pos c2]
          refine ⟨fun i hi=>?_,?_,by simp,h5⟩
          · by_cases e:i=k
            · subst e;simp only;omega
            · exact h2 i (by omega)
          · rw [List.range_succ,List.filter_append,← h3]
            simp [c2]
        · rw [if_neg c2]
          refine ⟨fun i hi=>?_,?_,h4,h5⟩
          · by_cases e:i=k
            · subst e;omega
            · exact h2 i (by omega)
          · rw [List.range_succ,List.filter_append,← h3]
            simp [c2]
theorem candR_lt {f:Nat→Int}:∀ k,∀ i∈(candR f k).2,i < k
  | 0,i,h=>by simp [candR] at h
  | k+1,i,h=>by
    rw [candR] at h
    split at h
    · simp at h;omega
    · split at h
      · rcases List.mem_append.1 h with h | h
        · have:=candR_lt k i h;omega
        · simp at h;omega
      · have:=candR_lt k i h;omega
theorem candR_len {f:Nat→Int}:∀ k,(candR f k).2.length≤k
  | 0=>by simp [candR]
  | k+1=>by
    rw [candR]
    split
    · simp
    · have:=candR_len (f:=f) k
      split
      · simp;omega
      · omega
end Go.Proofs.YthgighljhoneeaaGreatDoor
end
section
open Go Mk
namespace Go.Proofs.YthgighljhoneeaaGreatDoor
set_option maxHeartbeats 32000000
attribute [local irreducible] Calls
attribute [local irreducible] matL
abbrev Blk:=Nat × RangeT
def costI (D:Mx) (cs:List CoreT) (m:MemT) (i:Nat):Int:=costM D (cs.getD i default) m
def nearL (D:Mx) (cs:List CoreT) (m:MemT):List Nat:=(candR (costI D cs m) cs.length).2
def cutN (m:MemT) (len:Nat):Nat:=dblN len (m.Size.toNat / 4096) 64 1
def blkOf (D:Mx) (cs:List CoreT) (m:MemT):List Blk:=
 (List.range (cutN m (nearL D cs m).length)).map fun i=>((nearL D cs m).getD (i % (nearL D cs m).length) 0,⟨m.Base+i * ((m.Size.toNat / cutN m (nearL D cs m).length:Nat):Int),((m.Size.toNat / cutN m (nearL D cs m).length).log2:Nat)⟩)
def ofC (k:Nat) (l:List Blk):List RangeT:=(l.filter fun p=>decide (p.1=k)).map (·.2)
def bls (n:Nat) (l:List Blk):List (List RangeT):=(List.range n).map fun k=>ofC k l
theorem ofC_snoc {k j:Nat} {l:List Blk} {r:RangeT}:ofC k (l++[(j,r)])=if j=k then ofC k l++[r] else ofC k l:=by
 unfold ofC
 rw [List.filter_append,List.map_append]
 by_cases e:j=k
 ·rw [if_pos e,List.filter_cons_of_pos (by simpa using e)];simp
 ·rw [if_neg e,List.filter_cons_of_neg (by simpa using e)];simp
theorem bls_set {n k:Nat} {l:List Blk} {r:RangeT}:(bls n l).set k (ofC k l++[r])=bls n (l++[(k,r)]):=by
 unfold bls
 refine List.ext_getElem? fun i=>?_
 rw [List.getElem?_set]
 by_cases h:i < n
 ·rw [List.getElem?_map,List.getElem?_map,List.getElem?_range h]
  simp only [Option.map_some,List.length_map,List.length_range]
  rw [ofC_snoc]
  by_cases e:k=i
  ·subst e;rw [if_pos rfl,if_pos h,if_pos rfl]
  ·rw [if_neg e,if_neg e]
 ·rw [List.getElem?_eq_none (by simpa using Nat.le_of_not_lt h),List.getElem?_eq_none (by simpa using Nat.le_of_not_lt h)]
  split
  ·simp;omega
  ·rfl
def poolsR (cs:List CoreT) (vs:List Value):List (List Value):=(cs.zip vs).map fun p=>[.int .i64 p.1.ID,p.2]
def poolsI (vs:List Value) (B:List (List RangeT)):List (Value × List (List Value)):=(vs.zip B).map fun p=>(p.1,p.2.map enc)
theorem zip_get {α β:Type} {xs:List α} {ys:List β} {k:Nat} {x:α} {y:β} (h1:xs[k]? = some x) (h2:ys[k]? = some y):(xs.zip ys)[k]? = some (x,y):=List.getElem?_zip_eq_some.2 ⟨h1,h2⟩
theorem poolsR_get {cs:List CoreT} {vs:List Value} {k:Nat} {c:CoreT} {v:Value} (h1:cs[k]? = some c) (h2:vs[k]? = some v):(poolsR cs vs)[k]? = some [.int .i64 c.ID,v]:=by
 unfold poolsR
 rw [List.getElem?_map,zip_get h1 h2];rfl
theorem poolsI_get {vs:List Value} {B:List (List RangeT)} {k:Nat} {v:Value} {b:List RangeT} (h1:vs[k]? = some v) (h2:B[k]? = some b):(poolsI vs B)[k]? = some (v,b.map enc):=by
 unfold poolsI
 rw [List.getElem?_map,zip_get h1 h2];rfl
theorem zip_set {α β γ:Type} {f:α × β→γ} {xs:List α} {ys:List β} {k:Nat} {x:α} {y:β}:((xs.zip ys).map f).set k (f (x,y))=((xs.set k x).zip (ys.set k y)).map f:=by
  induction xs generalizing ys k with
  | nil=>simp
  | cons a xs ih=>
    cases ys with
    | nil=>cases k <;> simp
    | cons b ys=>
      cases k with
      | zero=>simp
      | succ k=>simp [ih]
theorem set_same {α:Type} {xs:List α} {k:Nat} {x:α} (h:xs[k]? = some x):xs.set k x=xs:=by
 obtain ⟨h1,h2⟩:=List.getElem?_eq_some_iff.1 h
 rw [← h2];exact List.set_getElem_self h1
theorem poolsR_set {cs:List CoreT} {vs:List Value} {k:Nat} {c:CoreT} {v:Value} (h:cs[k]? = some c):(poolsR cs vs).set k [.int .i64 c.ID,v]=poolsR cs (vs.set k v):=by
 have:=zip_set (f:=fun p:CoreT × Value=>[Value.int .i64 p.1.ID,p.2]) (xs:=cs) (ys:=vs) (k:=k) (x:=c) (y:=v)
 rw [set_same h] at this
 exact this
theorem poolsI_set {vs:List Value} {B:List (List RangeT)} {k:Nat} {v:Value} {b:List RangeT}:(poolsI vs B).set k (v,b.map enc)=poolsI (vs.set k v) (B.set k b):=
 zip_set (f:=fun p:Value × List RangeT=>(p.1,p.2.map enc)) (x:=v) (y:=b)
theorem inn_nil {Γ:Gho} {S:List Res} {w:World} {E sz:Nat}:∀ n:Nat,Wd Γ S w→Wd Γ (inn E sz (List.replicate n (.slice none 0 0,[]))++S) w
  | 0,h=>h
  | n+1,h=>by
    have:=Wd.addNil (a:=none) (E:=E) (sz:=sz) (inn_nil (E:=E) (sz:=sz) n h)
    exact this
theorem inn_openA {Γ:Gho} {A S:List Res} {w:World} {E sz k:Nat} {L:List (Value × List (List Value))} {p:Value × List (List Value)} (h:L[k]? = some p) (hw:Wd Γ (A++(inn E sz L++S)) w):Wd Γ (.own p.1 E sz p.2::(A++(inn E sz (L.eraseIdx k)++S))) w:=
 (hw.perm (((inn_perm h).append_right S).append_left A)).unrot
theorem inn_closeA {Γ:Gho} {A S:List Res} {w:World} {E sz k:Nat} {L:List (Value × List (List Value))} {q:Value × List (List Value)} (hk:k < L.length) (hw:Wd Γ (.own q.1 E sz q.2::(A++(inn E sz (L.eraseIdx k)++S))) w):Wd Γ (A++(inn E sz (L.set k q)++S)) w:=by
 have h1:(L.set k q)[k]? = some q:=by simp [hk]
 have h2:=inn_perm (E:=E) (sz:=sz) h1
 rw [List.eraseIdx_set_eq] at h2
 exact hw.rot.perm (((h2.append_right S).append_left A).symm)
theorem poolsI_nil {n:Nat}:poolsI (List.replicate n (.slice none 0 0)) (bls n [])=List.replicate n (.slice none 0 0,[]):=by
 unfold poolsI
 refine List.ext_getElem? fun i=>?_
 rw [List.getElem?_map,List.getElem?_replicate]
 by_cases h:i < n
 ·rw [zip_get (x:=Value.slice none 0 0) (y:=([]:List RangeT)) (by rw [List.getElem?_replicate,if_pos h]) (by unfold bls;rw [List.getElem?_map,List.getElem?_range h];rfl),if_pos h];rfl
 ·rw [List.getElem?_eq_none (by simp [bls];omega),if_neg h];rfl
def firstR (cs:List CoreT) (k:Nat):List (List Value):=(cs.take k).map (fun c=>[.int .i64 c.ID,.slice none 0 0])++List.replicate (cs.length - k) [.int .i64 0,.slice none 0 0]
theorem firstR_get {cs:List CoreT} {k:Nat} (h:k < cs.length):(firstR cs k)[k]? = some [.int .i64 0,.slice none 0 0]:=by
 unfold firstR
 rw [List.getElem?_append_right (by simp;omega),List.getElem?_replicate,if_pos (by simp;omega)]
theorem firstR_set {cs:List CoreT} {k:Nat} {c:CoreT} (h:cs[k]? = some c):(firstR cs k).set k [.int .i64 c.ID,.slice none 0 0]=firstR cs (k+1):=by
 obtain ⟨hk, -⟩:=List.getElem?_eq_some_iff.1 h
 unfold firstR
 rw [List.set_append_right _ _ (by simp;omega),take_succ_of h,List.map_append,show cs.length - k=(cs.length - (k+1))+1 by omega,List.replicate_succ]
 simp [Nat.min_eq_left (Nat.le_of_lt hk)]
theorem firstR_end {cs:List CoreT}:firstR cs cs.length=poolsR cs (List.replicate cs.length (.slice none 0 0)):=by
 unfold firstR poolsR
 simp only [List.take_length,Nat.sub_self,List.replicate_zero,List.append_nil]
 refine List.ext_getElem? fun i=>?_
 rw [List.getElem?_map,List.getElem?_map]
 by_cases h:i < cs.length
 ·rw [zip_get (x:=cs[i]) (y:=Value.slice none 0 0) (List.getElem?_eq_getElem h) (by rw [List.getElem?_replicate,if_pos h]),List.getElem?_eq_getElem h];rfl
 ·rw [List.getElem?_eq_none (by omega),List.getElem?_eq_none (by simp;omega)];rfl
structure Sorted (n:Nat) (l:List Blk) (B:List (List RangeT)):Prop where
 len:B.length=n
 perm:∀ (k:Nat) (b:List RangeT),B[k]? = some b→b.Perm (ofC k l)
 asc:∀ (k:Nat) (b:List RangeT),B[k]? = some b→b.Pairwise fun x y=>x.Base≤y.Base
theorem dbl_stop {len q f n:Nat} (h:¬ (n < len∧n < q)):dblN len q f n=n:=by
 cases f with
 | zero=>rfl
 | succ f=>unfold dblN;rw [if_neg h]
theorem cut_pow {m:MemT} {e:Nat} (hm:MemP m e) (len:Nat):∃ j,j≤e - 12∧cutN m len=2 ^ j∧m.Size.toNat / cutN m len=2 ^ (e - j):=by
 have h1:=hm.lo
 have h2:m.Size.toNat=2 ^ e:=by rw [hm.size];exact Int.toNat_natCast _
 have h3:m.Size.toNat / 4096=2 ^ (e - 12):=by rw [h2,show (4096:Nat)=2 ^ 12 from rfl,Nat.pow_div (by omega) (by omega)]
 obtain ⟨j, -,hj,he⟩:=dblN_pow (len:=len) (e:=e - 12) 64 0 (by omega)
 refine ⟨j,hj,?_,?_⟩
 ·unfold cutN;rw [h3];exact he
 ·unfold cutN;rw [h3,show (1:Nat)=2 ^ 0 from rfl,he,h2,Nat.pow_div (by omega) (by omega)]
theorem cmpR_any {Γ:Gho} {S:List Res} {w:World} (a b:RangeT) (hw:Wd Γ S w):Calls Tryz.prog 44 #[.agg (enc a).toArray,.agg (enc b).toArray] w fun e w'=>e=.returned (.int .i64 (cI a.Base b.Base))∧Wd Γ S w':=by
 refine calls_of_W Tryz.func44 rfl rfl ?_
 repeat (first | refine byW ?_ | (refine byV ?_;intro w hw))
 refine lBox ?_
 intro b2 w hw
 refine lBox ?_
 intro b3 w hw
 have hw:Wd Γ (.blk b3 (.cells (enc b).toArray 68)::.blk b2 (.cells (enc a).toArray 68)::S) w:=hw
 repeat (first | refine byW ?_ | (refine byV ?_;intro w hw))
 exact ⟨_,rfl,rfl,hw.ds [0,0]⟩
end Go.Proofs.YthgighljhoneeaaGreatDoor
end
