/- Texts of this proof, one behind another. -/
import Derived.Test.YtfoggcgogafocaaGreatM5
import Derived.Test.YtfoggcgogafocaaGreatM4
import Derived.Test.YtfoggcgogafocaaGreatM2
import Derived.Test.YtfoggcgogafocaaGreatM3
import Derived.Shelf.Strconv.Itoa4
import Derived.Room.Shelf.Join48
import Derived.Shelf.Slices.In.SortNone
import Derived.Shelf.Slices.CompactI
import Derived.Sort.EveryDepth
import Derived.Laws.CopyRow
set_option linter.unusedVariables false
set_option linter.unusedSimpArgs false
section
open Go Mk
namespace Go.Proofs.YtfoggcgogafocaaGreat
set_option maxHeartbeats 32000000
attribute [local irreducible] Calls
attribute [local irreducible] matL
def initM(i k:Int):Mx:=fun a b=>if a<i then (if a=b then 0 else -1) else if a=i∧b<k then -1 else 0
theorem valid_endsR{H:HwT}(h:validS H=0){l:LinkT}(hl:l∈H.Links):l.A≠l.B:=by
 obtain⟨-,h2,h3,-⟩:=valid_all h
 unfold coresRB at h3;simp only[Bool.and_eq_true]at h3
 have:=List.all_eq_true.1 h3.1.2.2 l hl
 unfold linkRB at this;simp only[Bool.and_eq_true,decide_eq_true_eq]at this
 exact this.1.2
theorem initM_row{i k:Int}:matL (updM (initM i k) i k (-1))=matL (initM i (k+1)):=matL_congr fun a b _ _=>by
 unfold updM initM;by_cases e:a=i∧b=k
 ·rw[if_pos e,if_neg (by omega),if_pos (by omega)]
 ·rw[if_neg e];by_cases e1:a<i
  ·rw[if_pos e1,if_pos e1]
  ·rw[if_neg e1,if_neg e1];by_cases e2:a=i∧b<k
   ·rw[if_pos e2,if_pos (by omega)]
   ·rw[if_neg e2,if_neg (by omega)]
theorem initM_diag{i:Int}:matL (updM (initM i 64) i i 0)=matL (initM (i+1) 0):=matL_congr fun a b ha hb=>by
 unfold nIn at ha hb;unfold updM initM;by_cases e:a=i∧b=i
 ·rw[if_pos e,if_pos (show a<i+1 by omega),if_pos (show a=b by omega)]
 ·rw[if_neg e];by_cases e1:a<i
  ·rw[if_pos e1,if_pos (show a<i+1 by omega)]
  ·rw[if_neg e1];by_cases e2:a=i
   ·rw[if_pos (show a=i∧b<64 by omega),if_pos (show a<i+1 by omega),if_neg (show ¬a=b by omega)]
   ·rw[if_neg (show ¬(a=i∧b<64) by omega),if_neg (show ¬a<i+1 by omega),if_neg (show ¬(a=i+1∧b<0) by omega)]
theorem initM_start:matL (fun _ _=>0)=matL (initM 0 0):=matL_congr fun a b ha hb=>by
 unfold nIn at ha hb;unfold initM;rw[if_neg (by omega),if_neg (by omega)]
theorem initM_end:matL (initM 64 0)=matL (linkD []):=matL_congr fun a b ha hb=>by
 unfold nIn at ha hb;unfold initM linkD;rw[if_pos (by omega)];rfl
noncomputable def dstM(H:HwT):Mx:=fun a b=>dstI (nbrL H.Links) a b
set_option maxRecDepth 8000 in
theorem Matrix_any{Γ:Gho}{u:Value}{H:HwT}[hh:HwR Γ u H](hv:validS H=0){S:List Res}{w:World}(hw:Wd Γ S w) :
  Calls Tryz.prog 44 #[u] w fun e w'=>e=.returned (.agg (matL (dstM H)).toArray)∧Wd Γ S w':=by
 obtain⟨a1,n1,c1,a2,n2,c2,a3,n3,c3,a4,n4,c4,a5,n5,c5,cs,rfl,hcs,hok,hsz,r1,r2,r3,r4,r5⟩:=hh.h;obtain⟨hn3,hm3,hx3⟩:=rep_facts r3
 simp only[List.length_map]at hn3
 have hLk:=valid_links hv
 have hLM:LinkM H.Links (linkD H.Links):=linkD_ok _ rfl (fun l hl=>⟨valid_endsR hv hl,(lats_ok hLk l hl).1⟩) (valid_keys hv)
 refine calls_of_WC Tryz.func44 rfl rfl ?_
 refine byG ?_;refine lBox ?_;intro b1 w hw;refine lAlloc ?_;intro b2 w hw;rw[matL_zero]at hw;have hw:Wd Γ (.blk b2 (.cells (matL (fun _ _=>0)).toArray 116)::.blk b1 (hwC H a1 n1 c1 a2 n2 c2 a3 n3 c3 a4 n4 c4 a5 n5 c5)::S) w:=hw
 refine byG ?_;refine lAlloc ?_;intro b3 w hw;rw[matL_zero]at hw;have hw:Wd Γ (.blk b3 (.cells (matL (fun _ _=>0)).toArray 116)::.blk b2 (.cells (matL (fun _ _=>0)).toArray 116)::.blk b1 (hwC H a1 n1 c1 a2 n2 c2 a3 n3 c3 a4 n4 c4 a5 n5 c5)::S) w:=hw
 rw[initM_start]at hw;refine byG ?_;have hBW:Wd Γ (.blk b3 (.cells (matL (initM 0 0)).toArray 116)::.blk b2 (.cells (matL (fun _ _=>0)).toArray 116)::.blk b1 (hwC H a1 n1 c1 a2 n2 c2 a3 n3 c3 a4 n4 c4 a5 n5 c5)::S) w:=by rw[initM_start];exact hw
 clear hw;refine W_loop (fun μ ρ w=>∃i:Nat,μ+i=64∧Has ρ [(1,.pointer (some ⟨b1,0,none⟩)),(2,.pointer (some ⟨b2,0,none⟩)),(3,.pointer (some ⟨b3,0,none⟩)),(4,.int .i64 i)]∧Wd Γ (.blk b3 (.cells (matL (initM i 0)).toArray 116)::.blk b2 (.cells (matL (fun _ _=>0)).toArray 116)::.blk b1 (hwC H a1 n1 c1 a2 n2 c2 a3 n3 c3 a4 n4 c4 a5 n5 c5)::S) w) 64 ⟨0,by omega,⟨rfl,rfl,rfl,rfl,trivial⟩,hBW⟩ ?_
 clear hBW;rintro μ ρ w ⟨i,hi,hρ,hw⟩
 rw[hρ.eq];clear hρ;refine byG ?_;refine W_cond rfl (fun h=>?_) (fun h=>?_)
 ·have hin:i<64:=by have:=of_decide_eq_true h;omega
  clear h;have hiI:nIn (i:Int):=by unfold nIn;omega
  refine byG ?_;refine W_loop (fun μ2 ρ w=>∃k:Nat,μ2+k=64∧Has ρ [(1,.pointer (some ⟨b1,0,none⟩)),(2,.pointer (some ⟨b2,0,none⟩)),(3,.pointer (some ⟨b3,0,none⟩)),(4,.int .i64 i),(5,.int .i64 k)]∧Wd Γ (.blk b3 (.cells (matL (initM i k)).toArray 116)::.blk b2 (.cells (matL (fun _ _=>0)).toArray 116)::.blk b1 (hwC H a1 n1 c1 a2 n2 c2 a3 n3 c3 a4 n4 c4 a5 n5 c5)::S) w) 64 ⟨0,by omega,⟨rfl,rfl,rfl,rfl,rfl,trivial⟩,hw⟩ ?_
  clear hw;rintro μ2 ρ w ⟨k,hk,hρ,hw⟩
  rw[hρ.eq];clear hρ;refine byG ?_;refine W_cond rfl (fun h=>?_) (fun h=>?_)
  ·have hkn:k<64:=by have:=of_decide_eq_true h;omega
   clear h;have hkI:nIn (k:Int):=by unfold nIn;omega
   refine byG ?_;refine lStore (i:=0) (o:=0+(i:Int).toNat*64+(k:Int).toNat*1) (ho:=by rw[List.size_toArray,matL_len];omega) ?_
   intro w hw;have hw:Wd Γ (.blk b3 (.cells (putCells (matL (initM i k)).toArray (0+(i:Int).toNat*64+(k:Int).toNat*1) [.int .i64 (-1)]) 116)::.blk b2 (.cells (matL (fun _ _=>0)).toArray 116)::.blk b1 (hwC H a1 n1 c1 a2 n2 c2 a3 n3 c3 a4 n4 c4 a5 n5 c5)::S) w:=hw
   rw[putM _ hiI hkI,initM_row]at hw;refine byG ?_;exact⟨μ2-1,by omega,k+1,by omega,⟨rfl,rfl,rfl,rfl,rfl,trivial⟩,hw⟩
  ·have hkn:k=64:=by have:=of_decide_eq_false h;omega
   subst hkn;clear h;have hw:Wd Γ (.blk b3 (.cells (matL (initM i 64)).toArray 116)::.blk b2 (.cells (matL (fun _ _=>0)).toArray 116)::.blk b1 (hwC H a1 n1 c1 a2 n2 c2 a3 n3 c3 a4 n4 c4 a5 n5 c5)::S) w:=hw
   refine byG ?_;refine lStore (i:=0) (o:=0+(i:Int).toNat*64+(i:Int).toNat*1) (ho:=by rw[List.size_toArray,matL_len];omega) ?_
   intro w hw;have hw:Wd Γ (.blk b3 (.cells (putCells (matL (initM i 64)).toArray (0+(i:Int).toNat*64+(i:Int).toNat*1) [.int .i64 0]) 116)::.blk b2 (.cells (matL (fun _ _=>0)).toArray 116)::.blk b1 (hwC H a1 n1 c1 a2 n2 c2 a3 n3 c3 a4 n4 c4 a5 n5 c5)::S) w:=hw
   rw[putM _ hiI hiI,initM_diag]at hw;refine byG ?_;exact⟨μ-1,by omega,i+1,by omega,⟨rfl,rfl,rfl,rfl,trivial⟩,hw⟩
 have hin:i=64:=by have:=of_decide_eq_false h;omega
 subst hin;clear h hi;have hw:Wd Γ (.blk b3 (.cells (matL (initM 64 0)).toArray 116)::.blk b2 (.cells (matL (fun _ _=>0)).toArray 116)::.blk b1 (hwC H a1 n1 c1 a2 n2 c2 a3 n3 c3 a4 n4 c4 a5 n5 c5)::S) w:=hw
 rw[initM_end,show ([]:List LinkT)=H.Links.take 0 from rfl]at hw
 refine byG ?_;refine W_loop (fun μ ρ w=>∃k:Nat,μ+k=n3∧Has ρ [(1,.pointer (some ⟨b1,0,none⟩)),(2,.pointer (some ⟨b2,0,none⟩)),(3,.pointer (some ⟨b3,0,none⟩)),(6,.int .i64 k)]∧Wd Γ (.blk b3 (.cells (matL (linkD (H.Links.take k))).toArray 116)::.blk b2 (.cells (matL (fun _ _=>0)).toArray 116)::.blk b1 (hwC H a1 n1 c1 a2 n2 c2 a3 n3 c3 a4 n4 c4 a5 n5 c5)::S) w) n3 ⟨0,by omega,⟨rfl,rfl,rfl,rfl,trivial⟩,hw⟩ ?_
 clear hw;rintro μ ρ w ⟨k,hk,hρ,hw⟩
 rw[hρ.eq];clear hρ;refine byG ?_;refine W_cond rfl (fun h=>?_) (fun h=>?_)
 ·have hkn:k<n3:=by have:=of_decide_eq_true h;omega
  clear h;obtain⟨l,hl⟩:=get_lt (l:=H.Links) (k:=k) (by omega)
  obtain⟨hA0,hA1,hB0,hB1,-⟩:=hLk.2 l (List.mem_of_getElem? hl)
  have hAI:nIn l.A:=⟨hA0,hA1⟩
  have hBI:nIn l.B:=⟨hB0,hB1⟩
  have hsn:=linkD_snoc hl
  generalize linkD (H.Links.take k)=D at *
  refine byG ?_;refine lAlloc ?_;intro b7 w hw;refine lStore ?_;intro w hw;have hw:Wd Γ ([.blk b7 (.cells (enc l).toArray 79)]++(.blk b3 (.cells (matL (D)).toArray 116)::.blk b2 (.cells (matL (fun _ _=>0)).toArray 116)::.blk b1 (hwC H a1 n1 c1 a2 n2 c2 a3 n3 c3 a4 n4 c4 a5 n5 c5)::S)) w:=hw
  refine byG ?_;refine W_mix1 [.blk b7 (.cells (enc l).toArray 79)] _ [[],[],[],[],[],[],[],[],[0]] [[],[],[],[],[],[],[],[],[0]] hw ?_
  refine byM ?_;refine mStoreC (o:=0+l.A.toNat*64+l.B.toNat*1) (ho:=by rw[List.size_toArray,matL_len];omega) ?_
  refine mEnd0 ?_
  clear hw;intro w hw;have hw:Wd Γ ([.blk b7 (.cells (enc l).toArray 79)]++((.blk b3 (.cells (putCells (matL D).toArray (0+l.A.toNat*64+l.B.toNat*1) [.int .i64 l.Latency]) 116)::.blk b2 (.cells (matL (fun _ _=>0)).toArray 116)::.blk b1 (hwC H a1 n1 c1 a2 n2 c2 a3 n3 c3 a4 n4 c4 a5 n5 c5)::S)++[])) w:=hw
  rw[putM _ hAI hBI,List.append_nil]at hw;refine byG ?_;refine W_mix1 [.blk b7 (.cells (enc l).toArray 79)] _ [[],[],[],[],[],[],[],[],[0]] [[],[],[],[],[],[],[],[],[0]] hw ?_
  refine byM ?_;refine mStoreC (o:=0+l.B.toNat*64+l.A.toNat*1) (ho:=by rw[List.size_toArray,matL_len];omega) ?_
  refine mEnd0 ?_
  clear hw;intro w hw;have hw:Wd Γ ([.blk b7 (.cells (enc l).toArray 79)]++((.blk b3 (.cells (putCells (matL (updM D l.A l.B l.Latency)).toArray (0+l.B.toNat*64+l.A.toNat*1) [.int .i64 l.Latency]) 116)::.blk b2 (.cells (matL (fun _ _=>0)).toArray 116)::.blk b1 (hwC H a1 n1 c1 a2 n2 c2 a3 n3 c3 a4 n4 c4 a5 n5 c5)::S)++[])) w:=hw
  rw[putM _ hBI hAI,List.append_nil]at hw;have hw:Wd Γ (.blk b3 (.cells (matL (linkStep D l)).toArray 116)::.blk b2 (.cells (matL (fun _ _=>0)).toArray 116)::.blk b1 (hwC H a1 n1 c1 a2 n2 c2 a3 n3 c3 a4 n4 c4 a5 n5 c5)::S) w:=hw.drop
  rw[hsn]at hw;refine byG ?_;exact⟨μ-1,by omega,k+1,by omega,⟨rfl,rfl,rfl,rfl,trivial⟩,hw⟩
 have hkn:¬k<n3:=by have:=of_decide_eq_false h;omega
 rw[List.take_of_length_le (by omega)]at hw
 clear h hkn hk;have hF0:FW (linkD H.Links) (linkD H.Links) 0 0 0:=fun a b ha hb=>by
  unfold nIn at ha hb;rw[if_neg (by omega)]
  exact OkM.zero hLM.neg ha hb
 refine byG ?_;refine W_loop (fun μ ρ w=>∃(m:Nat) (D:Mx),μ+m=64∧FW (linkD H.Links) D m 0 0∧Has ρ [(2,.pointer (some ⟨b2,0,none⟩)),(3,.pointer (some ⟨b3,0,none⟩)),(8,.int .i64 m)]∧Wd Γ (.blk b3 (.cells (matL (D)).toArray 116)::.blk b2 (.cells (matL (fun _ _=>0)).toArray 116)::.blk b1 (hwC H a1 n1 c1 a2 n2 c2 a3 n3 c3 a4 n4 c4 a5 n5 c5)::S) w) 64 ⟨0,_,by omega,hF0,⟨rfl,rfl,rfl,trivial⟩,hw⟩ ?_
 clear hw hF0;rintro μ ρ w ⟨m,D,hm,hF,hρ,hw⟩
 rw[hρ.eq];clear hρ;refine byG ?_;refine W_cond rfl (fun h=>?_) (fun h=>?_)
 ·have hmn:m<64:=by have:=of_decide_eq_true h;omega
  clear h;have hmI:nIn (m:Int):=by unfold nIn;omega
  refine byG ?_;refine W_loop (fun μ2 ρ w=>∃(i:Nat) (D:Mx),μ2+i=64∧FW (linkD H.Links) D m i 0∧Has ρ [(2,.pointer (some ⟨b2,0,none⟩)),(3,.pointer (some ⟨b3,0,none⟩)),(8,.int .i64 m),(9,.int .i64 i)]∧Wd Γ (.blk b3 (.cells (matL (D)).toArray 116)::.blk b2 (.cells (matL (fun _ _=>0)).toArray 116)::.blk b1 (hwC H a1 n1 c1 a2 n2 c2 a3 n3 c3 a4 n4 c4 a5 n5 c5)::S) w) 64 ⟨0,D,by omega,hF,⟨rfl,rfl,rfl,rfl,trivial⟩,hw⟩ ?_
  clear hw hF;rintro μ2 ρ w ⟨i,D,hi,hF,hρ,hw⟩
  rw[hρ.eq];clear hρ;refine byG ?_;refine W_cond rfl (fun h=>?_) (fun h=>?_)
  ·have hin:i<64:=by have:=of_decide_eq_true h;omega
   clear h;have hiI:nIn (i:Int):=by unfold nIn;omega
   refine byG ?_;refine W_loop (fun μ3 ρ w=>∃(k:Nat) (D:Mx),μ3+k=64∧FW (linkD H.Links) D m i k∧Has ρ [(2,.pointer (some ⟨b2,0,none⟩)),(3,.pointer (some ⟨b3,0,none⟩)),(8,.int .i64 m),(9,.int .i64 i),(10,.int .i64 k)]∧Wd Γ (.blk b3 (.cells (matL (D)).toArray 116)::.blk b2 (.cells (matL (fun _ _=>0)).toArray 116)::.blk b1 (hwC H a1 n1 c1 a2 n2 c2 a3 n3 c3 a4 n4 c4 a5 n5 c5)::S) w) 64 ⟨0,D,by omega,hF,⟨rfl,rfl,rfl,rfl,rfl,trivial⟩,hw⟩ ?_
   clear hw hF;rintro μ3 ρ w ⟨k,D,hk,hF,hρ,hw⟩
   rw[hρ.eq];clear hρ;refine byG ?_;refine W_cond rfl (fun h=>?_) (fun h=>?_)
   ·have hkn:k<64:=by have:=of_decide_eq_true h;omega
    clear h;have hkI:nIn (k:Int):=by unfold nIn;omega
    have g1:=hF.bound hLM hLk hiI hmI
    have g2:=hF.bound hLM hLk hmI hkI
    have g3:=hF.bound hLM hLk hiI hkI
    have hnx:=hF.next hmI hiI hkI
    have q1:=getM D hiI hmI
    have q2:=getM D hmI hkI
    have q3:=getM D hiI hkI
    refine byG ?_;refine W_quiet (by kernel_rfl) (by kernel_rfl) hw ?_
    refine byQ ?_;refine qY (v:=.int .i64 (D i m)) ?_ (hy:=fun w hw=>y_l1b (i:=0) hw rfl rfl q1)
    refine byQ ?_;refine qG (v:=.int .i64 (D m k)) ?_ (hy:=fun hc w hw=>y_l1b (i:=0) hw (gvT hc rfl) rfl q2)
    refine byQ ?_;refine qG (v:=.int .i64 (D i k)) ?_ (hy:=fun hc w hw=>y_l1b (i:=0) hw (gvT hc rfl) rfl q3)
    refine byQ ?_;refine qG (v:=.int .i64 (D i m)) ?_ (hy:=fun hc w hw=>y_l1b (i:=0) hw (gvT hc rfl) rfl q1)
    refine byQ ?_;refine qG (v:=.int .i64 (D m k)) ?_ (hy:=fun hc w hw=>y_l1b (i:=0) hw (gvT hc rfl) rfl q2)
    refine byQ ?_;refine qG (v:=.int .i64 (D i k)) ?_ (hy:=fun hc w hw=>y_l1b (i:=0) hw (gvT hc rfl) rfl q3)
    refine byQ ?_;intro w hw;refine W_cond rfl (fun h=>?_) (fun h=>?_)
    ·have h:relaxB D m i k=true:=h
     rw[if_pos h]at hnx;refine byG ?_;refine W_mix1 [] (.blk b3 (.cells (matL (D)).toArray 116)::.blk b2 (.cells (matL (fun _ _=>0)).toArray 116)::.blk b1 (hwC H a1 n1 c1 a2 n2 c2 a3 n3 c3 a4 n4 c4 a5 n5 c5)::S) [[],[],[],[],[],[],[],[],[],[],[],[],[],[],[],[0]] [[],[],[],[],[],[],[0],[],[],[],[],[0],[],[],[],[0]] hw ?_
     refine byM ?_;refine mY (v:=.int .i64 (D i m)) ?_ (hy:=fun Y w g hw=>y_l1b (i:=0) hw rfl rfl q1)
     refine byM ?_;refine mY (v:=.int .i64 (D m k)) ?_ (hy:=fun Y w g hw=>y_l1b (i:=0) hw rfl rfl q2)
     refine byM ?_;refine mStoreC (o:=0+(i:Int).toNat*64+(k:Int).toNat*1) (ho:=by rw[List.size_toArray,matL_len];omega) ?_
     refine mEnd0 ?_
     clear hw;intro w hw;have hw:Wd Γ ((.blk b3 (.cells (putCells (matL D).toArray (0+(i:Int).toNat*64+(k:Int).toNat*1) [.int .i64 (D i m+D m k)]) 116)::.blk b2 (.cells (matL (fun _ _=>0)).toArray 116)::.blk b1 (hwC H a1 n1 c1 a2 n2 c2 a3 n3 c3 a4 n4 c4 a5 n5 c5)::S)++[]) w:=hw
     rw[putM _ hiI hkI,List.append_nil]at hw;refine byG ?_;exact⟨μ3-1,by omega,k+1,_,by omega,hnx,⟨rfl,rfl,rfl,rfl,rfl,trivial⟩,hw⟩
    ·have h:relaxB D m i k=false:=h
     rw[if_neg (by rw[h];simp)]at hnx
     refine byG ?_;exact⟨μ3-1,by omega,k+1,D,by omega,hnx,⟨rfl,rfl,rfl,rfl,rfl,trivial⟩,hw⟩
   ·have hkn:k=64:=by have:=of_decide_eq_false h;omega
    subst hkn;have hF:FW (linkD H.Links) D m i 64:=hF
    refine byG ?_;exact⟨μ2-1,by omega,i+1,D,by omega,hF.row,⟨rfl,rfl,rfl,rfl,trivial⟩,hw⟩
  ·have hin:i=64:=by have:=of_decide_eq_false h;omega
   subst hin;have hF:FW (linkD H.Links) D m 64 0:=hF
   refine byG ?_;exact⟨μ-1,by omega,m+1,D,by omega,hF.phase,⟨rfl,rfl,rfl,trivial⟩,hw⟩
 have hmn:m=64:=by have:=of_decide_eq_false h;omega
 subst hmn;have hfin:matL D=matL (dstM H):=matL_congr fun a b ha hb=>by
  have h1:=hF a b ha hb
  unfold nIn at ha hb;rw[if_neg (by omega)]at h1
  exact(OkM.dst hLM hLk ha h1).symm
 rw[hfin]at hw;generalize dstM H=DM at *
 clear h;refine byG ?_;refine lY (v:=.agg (matL DM).toArray) ?_ (hy:=y_lwb (i:=0) hw rfl rfl (by simp[matL_len]))
 refine lStore (i:=1) (vs:=matL DM) ?_ (hl:=matL_len DM) (h1:=by rw[List.all_eq_true];exact matL_one DM) (ho:=by simp[matL_len]) (hv:=by simp[Value.cells])
 intro w hw;have hw:Wd Γ (.blk b3 (.cells (matL (DM)).toArray 116)::.blk b2 (.cells (putCells (matL (fun _ _=>0)).toArray 0 (matL DM)) 116)::.blk b1 (hwC H a1 n1 c1 a2 n2 c2 a3 n3 c3 a4 n4 c4 a5 n5 c5)::S) w:=hw
 rw[show putCells (matL (fun _ _=>0)).toArray 0 (matL DM)=(matL DM).toArray from by unfold putCells;simp[matL_len]]at hw
 refine byG ?_;exact⟨[.agg (matL DM).toArray],⟨resC (i:=1) hw rfl rfl (by simp[matL_len]),trivial⟩,rfl,hw.ds [0,0,0]⟩
end Go.Proofs.YtfoggcgogafocaaGreat
end
section
open Go Mk
namespace Go.Proofs.YtfoggcgogafocaaGreat
set_option maxHeartbeats 16000000
attribute [local irreducible] Calls matL validS
theorem pg_RDistance{Γ:Gho}{u:Value}{H:HwT}[hh:HwR Γ u H][hwd:WideH H](a b:Int):PG Tryz.prog Γ 15 [u,.int .i64 a,.int .i64 b] (.tuple #[.int .i64 (distS H a b).1,.int .i64 (distS H a b).2]):=⟨fun S w hw=>by
 have hh':=hh
 have pV:=pg_RValidate (hh:=hh) (hwd:=hwd)
 have pM:=fun hv=>(⟨fun S w hw=>Matrix_any (hh:=hh') hv hw⟩:PG Tryz.prog Γ 44 [u] (.agg (matL (dstM H)).toArray))
 obtain⟨a1,n1,c1,a2,n2,c2,a3,n3,c3,a4,n4,c4,a5,n5,c5,cs,rfl,-⟩:=hh.h;refine calls_of_W Tryz.func15 rfl rfl ?_
 repeat first|refine byW ?_|refine byV ?_;intro w hw
 refine lBox ?_;intro b3 w hw;have hw:Wd Γ (.blk b3 (hwC H a1 n1 c1 a2 n2 c2 a3 n3 c3 a4 n4 c4 a5 n5 c5)::S) w:=hw
 unfold distS checkS;repeat first|refine byW ?_|refine byV ?_;intro w hw
 refine W_cond rfl (fun h=>?_) (fun h=>?_)
 ·have h:¬validS H=0:=by simpa using h
  rw[if_neg h,if_neg h];repeat first|refine byW ?_|refine byV ?_;intro w hw
  exact⟨_,rfl,rfl,hw.drop⟩
 have hv:validS H=0:=by simpa using h
 rw[if_pos hv];clear h;repeat first|refine byW ?_|refine byV ?_;intro w hw
 refine W_cond rfl (fun h=>?_) (fun h=>?_)
 ·have h:(((decide (a<0)||decide (a≥64))||decide (b<0))||decide (b≥64))=true:=h
  have hc:a<0∨64≤a∨b<0∨64≤b:=by simp at h;omega
  rw[if_pos hc];repeat first|refine byW ?_|refine byV ?_;intro w hw
  exact⟨_,rfl,rfl,hw.drop⟩
 have h:(((decide (a<0)||decide (a≥64))||decide (b<0))||decide (b≥64))=false:=h
 have hc:¬(a<0∨64≤a∨b<0∨64≤b):=by simp at h;omega
 rw[if_neg hc,if_pos rfl];clear h;haveI pM:=pM hv
 repeat first|refine byW ?_|refine byV ?_;intro w hw
 refine lAlloc ?_;intro b9 w hw;rw[matL_zero]at hw;have hw:Wd Γ (.blk b9 (.cells (matL (fun _ _=>0)).toArray 116)::.blk b3 (hwC H a1 n1 c1 a2 n2 c2 a3 n3 c3 a4 n4 c4 a5 n5 c5)::S) w:=hw
 refine lStore (i:=0) (vs:=matL (dstM H)) ?_ (hl:=matL_len _) (h1:=by rw[List.all_eq_true];exact matL_one _) (ho:=by simp[matL_len]) (hv:=by simp[Value.cells])
 intro w hw;have hw:Wd Γ (.blk b9 (.cells (putCells (matL (fun _ _=>0)).toArray 0 (matL (dstM H))) 116)::.blk b3 (hwC H a1 n1 c1 a2 n2 c2 a3 n3 c3 a4 n4 c4 a5 n5 c5)::S) w:=hw
 rw[show putCells (matL (fun _ _=>0)).toArray 0 (matL (dstM H))=(matL (dstM H)).toArray from by unfold putCells;simp[matL_len]]at hw
 have hgm:=getM (dstM H) (a:=a) (b:=b) (by unfold nIn;omega) (by unfold nIn;omega)
 have hda:dstM H a b=dstI (nbrL H.Links) a b:=rfl
 rw[hda]at hgm;generalize dstI (nbrL H.Links) a b=y at *
 repeat first|refine byW ?_|refine byV ?_;intro w hw
 refine lY (v:=.int .i64 y) ?_ (hy:=y_l1b (i:=0) hw rfl rfl hgm)
 repeat first|refine byW ?_|refine byV ?_;intro w hw
 refine W_cond rfl (fun h=>?_) (fun h=>?_)
 ·have h:y<0:=of_decide_eq_true h
  rw[if_pos h];repeat first|refine byW ?_|refine byV ?_;intro w hw
  exact⟨_,rfl,rfl,hw.ds [0,0]⟩
 ·have h:¬y<0:=of_decide_eq_false h
  rw[if_neg h];repeat first|refine byW ?_|refine byV ?_;intro w hw
  refine lY (v:=.int .i64 y) ?_ (hy:=y_l1b (i:=0) hw rfl rfl hgm)
  repeat first|refine byW ?_|refine byV ?_;intro w hw
  exact⟨_,rfl,rfl,hw.ds [0,0]⟩⟩
def latI(ls:List LinkT)(a b:Int):Int:=match ls.find? (matchB a b) with|some l=>l.Latency|none=>-1
theorem find_snoc{α:Type}{p:α→Bool}{l:List α}{k:Nat}{x:α}(hx:l[k]? = some x)(h:(l.take k).find? p=none):l.find? p=if p x=true then some x else (l.drop (k+1)).find? p:=by
 have e:l=l.take k++x::l.drop (k+1):=by
  obtain⟨hk,rfl⟩:=List.getElem?_eq_some_iff.1 hx
  rw[←List.drop_eq_getElem_cons hk,List.take_append_drop]
 conv=>lhs;rw[e]
 rw[List.find?_append,h,Option.none_or,List.find?_cons];cases p x <;> rfl
instance pg_latency{Γ:Gho}{u:Value}{H:HwT}[hh:HwR Γ u H](a b:Int):PG Tryz.prog Γ 46 [u,.int .i64 a,.int .i64 b] (.int .i64 (latI H.Links a b)):=⟨fun S w hw=>by
 obtain⟨a1,n1,c1,a2,n2,c2,a3,n3,c3,a4,n4,c4,a5,n5,c5,cs,rfl,hcs,hok,hsz,r1,r2,r3,r4,r5⟩:=hh.h;obtain⟨hn3,hm3,hx3⟩:=rep_facts r3
 simp only[List.length_map]at hn3
 refine calls_of_W Tryz.func46 rfl rfl ?_
 repeat first|refine byW ?_|refine byV ?_;intro w hw
 refine lBox ?_;intro b3 w hw;have hw:Wd Γ (.blk b3 (hwC H a1 n1 c1 a2 n2 c2 a3 n3 c3 a4 n4 c4 a5 n5 c5)::S) w:=hw
 repeat first|refine byW ?_|refine byV ?_;intro w hw
 refine W_loop (fun μ ρ w=>∃k:Nat,μ+k=n3∧(H.Links.take k).find? (matchB a b)=none∧Has ρ [(1,.int .i64 a),(2,.int .i64 b),(3,.pointer (some ⟨b3,0,none⟩)),(7,.int .i64 k)]∧Wd Γ (.blk b3 (hwC H a1 n1 c1 a2 n2 c2 a3 n3 c3 a4 n4 c4 a5 n5 c5)::S) w) n3 ⟨0,by omega,rfl,⟨rfl,rfl,rfl,rfl,trivial⟩,hw⟩ ?_
 clear hw;rintro μ ρ w ⟨k,hk,hnone,hρ,hw⟩
 rw[hρ.eq];clear hρ;repeat first|refine byW ?_|refine byV ?_;intro w hw
 refine W_cond rfl (fun h=>?_) (fun h=>?_)
 ·have hkn:k<n3:=by have:=of_decide_eq_true h;omega
  clear h;obtain⟨x,hx⟩:=get_lt (l:=H.Links) (k:=k) (by omega)
  have hfs:=find_snoc hx hnone
  repeat first|refine byW ?_|refine byV ?_;intro w hw
  refine lAlloc ?_;intro b8 w hw;refine lStore ?_;intro w hw;have hw:Wd Γ (.blk b8 (.cells (enc x).toArray 79)::.blk b3 (hwC H a1 n1 c1 a2 n2 c2 a3 n3 c3 a4 n4 c4 a5 n5 c5)::S) w:=hw
  repeat first|refine byW ?_|refine byV ?_;intro w hw
  refine W_cond rfl (fun h=>?_) (fun h=>?_)
  ·have h:matchB a b x=true:=h
   rw[if_pos h]at hfs;repeat first|refine byW ?_|refine byV ?_;intro w hw
   exact⟨_,rfl,by unfold latI;rw[hfs];rfl,hw.ds [0,0]⟩
  ·have h:matchB a b x=false:=h
   repeat first|refine byW ?_|refine byV ?_;intro w hw
   exact⟨μ-1,by omega,k+1,by omega,by rw[take_succ_of hx,List.find?_append,hnone,Option.none_or,List.find?_cons,h];rfl,⟨rfl,rfl,rfl,rfl,trivial⟩,hw.drop⟩
 ·have hkn:n3≤k:=by have:=of_decide_eq_false h;omega
  clear h;rw[List.take_of_length_le (by omega)]at hnone
  repeat first|refine byW ?_|refine byV ?_;intro w hw
  exact⟨_,rfl,by unfold latI;rw[hnone];rfl,hw.drop⟩⟩
end Go.Proofs.YtfoggcgogafocaaGreat
end
section
open Go Mk
namespace Go.Proofs.YtfoggcgogafocaaGreat
set_option maxHeartbeats 16000000
attribute [local irreducible] Calls matL validS
theorem match_nbr{ls:List LinkT}{a k:Int}{l:LinkT}(hl:l∈ls)(h:matchB a k l=true):(k,l.Latency)∈nbrL ls a:=by
 unfold nbrL;refine List.mem_flatMap.2 ⟨l,hl,?_⟩
 simp only[matchB,Bool.or_eq_true,Bool.and_eq_true,decide_eq_true_eq]at h
 rcases h with⟨h1,h2⟩|⟨h1,h2⟩
 ·rw[if_pos h1,←h2];simp
 ·rw[if_pos h2,←h1];simp
theorem lat_of{ls:List LinkT}{a:Int}{q:Pl}(hn:(ls.map linkKey).Nodup)(hq:q∈nbrL ls a):latI ls a q.1=q.2:=by
 obtain⟨l,hl,hm,he⟩:=nbr_match hq
 have h1:=match_one hn l hl hm
 have h2:ls.find? (matchB a q.1)=some l:=by rw[←List.head?_filter,h1];rfl
 unfold latI;rw[h2];exact he
theorem lat_nbr{ls:List LinkT}{a k:Int}(h:0≤latI ls a k):(k,latI ls a k)∈nbrL ls a:=by
 unfold latI at h ⊢
 cases hf:ls.find? (matchB a k) with
 | none=>rw[hf]at h;exact absurd h (by decide)
 | some l=>exact match_nbr (List.mem_of_find?_eq_some hf) (List.find?_some hf)
theorem lat_rng{ls:List LinkT}{a k:Int}(hL:∀l∈ls,0≤l.Latency∧l.Latency≤1000000):-1≤latI ls a k∧latI ls a k≤1000000:=by
 unfold latI;cases hf:ls.find? (matchB a k) with
 | none=>decide
 | some l=>
  have:=hL l (List.mem_of_find?_eq_some hf)
  show -1≤l.Latency∧l.Latency≤1000000
  omega
theorem RPath_any{Γ:Gho}{u:Value}{H:HwT}[hh:HwR Γ u H][hwd:WideH H](a b:Int){S:List Res}{w:World}(hw:Wd Γ S w) :
  Calls Tryz.prog 17 #[u,.int .i64 a,.int .i64 b] w fun e w'=>∃v p err,e=.returned (.tuple #[v,.int .i64 err])∧PathOut H a b p err∧Wd Γ (.own v 3 1 (intRows p)::S) w':=by
 have hh':=hh
 have pD:=pg_RDistance (hh:=hh) (hwd:=hwd) a b
 have pM:=fun hv=>(⟨fun S w hw=>Matrix_any (hh:=hh') hv hw⟩:PG Tryz.prog Γ 44 [u] (.agg (matL (dstM H)).toArray))
 obtain⟨a1,n1,c1,a2,n2,c2,a3,n3,c3,a4,n4,c4,a5,n5,c5,cs,rfl,-⟩:=hh.h;refine calls_of_W Tryz.func17 rfl rfl ?_
 repeat first|refine byW ?_|refine byV ?_;intro w hw
 refine lBox ?_;intro b3 w hw;have hw:Wd Γ (.blk b3 (hwC H a1 n1 c1 a2 n2 c2 a3 n3 c3 a4 n4 c4 a5 n5 c5)::S) w:=hw
 obtain⟨er,her⟩:∃er,er=(distS H a b).2:=⟨_,rfl⟩
 obtain⟨dv,hdv⟩:∃dv,dv=(distS H a b).1:=⟨_,rfl⟩
 rw[←her,←hdv]at pD;repeat first|refine byW ?_|refine byV ?_;intro w hw
 refine W_cond rfl (fun h=>?_) (fun h=>?_)
 ·have h:er≠0:=of_decide_eq_true h
  repeat first|refine byW ?_|refine byV ?_;intro w hw
  refine⟨_,rfl,.slice none 0 0,[],er,rfl,?_,Wd.addNil hw.drop⟩
  unfold distS at her;by_cases hc:checkS H a b=0
  ·rw[if_pos hc]at her;obtain⟨hv,ha0,ha1,hb0,hb1⟩:=check_ok hc
   by_cases hneg:dstI (nbrL H.Links) a b<0
   ·rw[if_pos hneg]at her;exact .inr (.inl ⟨hc,by rw[dstI_sym (valid_links hv) ⟨ha0,ha1⟩];exact hneg,rfl,her⟩)
   ·rw[if_neg hneg]at her;exact absurd her h
  ·rw[if_neg hc]at her;exact .inl ⟨hc,rfl,her⟩
 have h:er=0:=by simpa using h
 rw[h]at her;have hck:checkS H a b=0∧0≤dstI (nbrL H.Links) a b:=by
  unfold distS at her;by_cases hc:checkS H a b=0
  ·rw[if_pos hc]at her;by_cases hneg:dstI (nbrL H.Links) a b<0
   ·rw[if_pos hneg]at her;cases her
   ·exact⟨hc,by omega⟩
  ·rw[if_neg hc]at her;exact absurd her.symm hc
 clear h her hdv;obtain⟨hc,hpos⟩:=hck;obtain⟨hv,ha0,ha1,hb0,hb1⟩:=check_ok hc
 have hLk:=valid_links hv
 have hky:=valid_keys hv
 have hlat:=lats_ok hLk
 have hn:=nbr_ok hLk ⟨hb0,hb1⟩
 have hdst:∀x,0≤x→x<64→Dst (nbrL H.Links) b x (dstI (nbrL H.Links) b x):=fun x _ _=>dst_ex hn x
 have hsym:∀x,dstM H x b=dstI (nbrL H.Links) b x:=fun x=>dstI_sym hLk ⟨hb0,hb1⟩
 have hle:=fun x=>dst_le (x:=x) hLk ⟨hb0,hb1⟩
 haveI pM:=pM hv
 repeat first|refine byW ?_|refine byV ?_;intro w hw
 refine lAlloc ?_;intro b10 w hw;rw[matL_zero]at hw;have hw:Wd Γ (.blk b10 (.cells (matL (fun _ _=>0)).toArray 116)::.blk b3 (hwC H a1 n1 c1 a2 n2 c2 a3 n3 c3 a4 n4 c4 a5 n5 c5)::S) w:=hw
 refine lStore (i:=0) (vs:=matL (dstM H)) ?_ (hl:=matL_len _) (h1:=by rw[List.all_eq_true];exact matL_one _) (ho:=by simp[matL_len]) (hv:=by simp[Value.cells])
 intro w hw;have hw:Wd Γ (.blk b10 (.cells (putCells (matL (fun _ _=>0)).toArray 0 (matL (dstM H))) 116)::.blk b3 (hwC H a1 n1 c1 a2 n2 c2 a3 n3 c3 a4 n4 c4 a5 n5 c5)::S) w:=hw
 rw[show putCells (matL (fun _ _=>0)).toArray 0 (matL (dstM H))=(matL (dstM H)).toArray from by unfold putCells;simp[matL_len]]at hw
 repeat first|refine byW ?_|refine byV ?_;intro w hw
 refine lBuildSlice [[.int .i64 a]] ?_
 intro ap w hw;repeat first|refine byW ?_|refine byV ?_;intro w hw
 have hdab:dstI (nbrL H.Links) b a=dstI (nbrL H.Links) a b:=dstI_sym hLk ⟨ha0,ha1⟩
 have hw:Wd Γ (.own (.slice (some ap) 1 1) 3 1 (intRows (a::[]))::.blk b10 (.cells (matL (dstM H)).toArray 116)::.blk b3 (hwC H a1 n1 c1 a2 n2 c2 a3 n3 c3 a4 n4 c4 a5 n5 c5)::S) w:=hw
 refine W_loop (fun μ ρ w=>∃(c:Int) (vp:Option Addr) (np cp:Nat) (P:List Int),μ=(dstI (nbrL H.Links) b c).toNat∧0≤c∧c<64∧0≤dstI (nbrL H.Links) b c∧P.length+μ≤63000000∧(∀t,PathP (nbrL H.Links) (dstI (nbrL H.Links) b) b c t→PathP (nbrL H.Links) (dstI (nbrL H.Links) b) b a (P++t))∧Has ρ [(1,.int .i64 c),(2,.int .i64 b),(3,.pointer (some ⟨b3,0,none⟩)),(10,.pointer (some ⟨b10,0,none⟩)),(11,.slice vp np cp)]∧Wd Γ (.own (.slice vp np cp) 3 1 (intRows (a::P))::.blk b10 (.cells (matL (dstM H)).toArray 116)::.blk b3 (hwC H a1 n1 c1 a2 n2 c2 a3 n3 c3 a4 n4 c4 a5 n5 c5)::S) w) (dstI (nbrL H.Links) b a).toNat ⟨a,some ap,1,1,[],rfl,ha0,ha1,by rw[hdab];exact hpos,by have:=(hle a).2;simp;omega,fun t ht=>ht,⟨rfl,rfl,rfl,rfl,rfl,trivial⟩,hw⟩ ?_
 clear hw pD;rintro μ ρ w ⟨c,vp,np,cp,P,hμ,hc0,hc1,hcl,hPl,hP,hρ,hw⟩
 have hpn:=own_len (i:=0) hw rfl
 simp only[intRows,List.length_map,List.length_cons]at hpn
 rw[hρ.eq];clear hρ;repeat first|refine byW ?_|refine byV ?_;intro w hw
 refine W_cond rfl (fun h3=>?_) (fun h3=>?_)
 ·have h3:c≠b:=by simpa using h3
  obtain⟨q,hq,hq1,hq2,hq3,hq4,hq5,hq6,hq7⟩:=next_ok hLk ⟨hb0,hb1⟩ hdst ⟨hc0,hc1⟩ hcl h3
  repeat first|refine byW ?_|refine byV ?_;intro w hw
  refine W_loop (fun μ2 ρ w=>∃(k:Nat) (nx:Int),μ2+k=64∧(nx = -1∧(k:Int)≤q.1∨nx=q.1)∧Has ρ [(1,.int .i64 c),(2,.int .i64 b),(3,.pointer (some ⟨b3,0,none⟩)),(10,.pointer (some ⟨b10,0,none⟩)),(11,.slice vp np cp),(12,.int .i64 nx),(13,.int .i64 k)]∧Wd Γ (.own (.slice vp np cp) 3 1 (intRows (a::P))::.blk b10 (.cells (matL (dstM H)).toArray 116)::.blk b3 (hwC H a1 n1 c1 a2 n2 c2 a3 n3 c3 a4 n4 c4 a5 n5 c5)::S) w) 64 ⟨0,-1,by omega,.inl ⟨rfl,by omega⟩,⟨rfl,rfl,rfl,rfl,rfl,rfl,rfl,trivial⟩,hw⟩ ?_
  clear hw;rintro μ2 ρ w ⟨k,nx,hk,hnx,hρ,hw⟩
  rw[hρ.eq];clear hρ;repeat first|refine byW ?_|refine byV ?_;intro w hw
  refine W_cond rfl (fun h4=>?_) (fun h4=>?_)
  ·have h4:(decide ((k:Int)<64)&&decide (nx<0))=true:=h4
   rw[Bool.and_eq_true,decide_eq_true_eq,decide_eq_true_eq]at h4;have hkq:nx = -1∧(k:Int)≤q.1:=by omega
   obtain⟨rfl,hkq⟩:=hkq;have g1:=getM (dstM H) (a:=(k:Int)) (b:=b) (by unfold nIn;omega) (by unfold nIn;omega)
   have g2:=getM (dstM H) (a:=c) (b:=b) (by unfold nIn;omega) (by unfold nIn;omega)
   rw[hsym]at g1 g2
   have hlr:=lat_rng (ls:=H.Links) (a:=c) (k:=(k:Int)) fun l hl=>hlat l hl
   obtain⟨lt,hlt⟩:∃lt,lt=latI H.Links c (k:Int):=⟨_,rfl⟩
   have hdk:=hle (k:Int)
   have pL:=pg_latency (hh:=hh') c (k:Int)
   rw[←hlt]at pL hlr
   have hno:(k:Int)<q.1→¬(0≤lt∧0≤dstI (nbrL H.Links) b (k:Int)∧lt+dstI (nbrL H.Links) b (k:Int)=dstI (nbrL H.Links) b c):=fun hlt2 ⟨e1,e2,e3⟩=>by
    have hm:=lat_nbr (ls:=H.Links) (a:=c) (k:=(k:Int)) (by rw[←hlt];exact e1)
    rw[←hlt]at hm;have:=hq3 _ hm e3
    have:q.1≤(k:Int):=this
    omega
   have hyes:(k:Int)=q.1→(0≤lt∧0≤dstI (nbrL H.Links) b (k:Int)∧lt+dstI (nbrL H.Links) b (k:Int)=dstI (nbrL H.Links) b c):=fun e=>by
    have:=lat_of hky hq
    rw[hlt,e,this];exact⟨by omega,hq4,hq1⟩
   generalize dstI (nbrL H.Links) b (k:Int)=dk at *
   generalize hdc:dstI (nbrL H.Links) b c=dc at *
   repeat first|refine byW ?_|refine byV ?_;intro w hw
   refine W_quiet (by kernel_rfl) (by kernel_rfl) hw ?_
   repeat(first|(first|refine Q_nil ?_|(apply Q_plain;first|(apply Q_go;first|refine qP ?_|refine qPg ?_)|refine qY ?_)|(apply Q_guarded;first|(apply Q_go;first|refine qPG ?_|refine qPgG ?_)|refine qG ?_))|refine qG (v:=.int .i64 dk) ?_ (hy:=fun hc w hw=>y_l1b (i:=1) hw (gvT hc rfl) rfl g1)|refine qG (v:=.int .i64 dc) ?_ (hy:=fun hc w hw=>y_l1b (i:=1) hw (gvT hc rfl) rfl g2))
   clear hw;intro w hw;refine W_cond rfl (fun h5=>?_) (fun h5=>?_)
   ·have h5:((decide (0≤lt)&&decide (0≤dk))&&decide (lt+dk=dc))=true:=h5
    simp only[Bool.and_eq_true,decide_eq_true_eq]at h5
    have:(k:Int)=q.1:=by
     rcases Int.lt_or_eq_of_le hkq with h|h
     ·exact absurd ⟨h5.1.1,h5.1.2,h5.2⟩ (hno h)
     ·exact h
    repeat first|refine byW ?_|refine byV ?_;intro w hw
    exact⟨μ2-1,by omega,k+1,_,by omega,.inr this,⟨rfl,rfl,rfl,rfl,rfl,rfl,rfl,trivial⟩,hw⟩
   ·have h5:((decide (0≤lt)&&decide (0≤dk))&&decide (lt+dk=dc))=false:=h5
    have:(k:Int)<q.1:=by
     rcases Int.lt_or_eq_of_le hkq with h|h
     ·exact h
     ·obtain⟨e1,e2,e3⟩:=hyes h
      rw[decide_eq_true e1,decide_eq_true e2,decide_eq_true e3]at h5;cases h5
    repeat first|refine byW ?_|refine byV ?_;intro w hw
    exact⟨μ2-1,by omega,k+1,_,by omega,.inl ⟨rfl,by omega⟩,⟨rfl,rfl,rfl,rfl,rfl,rfl,rfl,trivial⟩,hw⟩
  ·have h4:(decide ((k:Int)<64)&&decide (nx<0))=false:=h4
   have hnq:nx=q.1:=by
    rcases hnx with⟨h1,h2⟩|h
    ·rw[decide_eq_true (by omega),decide_eq_true (by omega)]at h4
     cases h4
    ·exact h
   subst hnq;repeat first|refine byW ?_|refine byV ?_;intro w hw
   refine lBuildSlice [[.int .i64 q.1]] ?_
   intro ab w hw;refine lApp (i:=1) (rows2:=[[.int .i64 q.1]]) ?_ (Wd.own_rd (i:=0) hw rfl)
   intro v' w hw;obtain⟨q',m',d',rfl,-,-,-⟩:=hw.own_shape (i:=1) rfl
   have hw:Wd Γ (.own (.slice q' m' d') 3 1 (intRows (a::(P++[q.1])))::.blk b10 (.cells (matL (dstM H)).toArray 116)::.blk b3 (hwC H a1 n1 c1 a2 n2 c2 a3 n3 c3 a4 n4 c4 a5 n5 c5)::S) w:=by
    have e:intRows (a::(P++[q.1]))=intRows (a::P)++[[.int .i64 q.1]]:=by simp[intRows]
    rw[e];exact hw.drop
   repeat first|refine byW ?_|refine byV ?_;intro w hw
   refine⟨(dstI (nbrL H.Links) b q.1).toNat,by omega,q.1,q',m',d',P++[q.1],rfl,hq6,hq7,hq4,by simp;omega,fun t ht=>?_,⟨rfl,rfl,rfl,rfl,rfl,trivial⟩,hw⟩
   rw[List.append_assoc];refine hP _ ?_
   rw[←hq2]at ht ⊢
   exact .cons h3 ht
 ·have h3:c=b:=by simpa using h3
  subst h3;repeat first|refine byW ?_|refine byV ?_;intro w hw
  refine⟨_,rfl,_,a::P,0,rfl,.inr (.inr ⟨hc,by rw[hdab];exact hpos,rfl,P,rfl,?_⟩),hw.ds [1,1]⟩
  have:=hP [] .nil
  rwa [List.append_nil]at this
theorem path_uniq{nb:Int→List Pl}{left:Int→Int}{b c:Int}{l l':List Int}(h:PathP nb left b c l)(h':PathP nb left b c l'):l=l':=by
 induction h generalizing l' with
 | nil=>
  cases h' with
  | nil=>rfl
  | cons hne _=>exact absurd rfl hne
 | cons hne _ ih=>
  cases h' with
  | nil=>exact absurd rfl hne
  | cons _ hp=>rw[ih hp]
theorem pathOut_uniq{H:HwT}{a b:Int}{p p':List Int}{err err':Int}(h:PathOut H a b p err)(h':PathOut H a b p' err'):p=p'∧err=err':=by
 rcases h with⟨h1,h2,h3⟩|⟨h1,h2,h3,h4⟩|⟨h1,h2,h3,l,h4,h5⟩ <;> rcases h' with⟨k1,k2,k3⟩|⟨k1,k2,k3,k4⟩|⟨k1,k2,k3,l',k4,k5⟩
 ·exact⟨h2.trans k2.symm,h3.trans k3.symm⟩
 ·exact absurd k1 h1
 ·exact absurd k1 h1
 ·exact absurd h1 k1
 ·exact⟨h3.trans k3.symm,h4.trans k4.symm⟩
 ·omega
 ·exact absurd h1 k1
 ·omega
 ·exact⟨by rw[h4,k4,path_uniq h5 k5],h3.trans k3.symm⟩
end Go.Proofs.YtfoggcgogafocaaGreat
end
section
open Go Mk
namespace Go.Proofs.YtfoggcgogafocaaGreat
set_option maxHeartbeats 4000000
attribute [local irreducible] Calls cI cB
instance pg_cmpV(Γ:Gho)(a b:Val):PG Tryz.prog Γ 97 [.agg (enc a).toArray,.agg (enc b).toArray] (.int .i64 (cV a b)):=⟨fun S w hw=>by
 refine calls_of_W Tryz.func97 rfl rfl ?_
 repeat first|refine byW ?_|refine byV ?_;intro w hw
 refine lBox ?_;intro b1 w hw;refine lBox ?_;intro b2 w hw;have hw:Wd Γ (.blk b2 (.cells (enc b).toArray 41)::.blk b1 (.cells (enc a).toArray 41)::S) w:=hw
 repeat first|refine byW ?_|refine byV ?_;intro w hw
 refine W_cond rfl (fun h=>?_) (fun h=>?_)
 ·repeat first|refine byW ?_|refine byV ?_;intro w hw
  exact⟨_,rfl,ret_i rfl (by have h:=of_decide_eq_true h;subst h;rw[cV_ord.refl]),hw.drop.drop⟩
 ·repeat first|refine byW ?_|refine byV ?_;intro w hw
  refine W_mixC [.blk b2 _,.blk b1 _] S [23] [[],[],[],[],[],[],[],[],[],[],[],[],[],[],[],[0],[0],[]] hw ?_
  refine byM ?_;refine mStepX (v:=undef) (T':=Value) (fun t g=>g 23=t) (fun t=>.own t 3 1 ([cI a.Kind b.Kind,cI a.Num b.Num,cB a.Word b.Word].map fun x=>[.int .i64 x])::S) (fun t g w Y _ hw=>s_buildSlice (rws:=[cI a.Kind b.Kind,cI a.Num b.Num,cB a.Word b.Word].map fun x=>[.int .i64 x]) hw rfl rfl rfl (by simp) (by decide) fun q w' hw'=>⟨_,rfl,(fun h=>by cases h),hw'⟩) ?_
  refine mCallX (φ:=fun (t:Value) g=>g 23=t) (v:=.int .i64 (cV a b)) (T':=Value) (fun _ _=>True) (fun t=>.own t 3 1 ([cI a.Kind b.Kind,cI a.Num b.Num,cB a.Word b.Word].map fun x=>[.int .i64 x])::S) (fun t _=>[t]) (fun t g w Y ht hw=>?_) ?_ (ha:=fun t g ht=>EvL.cons ht EvL.nil)
  ·refine(Or_any _ hw (RdS.own (i:=0) hw rfl)).mono ?_
   rintro e w ⟨rfl,hw⟩
   refine⟨_,rfl,t,trivial,fun _=>?_,hw⟩
   unfold cV orL orL orL orL;rw[orI_r]
  refine byM ?_;refine mEndX fun t w g _ hw=>?_
  repeat first|refine byW ?_|refine byV ?_;intro w hw
  exact⟨_,rfl,rfl,hw.drop.left⟩⟩
theorem CompareFunc_any{Γ:Gho}{va vb:Value}{xs ys:List Val}(ha:RepS Γ va 3 (xs.map enc))(hb:RepS Γ vb 3 (ys.map enc)) :
  PG Tryz.prog Γ 82 [va,vb,.func (.func 97) #[] #[]] (.int .i64 (cL cV xs ys)):=⟨fun S w hw=>by
 obtain⟨a,n,c,rfl,hn,hnc,hc⟩:=ha.shape;obtain⟨a2,n2,c2,rfl,hn2,hnc2,hc2⟩:=hb.shape;simp only[List.length_map]at hn hn2
 refine calls_of_W Tryz.func82 rfl rfl ?_
 repeat first|refine byW ?_|refine byV ?_;intro w hw
 refine W_loop (fun μ ρ w=>∃(k:Nat),μ+k=n∧Has ρ [(0,.slice a n c),(1,.slice a2 n2 c2),(2,.func (.func 97) #[] #[]),(11,.slice a n c),(12,.int .i64 n),(13,.int .i64 k)]∧cL cV xs ys=cL cV (xs.drop k) (ys.drop k)∧Wd Γ S w) n ⟨0,by omega,⟨rfl,rfl,rfl,rfl,rfl,rfl,trivial⟩,rfl,hw⟩ ?_
 clear hw;rintro μ ρ w ⟨k,hk,hρ,ho,hw⟩
 rw[hρ.eq];repeat first|refine byW ?_|refine byV ?_;intro w hw
 refine W_cond rfl (fun h=>?_) (fun h=>?_)
 ·have hkn:k<n:=by simpa using h
  obtain⟨x,hx⟩:=get_lt (l:=xs) (k:=k) (by omega)
  have hd:xs.drop k=x::xs.drop (k+1):=drop_get hx
  rw[hd]at ho;repeat first|refine byW ?_|refine byV ?_;intro w hw
  refine lAlloc ?_;intro b8 w hw;repeat first|refine byW ?_|refine byV ?_;intro w hw
  refine lStore ?_;intro w hw;have hw:Wd Γ (.blk b8 (.cells (enc x).toArray 41)::S) w:=hw
  repeat first|refine byW ?_|refine byV ?_;intro w hw
  refine W_cond rfl (fun h2=>?_) (fun h2=>?_)
  ·repeat first|refine byW ?_|refine byV ?_;intro w hw
   have h2:n2≤k:=by simpa using h2
   refine⟨_,rfl,ret_i rfl ?_,hw.drop⟩
   rw[ho,drop_none ys (by omega)];rfl
  ·have h2:k<n2:=by simpa using h2
   obtain⟨y,hy⟩:=get_lt (l:=ys) (k:=k) (by omega)
   rw[drop_get hy]at ho;have ho:cL cV xs ys=orI (cV x y) (cL cV (xs.drop (k+1)) (ys.drop (k+1))):=ho
   repeat first|refine byW ?_|refine byV ?_;intro w hw
   refine lAlloc ?_;intro b9 w hw;refine lStore ?_;intro w hw;have hw:Wd Γ (.blk b9 (.cells (enc y).toArray 41)::.blk b8 (.cells (enc x).toArray 41)::S) w:=hw
   repeat first|refine byW ?_|refine byV ?_;intro w hw
   refine lCallv (fst:=[]) (cap:=[]) ?_
   refine((pg_cmpV Γ x y).h _ _ hw).mono ?_
   rintro e w ⟨rfl,hw⟩
   refine⟨_,rfl,?_⟩;repeat first|refine byW ?_|refine byV ?_;intro w hw
   refine W_cond rfl (fun h3=>?_) (fun h3=>?_)
   ·repeat first|refine byW ?_|refine byV ?_;intro w hw
    have h3:¬cV x y=0:=by simpa using h3
    refine⟨_,rfl,ret_i rfl ?_,hw.drop.drop⟩
    rw[ho,orI_pos h3]
   ·repeat first|refine byW ?_|refine byV ?_;intro w hw
    have h3:cV x y=0:=by simpa using h3
    refine⟨μ-1,by omega,k+1,by omega,⟨rfl,rfl,rfl,rfl,rfl,rfl,trivial⟩,?_,hw.drop.drop⟩
    rw[ho,orI_null h3]
 ·have hkn:¬k<n:=by simpa using h
  rw[drop_none xs (by omega)]at ho
  repeat first|refine byW ?_|refine byV ?_;intro w hw
  refine W_cond rfl (fun h2=>?_) (fun h2=>?_)
  ·repeat first|refine byW ?_|refine byV ?_;intro w hw
   have h2:n<n2:=by simpa using h2
   obtain⟨y,hy⟩:=get_lt (l:=ys) (k:=k) (by omega)
   rw[drop_get hy]at ho;exact⟨_,rfl,ret_i rfl (by rw[ho];rfl),hw⟩
  ·repeat first|refine byW ?_|refine byV ?_;intro w hw
   have h2:¬n<n2:=by simpa using h2
   rw[drop_none ys (by omega)]at ho
   exact⟨_,rfl,ret_i rfl (by rw[ho];rfl),hw⟩⟩
theorem pg_cmpF{Γ:Gho}{f g:FactH}(hf:FOk Γ f)(hg:FOk Γ g):PG Tryz.prog Γ 52 [.agg (cF f).toArray,.agg (cF g).toArray] (.int .i64 (cFact f.fact g.fact)):=⟨fun S w hw=>by
 obtain⟨l1,l2,l3⟩:=hf.len;obtain⟨m1,m2,m3⟩:=hg.len;have hC:=CompareFunc_any hf hg
 obtain⟨fr,fa,fn,fc,fs⟩:=f;obtain⟨gr,ga,gn,gc,gs⟩:=g;simp only at l1 l2 l3 m1 m2 m3
 refine calls_of_W Tryz.func52 rfl rfl ?_
 repeat first|refine byW ?_|refine byV ?_;intro w hw
 refine lBox ?_;intro b1 w hw;refine lBox ?_;intro b2 w hw;have hw:Wd Γ (.blk b2 (.cells #[.string gr,.slice ga gn gc] 67)::.blk b1 (.cells #[.string fr,.slice fa fn fc] 67)::S) w:=hw
 repeat first|refine byW ?_|refine byV ?_;intro w hw
 refine W_mixC [.blk b2 _,.blk b1 _] S [18] [[],[],[],[],[],[],[],[],[],[],[],[],[0],[0],[]] hw ?_
 refine byM ?_;refine mStepX (v:=undef) (T':=Value) (fun t g=>g 18=t) (fun t=>.own t 3 1 ([cB fr gr,cI fn gn].map fun x=>[.int .i64 x])::S) (fun t g w Y _ hw=>s_buildSlice (rws:=[cB fr gr,cI fn gn].map fun x=>[.int .i64 x]) hw rfl rfl rfl (by simp) (by decide) fun q w' hw'=>⟨_,rfl,(fun h=>by cases h),hw'⟩) ?_
 refine mCallX (φ:=fun (t:Value) g=>g 18=t) (v:=.int .i64 (orI (cB fr gr) (cI fn gn))) (T':=Value) (fun _ _=>True) (fun t=>.own t 3 1 ([cB fr gr,cI fn gn].map fun x=>[.int .i64 x])::S) (fun t _=>[t]) (fun t g w Y ht hw=>?_) ?_ (ha:=fun t g ht=>EvL.cons ht EvL.nil)
 ·refine(Or_any _ hw (RdS.own (i:=0) hw rfl)).mono ?_
  rintro e w ⟨rfl,hw⟩
  refine⟨_,rfl,t,trivial,fun _=>?_,hw⟩
  unfold orL orL orL;rw[orI_r]
 refine byM ?_;refine mEndX fun t w g _ hw=>?_
 have hw:Wd Γ (.blk b2 (.cells #[.string gr,.slice ga gn gc] 67)::.blk b1 (.cells #[.string fr,.slice fa fn fc] 67)::S) w:=hw.drop.flip
 have hcf:cFact (fr,fs) (gr,gs)=orI (orI (cB fr gr) (cI fn gn)) (cL cV fs gs):=by
  unfold cFact;rw[l1,m1];unfold orI;by_cases e:cB fr gr=0 <;> simp[e]
 repeat first|refine byW ?_|refine byV ?_;intro w hw
 refine W_cond rfl (fun h3=>?_) (fun h3=>?_)
 ·repeat first|refine byW ?_|refine byV ?_;intro w hw
  have h3:¬orI (cB fr gr) (cI fn gn)=0:=by simpa using h3
  refine⟨_,rfl,ret_i rfl ?_,hw.drop.drop⟩
  show _=cFact (fr,fs) (gr,gs)
  rw[hcf,orI_pos h3]
 ·have h3:orI (cB fr gr) (cI fn gn)=0:=by simpa using h3
  repeat first|refine byW ?_|refine byV ?_;intro w hw
  refine lPg (hp:=hC) ?_
  intro w hw;repeat first|refine byW ?_|refine byV ?_;intro w hw
  refine⟨_,rfl,ret_i rfl ?_,hw.drop.drop⟩
  show _=cFact (fr,fs) (gr,gs)
  rw[hcf,orI_null h3]⟩
end Go.Proofs.YtfoggcgogafocaaGreat
end
section
open Go Mk
namespace Go.Proofs.YtfoggcgogafocaaGreat
set_option maxHeartbeats 4000000
attribute [local irreducible] Calls cI cB
instance pg_refV(Γ:Gho)(a b:Val):PG Tryz.prog Γ 178 [.agg (enc a).toArray,.agg (enc b).toArray] (.int .i64 (cV a b)):=⟨fun S w hw=>by
 refine calls_of_W Tryz.func178 rfl rfl ?_
 repeat first|refine byW ?_|refine byV ?_;intro w hw
 refine lBox ?_;intro b1 w hw;refine lBox ?_;intro b2 w hw;have hw:Wd Γ (.blk b2 (.cells (enc b).toArray 41)::.blk b1 (.cells (enc a).toArray 41)::S) w:=hw
 repeat first|refine byW ?_|refine byV ?_;intro w hw
 refine W_cond rfl (fun h=>?_) (fun h=>?_)
 ·repeat first|refine byW ?_|refine byV ?_;intro w hw
  have h:¬cI a.Kind b.Kind=0:=by simpa using h
  exact⟨_,rfl,ret_i rfl (by unfold cV;rw[orI_pos h]),hw.drop.drop⟩
 have h:cI a.Kind b.Kind=0:=by simpa using h
 repeat first|refine byW ?_|refine byV ?_;intro w hw
 refine W_cond rfl (fun h2=>?_) (fun h2=>?_)
 ·repeat first|refine byW ?_|refine byV ?_;intro w hw
  have h2:¬cI a.Num b.Num=0:=by simpa using h2
  exact⟨_,rfl,ret_i rfl (by unfold cV;rw[orI_null h,orI_pos h2]),hw.drop.drop⟩
 have h2:cI a.Num b.Num=0:=by simpa using h2
 repeat first|refine byW ?_|refine byV ?_;intro w hw
 exact⟨_,rfl,ret_i rfl (by unfold cV;rw[orI_null h,orI_null h2]),hw.drop.drop⟩⟩
theorem pg_refL{Γ:Gho}{va vb:Value}{xs ys:List Val}(ha:RepS Γ va 3 (xs.map enc))(hb:RepS Γ vb 3 (ys.map enc))(hl:xs.length=ys.length) :
  PG Tryz.prog Γ 100 [va,vb] (.int .i64 (cL cV xs ys)):=⟨fun S w hw=>by
 obtain⟨a,n,c,rfl,hn,hnc,hc⟩:=ha.shape;obtain⟨a2,n2,c2,rfl,hn2,hnc2,hc2⟩:=hb.shape;simp only[List.length_map]at hn hn2
 refine calls_of_W Tryz.func100 rfl rfl ?_
 repeat first|refine byW ?_|refine byV ?_;intro w hw
 refine W_loop (fun μ ρ w=>∃(k:Nat),μ+k=n∧Has ρ [(0,.slice a n c),(1,.slice a2 n2 c2),(5,.int .i64 k)]∧cL cV xs ys=cL cV (xs.drop k) (ys.drop k)∧Wd Γ S w) n ⟨0,by omega,⟨rfl,rfl,rfl,trivial⟩,rfl,hw⟩ ?_
 clear hw;rintro μ ρ w ⟨k,hk,hρ,ho,hw⟩
 rw[hρ.eq];repeat first|refine byW ?_|refine byV ?_;intro w hw
 refine W_cond rfl (fun h=>?_) (fun h=>?_)
 ·have hkn:k<n:=by simp only[Bool.and_eq_true,decide_eq_true_eq]at h;omega
  obtain⟨x,hx⟩:=get_lt (l:=xs) (k:=k) (by omega)
  obtain⟨y,hy⟩:=get_lt (l:=ys) (k:=k) (by omega)
  rw[drop_get hx,drop_get hy]at ho;have ho:cL cV xs ys=orI (cV x y) (cL cV (xs.drop (k+1)) (ys.drop (k+1))):=ho
  have hk2:k<n2:=by omega
  repeat first|refine byW ?_|refine byV ?_;intro w hw
  refine W_quiet (by kernel_rfl) (by kernel_rfl) hw ?_
  refine byQ ?_;intro w hw;repeat first|refine byW ?_|refine byV ?_;intro w hw
  refine W_cond rfl (fun h3=>?_) (fun h3=>?_)
  ·repeat first|refine byW ?_|refine byV ?_;intro w hw
   have h3:¬cV x y=0:=by simpa using h3
   exact⟨_,rfl,ret_i rfl (by rw[ho,orI_pos h3]),hw⟩
  ·repeat first|refine byW ?_|refine byV ?_;intro w hw
   have h3:cV x y=0:=by simpa using h3
   exact⟨μ-1,by omega,k+1,by omega,⟨rfl,rfl,rfl,trivial⟩,by rw[ho,orI_null h3],hw⟩
 ·have hkn:¬k<n:=by
   intro hh;have:k<n2:=by omega
   simp[hh,this]at h
  rw[drop_none xs (by omega),drop_none ys (by omega)]at ho
  repeat first|refine byW ?_|refine byV ?_;intro w hw
  exact⟨_,rfl,ret_i rfl (by rw[ho];rfl),hw⟩⟩
theorem pg_refF{Γ:Gho}{f g:FactH}(hf:FOk Γ f)(hg:FOk Γ g):PG Tryz.prog Γ 54 [.agg (cF f).toArray,.agg (cF g).toArray] (.int .i64 (cFact f.fact g.fact)):=⟨fun S w hw=>by
 obtain⟨l1,l2,l3⟩:=hf.len;obtain⟨m1,m2,m3⟩:=hg.len;have hC:=fun hl=>pg_refL hf hg hl
 obtain⟨fr,fa,fn,fc,fs⟩:=f;obtain⟨gr,ga,gn,gc,gs⟩:=g;simp only at l1 l2 l3 m1 m2 m3 hC
 refine calls_of_W Tryz.func54 rfl rfl ?_
 repeat first|refine byW ?_|refine byV ?_;intro w hw
 refine lBox ?_;intro b1 w hw;refine lBox ?_;intro b2 w hw;have hw:Wd Γ (.blk b2 (.cells #[.string gr,.slice ga gn gc] 67)::.blk b1 (.cells #[.string fr,.slice fa fn fc] 67)::S) w:=hw
 repeat first|refine byW ?_|refine byV ?_;intro w hw
 refine W_cond rfl (fun h=>?_) (fun h=>?_)
 ·repeat first|refine byW ?_|refine byV ?_;intro w hw
  have h:¬cB fr gr=0:=by simpa using h
  exact⟨_,rfl,ret_i rfl (by show _=cFact (fr,fs) (gr,gs);unfold cFact;rw[orI_pos h]),hw.drop.drop⟩
 have h:cB fr gr=0:=by simpa using h
 repeat first|refine byW ?_|refine byV ?_;intro w hw
 refine W_cond rfl (fun h2=>?_) (fun h2=>?_)
 ·repeat first|refine byW ?_|refine byV ?_;intro w hw
  have h2:¬cI fn gn=0:=by simpa using h2
  exact⟨_,rfl,ret_i rfl (by show _=cFact (fr,fs) (gr,gs);unfold cFact;rw[orI_null h,←l1,←m1,orI_pos h2]),hw.drop.drop⟩
 have h2:cI fn gn=0:=by simpa using h2
 have hl:fs.length=gs.length:=by have:=cI_ord.eq0 h2;omega
 repeat first|refine byW ?_|refine byV ?_;intro w hw
 refine lPg (hp:=hC hl) ?_
 intro w hw;repeat first|refine byW ?_|refine byV ?_;intro w hw
 exact⟨_,rfl,ret_i rfl (by show _=cFact (fr,fs) (gr,gs);unfold cFact;rw[orI_null h,←l1,←m1,orI_null h2]),hw.drop.drop⟩⟩
def addK(fs:List FactH)(f:FactH):Nat→Nat
 | 0=>0
 | k+1=>match fs[k]? with
  | some x=>if 0<cFact x.fact f.fact then addK fs f k else k+1
  | none=>k+1
theorem addK_le(fs:List FactH)(f:FactH):∀k,addK fs f k≤k
 | 0=>Nat.le_refl _
 | k+1=>by
  unfold addK;split
  ·split
   ·have:=addK_le fs f k;omega
   ·omega
  ·omega
def addF(fs:List FactH)(f:FactH):List FactH:=
 let k:=addK fs f fs.length
 match k with
 | 0=>f::fs
 | k+1=>match fs[k]? with
  | some x=>if cFact x.fact f.fact=0 then fs else fs.take (k+1)++f::fs.drop (k+1)
  | none=>fs.take (k+1)++f::fs.drop (k+1)
end Go.Proofs.YtfoggcgogafocaaGreat
end
section
open Go Mk
namespace Go.Proofs.YtfoggcgogafocaaGreat
set_option maxHeartbeats 16000000
attribute [local irreducible] Calls isS
section
variable {Γ:Gho}{S:List Res}{w:World}{bp:Nat}{a:Option Addr}{n c k:Nat}{e p:PosT}{er:Int}{toks:List Tok}
end
end Go.Proofs.YtfoggcgogafocaaGreat
end
section
open Go Mk
namespace Go.Proofs.YtfoggcgogafocaaGreat
set_option maxHeartbeats 4000000
section
variable {α:Type}{c:α→α→Int}
structure SetOf(c:α→α→Int)(db l:List α):Prop where
 asc:l.Pairwise fun a b=>c a b = -1
 mem:∀x,x∈l↔x∈db
theorem asc_nodup(h:Ord3 c){l:List α}(ha:l.Pairwise fun a b=>c a b = -1):l.Nodup:=by
 refine List.Pairwise.imp (fun {a b} q e=>?_) ha
 subst e;rw[h.refl]at q;exact absurd q (by decide)
theorem asc_uniq(h:Ord3 c):∀ {l k:List α},(l.Pairwise fun a b=>c a b = -1)→(k.Pairwise fun a b=>c a b = -1)→(∀x,x∈l↔x∈k)→l=k
 | [],[],_,_,_=>rfl
 | [],b::k,_,_,hm=>absurd ((hm b).2 (List.mem_cons_self)) (by simp)
 | a::l,[],_,_,hm=>absurd ((hm a).1 (List.mem_cons_self)) (by simp)
 | a::l,b::k,ha,hb,hm=>by
  have ha':=List.pairwise_cons.1 ha
  have hb':=List.pairwise_cons.1 hb
  have hab:a=b:=by
   rcases List.mem_cons.1 ((hm a).1 List.mem_cons_self) with e|e
   ·exact e
   rcases List.mem_cons.1 ((hm b).2 List.mem_cons_self) with e2|e2
   ·exact e2.symm
   have h1:=hb'.1 a e
   have h2:=ha'.1 b e2
   have:=h.trans h1 h2
   rw[h.refl]at this;exact absurd this (by decide)
  subst hab;congr 1
  refine asc_uniq h ha'.2 hb'.2 fun x=>?_
  have hne:∀ {m:List α},(∀y∈m,c a y = -1)→x∈m→x≠a:=fun hh hx e=>by
   subst e;have:=hh _ hx
   rw[h.refl]at this;exact absurd this (by decide)
  constructor
  ·intro hx;rcases List.mem_cons.1 ((hm x).1 (List.mem_cons_of_mem _ hx)) with e|e
   ·exact absurd e (hne ha'.1 hx)
   ·exact e
  ·intro hx;rcases List.mem_cons.1 ((hm x).2 (List.mem_cons_of_mem _ hx)) with e|e
   ·exact absurd e (hne hb'.1 hx)
   ·exact e
theorem SetOf.uniq(h:Ord3 c){db l k:List α}(h1:SetOf c db l)(h2:SetOf c db k):l=k:=asc_uniq h h1.asc h2.asc fun x=>(h1.mem x).trans (h2.mem x).symm
def insA(c:α→α→Int)(f:α):List α→List α
 | []=>[f]
 | x::l=>if c f x = -1 then f::x::l else if c f x=0 then x::l else x::insA c f l
def setA(c:α→α→Int):List α→List α
 | []=>[]
 | f::db=>insA c f (setA c db)
theorem insA_mem(h:Ord3 c){f x:α}:∀ {l:List α},x∈insA c f l↔x=f∨x∈l
 | []=>by simp[insA]
 | y::l=>by
  unfold insA;split
  ·simp
  ·split
   ·rename_i e
    have e:=h.eq0 e
    subst e;simp
   ·rw[List.mem_cons,insA_mem h,List.mem_cons];constructor
    ·rintro (h|h|h)
     ·exact .inr (.inl h)
     ·exact .inl h
     ·exact .inr (.inr h)
    ·rintro (h|h|h)
     ·exact .inr (.inl h)
     ·exact .inl h
     ·exact .inr (.inr h)
theorem insA_asc(h:Ord3 c){f:α}:∀ {l:List α},(l.Pairwise fun a b=>c a b = -1)→(insA c f l).Pairwise fun a b=>c a b = -1
 | [],_=>by simp[insA]
 | y::l,ha=>by
  have ha':=List.pairwise_cons.1 ha
  unfold insA;split
  ·rename_i e
   refine List.pairwise_cons.2 ⟨fun z hz=>?_,ha⟩
   rcases List.mem_cons.1 hz with q|q
   ·rw[q];exact e
   ·exact h.trans e (ha'.1 z q)
  ·split
   ·exact ha
   ·rename_i e1 e2
    refine List.pairwise_cons.2 ⟨fun z hz=>?_,insA_asc h ha'.2⟩
    rcases (insA_mem h).1 hz with q|q
    ·rw[q,h.anti];rcases h.rng f y with r|r|r
     ·exact absurd r e1
     ·exact absurd r e2
     ·rw[r]
    ·exact ha'.1 z q
theorem setA_of(h:Ord3 c):∀db:List α,SetOf c db (setA c db)
 | []=>⟨List.Pairwise.nil,fun x=>Iff.rfl⟩
 | f::db=>⟨insA_asc h (setA_of h db).asc,fun x=>by
  show x∈insA c f (setA c db)↔_
  rw[insA_mem h,(setA_of h db).mem,List.mem_cons]⟩
theorem SetOf.eq(h:Ord3 c){db l:List α}(h1:SetOf c db l):l=setA c db:=h1.uniq h (setA_of h db)
theorem setA_congr(h:Ord3 c){db db':List α}(hm:∀x,x∈db↔x∈db'):setA c db=setA c db':=
 (SetOf.mk (setA_of h db).asc fun x=>((setA_of h db).mem x).trans (hm x)).eq h
theorem setA_mem(h:Ord3 c){db:List α}{x:α}:x∈setA c db↔x∈db:=(setA_of h db).mem x
theorem insA_len{f:α}:∀ {l:List α},(insA c f l).length≤l.length+1
 | []=>by simp[insA]
 | y::l=>by
  have:=insA_len (f:=f) (l:=l)
  unfold insA;split
  ·simp
  ·split
   ·simp
   ·simp;omega
theorem setA_len:∀ {db:List α},(setA c db).length≤db.length
 | []=>by simp[setA]
 | f::db=>by
  have:=setA_len (db:=db)
  have:=insA_len (c:=c) (f:=f) (l:=setA c db)
  simp only[setA,List.length_cons];omega
end
def kp{α:Type}(p:α→α→Bool):α→List α→List α
 | _,[]=>[]
 | a,b::l=>if p b a=true then kp p b l else b::kp p b l
def cmpct{α:Type}(p:α→α→Bool):List α→List α
 | []=>[]
 | a::l=>a::kp p a l
theorem kp_mem_of{α:Type}{p:α→α→Bool}{x:α}:∀ {l:List α} {a:α},x∈kp p a l→x∈l
 | [],_,h=>h
 | b::l,a,h=>by
  unfold kp at h;split at h
  ·exact List.mem_cons_of_mem _ (kp_mem_of h)
  ·rcases List.mem_cons.1 h with e|e
   ·rw[e];exact List.mem_cons_self
   ·exact List.mem_cons_of_mem _ (kp_mem_of e)
theorem cmpct_mem_of{α:Type}{p:α→α→Bool}{x:α}{l:List α}(h:x∈cmpct p l):x∈l:=by
 cases l with
 | nil=>exact h
 | cons a l=>
  rcases List.mem_cons.1 h with e|e
  ·rw[e];exact List.mem_cons_self
  ·exact List.mem_cons_of_mem _ (kp_mem_of e)
theorem kp_len{α:Type}{p:α→α→Bool}:∀ {l:List α} {a:α},(kp p a l).length≤l.length
 | [],_=>Nat.le_refl _
 | b::l,a=>by
  unfold kp;have:=kp_len (p:=p) (l:=l) (a:=b)
  split
  ·simp;omega
  ·simp;omega
theorem kp_snoc{α:Type}{p:α→α→Bool}{y:α}:∀(l:List α) (a:α),kp p a (l++[y])=kp p a l++(if p y (l.getLast?.getD a)=true then [] else [y])
 | [],a=>by
  show (if p y a=true then kp p y [] else y::kp p y [])=_
  rfl
 | b::l,a=>by
  have ih:=kp_snoc (p:=p) (y:=y) l b
  have hl:((b::l).getLast?).getD a=l.getLast?.getD b:=by
   cases l with
   | nil=>rfl
   | cons x l=>simp[List.getLast?_cons_cons];rw[List.getLast?_eq_some_getLast (by simp)];rfl
  rw[hl,List.cons_append];show (if p b a=true then kp p b (l++[y]) else b::kp p b (l++[y]))=(if p b a=true then kp p b l else b::kp p b l)++_
  rw[ih];split <;> simp
theorem cmpct_succ{α:Type}{p:α→α→Bool}{fs:List α}{j:Nat}{x y:α}(h0:0<j)(hy:fs[j]? = some y)(hx:fs[j-1]? = some x):cmpct p (fs.take (j+1))=if p y x=true then cmpct p (fs.take j) else cmpct p (fs.take j)++[y]:=by
 have ht:fs.take (j+1)=fs.take j++[y]:=by rw[List.take_add_one,hy];rfl
 have hjl:=(List.getElem?_eq_some_iff.1 hy).1
 rw[ht];have hlast:(fs.take j).getLast? = some x:=by
  rw[List.getLast?_eq_getElem?,List.length_take,Nat.min_eq_left (by omega),List.getElem?_take,if_pos (by omega)]
  exact hx
 cases hl:fs.take j with
 | nil=>rw[hl]at hlast;cases hlast
 | cons a l=>
  rw[hl]at hlast;have hla:l.getLast?.getD a=x:=by
   cases l with
   | nil=>simpa using hlast
   | cons b l=>rw[List.getLast?_cons_cons]at hlast;rw[hlast];rfl
  show a::kp p a (l++[y])=_
  rw[kp_snoc,hla];split <;> simp[cmpct]
section
variable {α β:Type}{c:α→α→Int}
theorem kp_spec(h:Ord3 c)(F:β→α):∀ {l:List β} {a:β},((a::l).Pairwise fun x y=>c (F y) (F x)≠-1) →
  ((kp (fun x y=>decide (c (F x) (F y)=0)) a l).map F).Pairwise (fun x y=>c x y = -1)∧(∀x∈(kp (fun x y=>decide (c (F x) (F y)=0)) a l).map F,c (F a) x = -1)∧∀x,x∈F a::(kp (fun x y=>decide (c (F x) (F y)=0)) a l).map F↔x∈F a::l.map F
 | [],a,_=>⟨List.Pairwise.nil,fun x hx=>absurd hx (by simp[kp]),fun x=>Iff.rfl⟩
 | b::l,a,hs=>by
  have hs':=List.pairwise_cons.1 hs
  obtain⟨k1,k2,k3⟩:=kp_spec h F hs'.2
  unfold kp;by_cases e:c (F b) (F a)=0
  ·have e2:=h.eq0 e
   rw[if_pos (decide_eq_true e)];rw[e2]at k2 k3
   refine⟨k1,k2,fun x=>?_⟩
   rw[k3 x,List.map_cons,e2];simp
  ·rw[if_neg (by simp[e])]
   have e3:c (F a) (F b) = -1:=by
    have h1:=hs'.1 b List.mem_cons_self
    rw[h.anti];rcases h.rng (F b) (F a) with r|r|r
    ·exact absurd r h1
    ·exact absurd r e
    ·rw[r]
   refine⟨?_,fun x hx=>?_,fun x=>?_⟩
   ·rw[List.map_cons];exact List.pairwise_cons.2 ⟨k2,k1⟩
   ·rw[List.map_cons]at hx;rcases List.mem_cons.1 hx with q|q
    ·rw[q];exact e3
    ·exact h.trans e3 (k2 x q)
   ·rw[List.map_cons,List.mem_cons,k3 x,List.map_cons,List.mem_cons (b:=F a)]
theorem cmpct_set(h:Ord3 c)(F:β→α){fs gs:List β}(hp:gs.Perm fs)(hs:gs.Pairwise fun x y=>c (F y) (F x)≠-1):(cmpct (fun x y=>decide (c (F x) (F y)=0)) gs).map F=setA c (fs.map F):=by
 refine SetOf.eq h ?_
 have hm:∀x,x∈gs.map F↔x∈fs.map F:=fun x=>(hp.map F).mem_iff
 cases gs with
 | nil=>exact⟨List.Pairwise.nil,hm⟩
 | cons a l=>
  obtain⟨k1,k2,k3⟩:=kp_spec h F hs
  refine⟨?_,fun x=>(k3 x).trans (hm x)⟩
  show ((F a::(kp _ a l).map F)).Pairwise _
  exact List.pairwise_cons.2 ⟨k2,k1⟩
end
end Go.Proofs.YtfoggcgogafocaaGreat
end
section
open Go Mk
namespace Go.Proofs.YtfoggcgogafocaaGreat
set_option maxHeartbeats 4000000
attribute [local irreducible] Calls cI cB cFact
theorem add_any(Γ:Gho)(S:List Res)(w:World)(v:Value)(fs:List FactH)(f:FactH)(hok:∀x∈fs,FOk Γ x)(hf:FOk Γ f)(hl:fs.length≤100000)(hw:Wd Γ (.own v 67 2 (fs.map cF)::S) w) :
  Calls Tryz.prog 68 #[v,.agg (cF f).toArray] w fun e w'=>∃v',e=.returned v'∧Wd Γ (.own v' 67 2 ((addF fs f).map cF)::S) w':=by
 obtain⟨a,n,c,rfl,hn,hnc,hc⟩:=hw.own_shape (i:=0) rfl
 simp only[List.length_map]at hn
 refine calls_of_W Tryz.func68 rfl rfl ?_
 repeat first|refine byW ?_|refine byV ?_;intro w hw
 refine lBox ?_;intro b3 w hw;have hw:Wd Γ (.blk b3 (.cells (cF f).toArray 67)::.own (.slice a n c) 67 2 (fs.map cF)::S) w:=hw
 repeat first|refine byW ?_|refine byV ?_;intro w hw
 refine W_loop (fun μ ρ w=>μ≤n∧Has ρ [(0,.slice a n c),(3,.pointer (some ⟨b3,0,none⟩)),(5,.int .i64 μ)]∧addK fs f n=addK fs f μ∧Wd Γ (.blk b3 (.cells (cF f).toArray 67)::.own (.slice a n c) 67 2 (fs.map cF)::S) w) n ⟨Nat.le_refl _,⟨rfl,rfl,rfl,trivial⟩,rfl,hw⟩ ?_
 clear hw;rintro k ρ w ⟨hkn,hρ,ho,hw⟩
 rw[hρ.eq];obtain⟨x,hx⟩:∃x:FactH,0<k→fs[((k:Int)-1).toNat]? = some x∧fs[k-1]? = some x∧FOk Γ x:=by
  by_cases h0:0<k
  ·obtain⟨x,hx⟩:=get_lt (l:=fs) (k:=k-1) (by omega)
   exact⟨x,fun _=>⟨by rw[show ((k:Int)-1).toNat=k-1 from by omega];exact hx,hx,hok x (List.mem_of_getElem? hx)⟩⟩
  ·exact⟨f,fun h=>absurd h h0⟩
 repeat first|refine byW ?_|refine byV ?_;intro w hw
 refine W_quiet (by kernel_rfl) (by kernel_rfl) hw ?_
 iterate 7 (first|refine Q_nil ?_|(apply Q_plain;first|(apply Q_go;first|refine qP ?_|refine qPg ?_)|refine qY ?_)|(apply Q_guarded;first|(apply Q_go;first|refine qPG ?_|refine qPgG ?_)|refine qG ?_))
 apply Q_guarded
 refine qG ?_ (hy:=fun hc w hw=>by
  have h0:=(hx (by have:=of_decide_eq_true hc;omega)).1
  exact byPUG)
 first|refine Q_nil ?_|(apply Q_plain;first|(apply Q_go;first|refine qP ?_|refine qPg ?_)|refine qY ?_)|(apply Q_guarded;first|(apply Q_go;first|refine qPG ?_|refine qPgG ?_)|refine qG ?_)
 refine qPgH (c:=decide ((0:Int)<(k:Int))) (fun hc=>pg_refF (hx (by have:=of_decide_eq_true hc;omega)).2.2 hf) ?_
 refine byQ ?_;intro w hw;refine W_cond rfl (fun h=>?_) (fun h=>?_)
 ·have h:0<k∧0<cFact x.fact f.fact:=by simpa using h
  obtain⟨h0,h1⟩:=h;obtain⟨-,hx2,-⟩:=hx h0
  repeat first|refine byW ?_|refine byV ?_;intro w hw
  refine⟨k-1,by omega,by omega,⟨rfl,rfl,by rw[show (((k-1:Nat):Int))=(k:Int)-1 from by omega];rfl,trivial⟩,?_,hw⟩
  obtain⟨k,rfl⟩:∃j,k=j+1:=⟨k-1,by omega⟩
  rw[ho];show addK fs f (k+1)=addK fs f k
  conv=>lhs;unfold addK
  simp only[Nat.add_sub_cancel]at hx2
  rw[hx2];exact if_pos h1
 ·have hK:addK fs f n=k:=by
   rw[ho];cases k with
   | zero=>rfl
   | succ k=>
    obtain⟨-,hx2,-⟩:=hx (by omega)
    simp only[Nat.add_sub_cancel]at hx2
    unfold addK;rw[hx2];refine if_neg fun h1=>?_
    have h0:(0:Int)<(k:Int)+1:=by omega
    simp[h1,h0]at h
  clear h ho;repeat first|refine byW ?_|refine byV ?_;intro w hw
  refine W_quiet (by kernel_rfl) (by kernel_rfl) hw ?_
  iterate 7 (first|refine Q_nil ?_|(apply Q_plain;first|(apply Q_go;first|refine qP ?_|refine qPg ?_)|refine qY ?_)|(apply Q_guarded;first|(apply Q_go;first|refine qPG ?_|refine qPgG ?_)|refine qG ?_))
  apply Q_guarded
  refine qG ?_ (hy:=fun hc w hw=>by
   have h0:=(hx (by have:=of_decide_eq_true hc;omega)).1
   exact byPUG)
  first|refine Q_nil ?_|(apply Q_plain;first|(apply Q_go;first|refine qP ?_|refine qPg ?_)|refine qY ?_)|(apply Q_guarded;first|(apply Q_go;first|refine qPG ?_|refine qPgG ?_)|refine qG ?_)
  refine qPgH (c:=decide ((0:Int)<(k:Int))) (fun hc=>pg_refF (hx (by have:=of_decide_eq_true hc;omega)).2.2 hf) ?_
  refine byQ ?_;intro w hw;refine W_cond rfl (fun h=>?_) (fun h=>?_)
  ·have h:0<k∧cFact x.fact f.fact=0:=by simpa using h
   obtain⟨h0,h1⟩:=h;obtain⟨-,hx2,-⟩:=hx h0
   have hA:addF fs f=fs:=by
    unfold addF;rw[←hn,hK];obtain⟨k,rfl⟩:∃j,k=j+1:=⟨k-1,by omega⟩
    simp only[Nat.add_sub_cancel]at hx2
    simp only[hx2]
    exact if_pos h1
   repeat first|refine byW ?_|refine byV ?_;intro w hw
   exact⟨_,rfl,_,rfl,by rw[hA];exact hw.drop⟩
  ·have hA:addF fs f=fs.take k++f::fs.drop k:=by
    unfold addF;rw[←hn,hK];cases k with
    | zero=>rfl
    | succ k=>
     obtain⟨-,hx2,-⟩:=hx (by omega)
     simp only[Nat.add_sub_cancel]at hx2
     simp only[hx2]
     refine if_neg fun h1=>?_
     have h0:(0:Int)<(k:Int)+1:=by omega
     simp[h1,h0]at h
   clear h hK;repeat first|refine byW ?_|refine byV ?_;intro w hw
   refine W_mixE 2 [[],[],[],[0],[],[1],[0],[0]] [[],[],[],[0],[],[1],[0,1],[0]] [[39,42,6],[41]] ?_
   refine byM ?_;refine mAppNil (m:=k) (rows2:=(fs.take k).map cF) ?_ (fun Y w hw=>by rw[List.map_take];exact(Wd.own_rd (i:=1) hw rfl).take k) (by simp;omega) (cFs_one _)
   refine byM ?_;refine mBuild [cF f] ?_
   refine mAppOwn2 (rows2:=[cF f]) ?_ (cFs_one [f]) (hb:=by simp;omega) (h63:=by simp;omega)
   refine mAssV ?_
   refine mEnd fun w g hw=>?_
   have hw:=hw.perm List.perm_append_comm
   have hw:Wd Γ (.own (g 6) 67 2 ((fs.take k).map cF++[cF f])::.own (g 41) 67 2 [cF f]::.blk b3 (.cells (cF f).toArray 67)::.own (.slice a n c) 67 2 (fs.map cF)::S) w:=hw
   obtain⟨a6,n6,c6,e6,hn6,hnc6,hc6⟩:=hw.own_shape (i:=0) rfl
   rw[e6]at hw;simp at hn6
   have hw:Wd Γ (.own (.slice a6 n6 c6) 67 2 ((fs.take k).map cF++[cF f])::.own (.slice a n c) 67 2 (fs.map cF)::.blk b3 (.cells (cF f).toArray 67)::S) w:=(hw.dropAt 1).ps [2,1]
   refine W_has (l:=[(0,.slice a n c),(5,.int .i64 k),(6,.slice a6 n6 c6)]) ⟨rfl,rfl,e6,trivial⟩ fun ρ hρ=>?_
   rw[hρ.eq];repeat first|refine byW ?_|refine byV ?_;intro w hw
   refine lApp (i:=0) (rows2:=(fs.drop k).map cF) ?_ (by rw[List.map_drop];exact(Wd.own_rd (i:=1) hw rfl).cut (c:=c) (by simp;omega) k (by simp;omega)) rfl rfl hw rfl (List.all_eq_true.2 (cFs_one _)) (by simp;omega)
   intro v' w hw;repeat first|refine byW ?_|refine byV ?_;intro w hw
   have hw:Wd Γ (.own v' 67 2 (((fs.take k).map cF++[cF f])++(fs.drop k).map cF)::.own (.slice a n c) 67 2 (fs.map cF)::.blk b3 (.cells (cF f).toArray 67)::S) w:=hw
   rw[show ((fs.take k).map cF++[cF f])++(fs.drop k).map cF=(addF fs f).map cF from by rw[hA];simp]at hw
   exact⟨_,rfl,v',rfl,(hw.dropAt 1).dropAt 1⟩
end Go.Proofs.YtfoggcgogafocaaGreat
end
section
open Go Mk
namespace Go.Proofs.YtfoggcgogafocaaGreat
set_option maxHeartbeats 4000000
attribute [local irreducible] Calls cI cB cFact addF
def setF(fs:List FactH):List FactH:=fs.foldl addF []
theorem setF_succ{fs:List FactH}{k:Nat}{x:FactH}(h:fs[k]? = some x):setF (fs.take (k+1))=addF (setF (fs.take k)) x:=by
 unfold setF;rw[List.take_add_one,h];simp
theorem addF_mem{fs:List FactH}{f x:FactH}(h:x∈addF fs f):x∈fs∨x=f:=by
 unfold addF at h;dsimp only at h
 split at h
 ·rcases List.mem_cons.1 h with h|h
  ·exact .inr h
  ·exact .inl h
 ·have key:∀k,x∈fs.take k++f::fs.drop k→x∈fs∨x=f:=fun k h=>by
   rcases List.mem_append.1 h with h|h
   ·exact .inl (List.mem_of_mem_take h)
   ·rcases List.mem_cons.1 h with h|h
    ·exact .inr h
    ·exact .inl (List.mem_of_mem_drop h)
  split at h
  ·split at h
   ·exact .inl h
   ·exact key _ h
  ·exact key _ h
theorem addF_len{fs:List FactH}{f:FactH}:(addF fs f).length≤fs.length+1:=by
 unfold addF;dsimp only
 split
 ·simp
 ·split
  ·split
   ·omega
   ·simp;omega
  ·simp;omega
theorem setF_mem{fs:List FactH}{x:FactH}(h:x∈setF fs):x∈fs:=by
 have key:∀(l:List FactH) (acc:List FactH),x∈l.foldl addF acc→x∈acc∨x∈l:=by
  intro l;induction l with
  | nil=>intro acc h;exact .inl h
  | cons y l ih=>
   intro acc h;rcases ih _ h with h|h
   ·rcases addF_mem h with h|h
    ·exact .inl h
    ·exact .inr (by simp[h])
   ·exact .inr (by simp[h])
 rcases key fs [] h with h|h
 ·simp at h
 ·exact h
theorem setF_len(fs:List FactH):(setF fs).length≤fs.length:=by
 have key:∀(l:List FactH) (acc:List FactH),(l.foldl addF acc).length≤acc.length+l.length:=by
  intro l;induction l with
  | nil=>intro acc;simp
  | cons y l ih=>
   intro acc;have:=ih (addF acc y)
   have:=addF_len (fs:=acc) (f:=y)
   simp only[List.foldl_cons,List.length_cons];omega
 show (fs.foldl addF []).length≤fs.length
 simpa using key fs []
instance pg_Word(Γ:Gho)(s:ByteArray):PG Tryz.prog Γ 29 [.string s] (.agg (enc (⟨2,0,s⟩:Val)).toArray):=⟨fun S w hw=>by
 refine calls_of_WC Tryz.func29 rfl rfl ?_
 repeat first|refine byW ?_|refine byV ?_;intro w hw
 refine lAlloc ?_;intro b w hw;repeat first|refine byW ?_|refine byV ?_;intro w hw
 refine lStore ?_;intro w hw;have hw:Wd Γ (.blk b (.cells (enc (⟨2,0,s⟩:Val)).toArray 41)::S) w:=hw
 repeat first|refine byW ?_|refine byV ?_;intro w hw
 exact⟨[.agg (enc (⟨2,0,s⟩:Val)).toArray],⟨resC (i:=0) hw rfl rfl rfl,trivial⟩,rfl,hw.drop⟩⟩
instance pg_Int(Γ:Gho)(v:Int):PG Tryz.prog Γ 9 [.int .i64 v] (.agg (enc (⟨1,v,⟨#[]⟩⟩:Val)).toArray):=⟨fun S w hw=>by
 refine calls_of_WC Tryz.func9 rfl rfl ?_
 repeat first|refine byW ?_|refine byV ?_;intro w hw
 refine lAlloc ?_;intro b w hw;repeat first|refine byW ?_|refine byV ?_;intro w hw
 refine lStore ?_;intro w hw;have hw:Wd Γ (.blk b (.cells (enc (⟨1,v,⟨#[]⟩⟩:Val)).toArray 41)::S) w:=hw
 repeat first|refine byW ?_|refine byV ?_;intro w hw
 exact⟨[.agg (enc (⟨1,v,⟨#[]⟩⟩:Val)).toArray],⟨resC (i:=0) hw rfl rfl rfl,trivial⟩,rfl,hw.drop⟩⟩
theorem Fact_any(Γ:Gho)(S:List Res)(w:World)(va:Value)(rel:ByteArray)(vs:List Val)(hr:RdS Γ S va 3 (vs.map enc))(hl:vs.length≤100000)(hw:Wd Γ S w) :
  Calls Tryz.prog 23 #[.string rel,va] w fun e w'=>∃f:FactH,e=.returned (.agg (cF f).toArray)∧f.fact=(rel,vs)∧Wd Γ (.own f.hdr 41 3 (f.Args.map enc)::S) w':=by
 obtain⟨a,n,c,rfl,hn,hnc,hc⟩:=hr.shape;simp only[List.length_map]at hn
 refine calls_of_WC Tryz.func23 rfl rfl ?_
 repeat first|refine byW ?_|refine byV ?_;intro w hw
 refine lAlloc ?_;intro b w hw;repeat first|refine byW ?_|refine byV ?_;intro w hw
 have hw:=Wd.addNil (a:=none) (E:=41) (sz:=3) hw
 refine lApp (i:=0) (rows2:=vs.map enc) ?_ (hr.cons.cons.rd hw) rfl rfl hw rfl (List.all_eq_true.2 (fun u hu=>(List.all_eq_true.1 (encs_one vs)) u hu)) (by simpa using hn)
 intro v' w hw;obtain⟨a',n',c',rfl,hn',hnc',hc'⟩:=hw.own_shape (i:=0) rfl
 repeat first|refine byW ?_|refine byV ?_;intro w hw
 refine lStore ?_;intro w hw;have hw:Wd Γ (.own (.slice a' n' c') 41 3 (vs.map enc)::.blk b (.cells (cF ⟨rel,a',n',c',vs⟩).toArray 67)::S) w:=hw
 repeat first|refine byW ?_|refine byV ?_;intro w hw
 exact⟨[.agg (cF ⟨rel,a',n',c',vs⟩).toArray],⟨resC (i:=1) hw rfl rfl rfl,trivial⟩,⟨rel,a',n',c',vs⟩,rfl,rfl,hw.dropAt 1⟩
end Go.Proofs.YtfoggcgogafocaaGreat
end
section
open Go Mk
namespace Go.Proofs.YtfoggcgogafocaaGreat
set_option maxHeartbeats 4000000
attribute [local irreducible] Calls cI cB cFact addF
theorem FOk.mono{Γ Γ':Gho}{f:FactH}(h:FOk Γ f)(hl:Γ.le Γ'):FOk Γ' f:=RepS.mono h hl
theorem sort_facts{Γ:Gho}{S:List Res}{w:World}(fs:List FactH)(v:Value)(hok:∀f∈fs,FOk Γ f)(hl:fs.length≤1000000)(hw:Wd Γ (.own v 67 2 (fs.map cF)::S) w) :
  Calls Tryz.prog 51 #[v,.func (.func 52) #[] #[]] w fun e w'=>e=.returned (.tuple #[])∧∃gs:List FactH,gs.Perm fs∧(gs.Pairwise fun a b=>Go.Proofs.ltOf (fun a b:FactH=>cFact a.fact b.fact) b a=false)∧Wd Γ (.own v 67 2 (gs.map cF)::S) w':=by
 have hxs:(fs.attachWith (FOk Γ) hok).map Subtype.val=fs:=List.attachWith_map_subtype_val _
 have hrows:((fs.attachWith (FOk Γ) hok).map fun a=>cF a.1)=fs.map cF:=by
  conv=>rhs;rw[←hxs]
  rw[List.map_map];rfl
 rw[←hrows]at hw;haveI:Inhabited {f:FactH // FOk Γ f}:=⟨⟨⟨⟨#[]⟩,none,0,0,[]⟩,RepS.nil⟩⟩
 have:=SortFunc_K (α:={f:FactH // FOk Γ f}) (enc:=fun a=>cF a.1) lay_fct (fun a b=>cFact a.1.fact b.1.fact) 52 [] (fs.attachWith (FOk Γ) hok) v hw (i:=0) rfl (fun _=>rfl) (fun x u hu=>(List.all_eq_true.1 (cF_one x.1)) u hu) (by show TA Tryz.prog 67 2;infer_instance)
  (swo_on cFact_ord fun a:{f:FactH // FOk Γ f}=>a.1.fact) (by simp;omega) (fun dk w' hw' x y=>by
   have h1:∀b o,Γ.imm b=some o→(allG w').imm b=some o:=fun b o hb=>hw'.imm b o hb
   have h2:=pg_cmpF (Γ:=allG w') (f:=x.1) (g:=y.1) (RepS.imm x.2 h1) (RepS.imm y.2 h1)
   refine(h2.h [] w' (allG_wd w')).mono ?_
   rintro e w'' ⟨he,hw''⟩
   exact⟨he,[],hw''⟩)
 refine this.mono ?_
 rintro e w' ⟨he,ys,hp,hs,hw'⟩
 refine⟨he,ys.map Subtype.val,?_,?_,?_⟩
 ·have:=hp.map Subtype.val
  rwa [hxs]at this
 ·rw[List.pairwise_map];exact hs
 ·rw[List.map_map];exact hw'
end Go.Proofs.YtfoggcgogafocaaGreat
end
section
open Go Mk
namespace Go.Proofs.YtfoggcgogafocaaGreat
set_option maxHeartbeats 16000000
attribute [local irreducible] Calls cFact
theorem Clone_facts{Γ:Gho}{S:List Res}{w:World}{v:Value}{xs:List FactH}(hr:RdS Γ S v 2 (xs.map cF))(hN:xs.length≤1000000)(hw:Wd Γ S w) :
  Calls Tryz.prog 195 #[v] w fun e w'=>∃v',e=.returned v'∧Wd Γ (.own v' 67 2 (xs.map cF)::S) w':=by
 obtain⟨a,n,c,rfl,hn,hnc,hc⟩:=hr.shape;simp only[List.length_map]at hn
 refine calls_of_W Tryz.func195 rfl rfl ?_
 repeat first|refine byW ?_|refine byV ?_;intro w hw
 refine W_cond rfl (fun h=>?_) (fun h=>?_)
 ·repeat first|refine byW ?_|refine byV ?_;intro w hw
  have hx:xs=[]:=by
   cases a with
   | none=>
    cases xs with
    | nil=>rfl
    | cons x xs=>have:=(hr.rd hw).at_ (by simp);cases this
   | some a=>cases h
  subst hx;exact⟨_,rfl,_,rfl,Wd.addNil hw⟩
 ·repeat first|refine byW ?_|refine byV ?_;intro w hw
  refine lBuildSlice [] ?_
  intro a2 w hw;repeat first|refine byW ?_|refine byV ?_;intro w hw
  refine lApp (i:=0) (rows2:=xs.map cF) ?_ ((RdS.cons hr).rd hw) rfl rfl hw rfl (List.all_eq_true.2 (cFs_one xs)) (by simpa using hn)
  intro v' w hw;repeat first|refine byW ?_|refine byV ?_;intro w hw
  exact⟨_,rfl,v',rfl,by simpa using hw⟩
theorem Clone_vals{Γ:Gho}{S:List Res}{w:World}{v:Value}{xs:List Val}(hr:RepS Γ v 3 (xs.map enc))(hN:xs.length≤1000000)(hw:Wd Γ S w) :
  Calls Tryz.prog 126 #[v] w fun e w'=>∃v',e=.returned v'∧Wd Γ (.own v' 41 3 (xs.map enc)::S) w':=by
 obtain⟨a,n,c,rfl,hn,hnc,hc⟩:=hr.shape;simp only[List.length_map]at hn
 refine calls_of_W Tryz.func126 rfl rfl ?_
 repeat first|refine byW ?_|refine byV ?_;intro w hw
 refine W_cond rfl (fun h=>?_) (fun h=>?_)
 ·repeat first|refine byW ?_|refine byV ?_;intro w hw
  have hx:xs=[]:=by
   cases a with
   | none=>
    cases xs with
    | nil=>rfl
    | cons x xs=>have:=(hr.rd hw).at_ (by simp);cases this
   | some a=>cases h
  subst hx;exact⟨_,rfl,_,rfl,Wd.addNil hw⟩
 ·repeat first|refine byW ?_|refine byV ?_;intro w hw
  refine lBuildSlice [] ?_
  intro a2 w hw;repeat first|refine byW ?_|refine byV ?_;intro w hw
  refine lApp (i:=0) (rows2:=xs.map enc) ?_ (hr.rd hw) rfl rfl hw rfl (encs_one xs) (by simpa using hn)
  intro v' w hw;repeat first|refine byW ?_|refine byV ?_;intro w hw
  exact⟨_,rfl,v',rfl,by simpa using hw⟩
def cmpV:Value:=.func (.func 52) #[] #[]
def eqF(x y:FactH):Bool:=decide (cFact x.fact y.fact=0)
theorem eqcl_any{Γ:Gho}{S:List Res}{w:World}{b3:Nat}{f g:FactH}(hf:FOk Γ f)(hg:FOk Γ g)(hw:Wd Γ (.blk b3 (.cells #[cmpV] 126)::S) w) :
  Calls Tryz.prog 197 #[.agg (cF f).toArray,.agg (cF g).toArray,.pointer (some ⟨b3,0,none⟩)] w fun e w'=>e=.returned (.bool (eqF f g))∧Wd Γ (.blk b3 (.cells #[cmpV] 126)::S) w':=by
 have hC:=pg_cmpF hf hg
 obtain⟨fr,fa,fn,fc,fs⟩:=f;obtain⟨gr,ga,gn,gc,gs⟩:=g;refine calls_of_W Tryz.func197 rfl rfl ?_
 repeat first|refine byW ?_|refine byV ?_;intro w hw
 refine lBox ?_;intro b1 w hw;refine lBox ?_;intro b2 w hw;have hw:Wd Γ (.blk b2 (.cells #[.string gr,.slice ga gn gc] 67)::.blk b1 (.cells #[.string fr,.slice fa fn fc] 67)::.blk b3 (.cells #[cmpV] 126)::S) w:=hw
 repeat first|refine byW ?_|refine byV ?_;intro w hw
 refine lCallv (fst:=[]) (cap:=[]) ?_
 refine(hC.h _ _ hw).mono ?_
 rintro e w ⟨rfl,hw⟩
 refine⟨_,rfl,?_⟩;repeat first|refine byW ?_|refine byV ?_;intro w hw
 exact⟨_,rfl,rfl,hw.drop.drop⟩
theorem Compact_any{Γ:Gho}{S:List Res}{w:World}{b3:Nat}{v:Value}(fs:List FactH)(hok:∀f∈fs,FOk Γ f)(hl:fs.length≤1000000)(hw:Wd Γ (.own v 67 2 (fs.map cF)::.blk b3 (.cells #[cmpV] 126)::S) w) :
  Calls Tryz.prog 196 #[v,.func (.func 197) #[] #[.pointer (some ⟨b3,0,none⟩)]] w fun e w'=>∃v',e=.returned v'∧Wd Γ (.own v' 67 2 ((cmpct eqF fs).map cF)::.blk b3 (.cells #[cmpV] 126)::S) w':=by
 obtain⟨a,n,c,rfl,hn,hnc,hc⟩:=hw.own_shape (i:=0) rfl
 simp only[List.length_map]at hn
 refine calls_of_W Tryz.func196 rfl rfl ?_
 repeat first|refine byW ?_|refine byV ?_;intro w hw
 refine W_cond rfl (fun h=>?_) (fun h=>?_)
 ·have h:n<2:=by have:=of_decide_eq_true h;omega
  repeat first|refine byW ?_|refine byV ?_;intro w hw
  have hE:cmpct eqF fs=fs:=by
   cases fs with
   | nil=>rfl
   | cons x fs=>
    cases fs with
    | nil=>rfl
    | cons y fs=>simp at hn;omega
  rw[hE];exact⟨_,rfl,_,rfl,hw⟩
 have h:2≤n:=by have:=of_decide_eq_false h;omega
 repeat first|refine byW ?_|refine byV ?_;intro w hw
 refine W_loop (fun μ ρ w=>∃(k:Nat),μ+k=n∧1≤k∧Has ρ [(0,.slice a n c),(1,.func (.func 197) #[] #[.pointer (some ⟨b3,0,none⟩)]),(5,.int .i64 k)]∧cmpct eqF (fs.take k)=fs.take k∧Wd Γ (.own (.slice a n c) 67 2 (fs.map cF)::.blk b3 (.cells #[cmpV] 126)::S) w) (n-1) ⟨1,by omega,by omega,⟨rfl,rfl,rfl,trivial⟩,?_,hw⟩ ?_
 ·cases fs with
  | nil=>rfl
  | cons x fs=>rfl
 clear hw;rintro μ ρ w ⟨k,hk,hk1,hρ,ho,hw⟩
 rw[hρ.eq];repeat first|refine byW ?_|refine byV ?_;intro w hw
 refine W_cond rfl (fun h=>?_) (fun h=>?_)
 ·have hkn:k<n:=by have:=of_decide_eq_true h;omega
  obtain⟨y,hy⟩:=get_lt (l:=fs) (k:=k) (by omega)
  obtain⟨x,hx0⟩:=get_lt (l:=fs) (k:=k-1) (by omega)
  have hx:fs[((k:Int)-1).toNat]? = some x:=by rw[show ((k:Int)-1).toNat=k-1 from by omega];exact hx0
  have hfy:=hok y (List.mem_of_getElem? hy)
  have hfx:=hok x (List.mem_of_getElem? hx0)
  have hsucc:=cmpct_succ (p:=eqF) (by omega) hy hx0
  repeat first|refine byW ?_|refine byV ?_;intro w hw
  refine W_quiet (by kernel_rfl) (by kernel_rfl) hw ?_
  iterate 10 (first|refine Q_nil ?_|(apply Q_plain;first|(apply Q_go;first|refine qP ?_|refine qPg ?_)|refine qY ?_)|(apply Q_guarded;first|(apply Q_go;first|refine qPG ?_|refine qPgG ?_)|refine qG ?_))
  refine qPsv (v:=.bool (eqF y x)) (cap:=[.pointer (some ⟨b3,0,none⟩)]) (vs:=[.agg (cF y).toArray,.agg (cF x).toArray]) (fun Y w hw=>?_) ?_
  ·have hw:Wd Γ (.blk b3 (.cells #[cmpV] 126)::(.own (.slice a n c) 67 2 (fs.map cF)::S++Y)) w:=hw.ps [1]
   refine(eqcl_any hfy hfx hw).mono ?_
   rintro e w ⟨rfl,hw⟩
   exact⟨rfl,hw.ps [1]⟩
  refine byQ ?_;intro w hw;refine W_cond rfl (fun h2=>?_) (fun h2=>?_)
  ·rw[if_pos h2]at hsucc;repeat first|refine byW ?_|refine byV ?_;intro w hw
   refine W_loop (fun μ ρ w=>∃(m q:Nat) (cur:List FactH),μ+(k+m)=n∧1≤m∧1≤q∧q<k+m∧Has ρ [(0,.slice a n c),(1,.func (.func 197) #[] #[.pointer (some ⟨b3,0,none⟩)]),(5,.int .i64 q),(6,.slice (cutA a k c 2) (n-k) (c-k)),(7,.int .i64 m)]∧cur.length=n∧cur.take q=cmpct eqF (fs.take (k+m))∧(∀i,k+m-1≤i→cur[i]? = fs[i]?)∧Wd Γ (.own (.slice a n c) 67 2 (cur.map cF)::.blk b3 (.cells #[cmpV] 126)::S) w) (n-(k+1)) ⟨1,k,fs,by omega,by omega,by omega,by omega,⟨rfl,rfl,rfl,rfl,rfl,trivial⟩,hn.symm,by rw[hsucc,ho],fun i _=>rfl,hw⟩ ?_
   clear hw hρ hsucc;rintro μ2 ρ w ⟨m,q,cur,hm,hm1,hq1,hq2,hρ,hcl,hcur,hsame,hw⟩
   rw[hρ.eq];repeat first|refine byW ?_|refine byV ?_;intro w hw
   refine W_cond rfl (fun h3=>?_) (fun h3=>?_)
   ·have hmn:k+m<n:=by have:=of_decide_eq_true h3;omega
    obtain⟨y2,hy2⟩:=get_lt (l:=fs) (k:=k+m) (by omega)
    obtain⟨x2,hx2⟩:=get_lt (l:=fs) (k:=k+m-1) (by omega)
    have hcy:(cur.drop k)[m]? = some y2:=by rw[List.getElem?_drop,hsame _ (by omega)];exact hy2
    have hcx:(cur.drop k)[((m:Int)-1).toNat]? = some x2:=by
     rw[List.getElem?_drop,hsame _ (by omega),show k+((m:Int)-1).toNat=k+m-1 from by omega];exact hx2
    have hfy2:=hok y2 (List.mem_of_getElem? hy2)
    have hfx2:=hok x2 (List.mem_of_getElem? hx2)
    have hsucc:=cmpct_succ (p:=eqF) (by omega) hy2 hx2
    have hlen:n-k=((cur.drop k).map cF).length:=by simp[hcl]
    have hR2:RdS Γ (.own (.slice a n c) 67 2 (cur.map cF)::.blk b3 (.cells #[cmpV] 126)::S) (.slice (cutA a k c 2) (n-k) (c-k)) 2 ((cur.drop k).map cF):=⟨_,_,_,rfl,hlen,by omega,by omega,fun w hw=>by
     have:=(Wd.own_rd (i:=0) hw rfl).cut (c:=c) (by simp;omega) k (by simp;omega)
     rwa [←List.map_drop]at this⟩
    repeat first|refine byW ?_|refine byV ?_;intro w hw
    refine W_quiet (by kernel_rfl) (by kernel_rfl) hw ?_
    iterate 10 (first|refine Q_nil ?_|(apply Q_plain;first|(apply Q_go;first|refine qP ?_|refine qPg ?_)|refine qY ?_)|(apply Q_guarded;first|(apply Q_go;first|refine qPG ?_|refine qPgG ?_)|refine qG ?_))
    refine qPsv (v:=.bool (eqF y2 x2)) (cap:=[.pointer (some ⟨b3,0,none⟩)]) (vs:=[.agg (cF y2).toArray,.agg (cF x2).toArray]) (fun Y w hw=>?_) ?_
    ·have hw:Wd Γ (.blk b3 (.cells #[cmpV] 126)::(.own (.slice a n c) 67 2 (cur.map cF)::S++Y)) w:=hw.ps [1]
     refine(eqcl_any hfy2 hfx2 hw).mono ?_
     rintro e w ⟨rfl,hw⟩
     exact⟨rfl,hw.ps [1]⟩
    refine byQ ?_;intro w hw;refine W_cond rfl (fun h4=>?_) (fun h4=>?_)
    ·have h4:eqF y2 x2=false:=by simpa using h4
     rw[if_neg (by rw[h4];decide)]at hsucc
     repeat first|refine byW ?_|refine byV ?_;intro w hw
     refine lStoreE ?_;intro w hw;have hw:Wd Γ (.own (.slice a n c) 67 2 ((cur.map cF).set q (cF y2))::.blk b3 (.cells #[cmpV] 126)::S) w:=hw
     rw[←List.map_set]at hw;repeat first|refine byW ?_|refine byV ?_;intro w hw
     refine⟨n-(k+(m+1)),by omega,m+1,q+1,cur.set q y2,by omega,by omega,by omega,by omega,⟨rfl,rfl,rfl,rfl,rfl,trivial⟩,by rw[List.length_set];exact hcl,?_,fun i hi=>?_,hw⟩
     ·rw[show k+(m+1)=k+m+1 from rfl,hsucc,←hcur,List.take_add_one,List.take_set_of_le (by omega),List.getElem?_set_self (by omega)];rfl
     ·rw[List.getElem?_set_ne (by omega)];exact hsame i (by omega)
    ·have h4:eqF y2 x2=true:=by simpa using h4
     rw[if_pos h4]at hsucc;repeat first|refine byW ?_|refine byV ?_;intro w hw
     exact⟨n-(k+(m+1)),by omega,m+1,q,cur,by omega,by omega,by omega,by omega,⟨rfl,rfl,rfl,rfl,rfl,trivial⟩,hcl,by rw[show k+(m+1)=k+m+1 from rfl,hsucc];exact hcur,fun i hi=>hsame i (by omega),hw⟩
   ·have hmn:k+m=n:=by have:=of_decide_eq_false h3;omega
    have hfn:fs.take n=fs:=List.take_of_length_le (by omega)
    rw[hmn,hfn]at hcur;have hqn:q≤n:=by omega
    have hw:=Wd.own_take (i:=0) (m:=q) hw rfl hqn
    rw[←List.map_take,hcur]at hw;have hw:Wd Γ (.own (.slice a q c) 67 2 ((cmpct eqF fs).map cF)::.blk b3 (.cells #[cmpV] 126)::S) w:=hw
    repeat first|refine byW ?_|refine byV ?_;intro w hw
    refine lClear ?_;intro w hw;repeat first|refine byW ?_|refine byV ?_;intro w hw
    exact⟨_,rfl,_,rfl,hw⟩
  ·rw[if_neg (by rw[h2];decide)]at hsucc
   repeat first|refine byW ?_|refine byV ?_;intro w hw
   refine⟨μ-1,by omega,k+1,by omega,by omega,⟨rfl,rfl,rfl,trivial⟩,?_,hw⟩
   rw[hsucc,ho,List.take_add_one,hy];rfl
 ·have hkn:¬k<n:=by have:=of_decide_eq_false h;omega
  rw[List.take_of_length_le (by omega)]at ho
  repeat first|refine byW ?_|refine byV ?_;intro w hw
  rw[ho];exact⟨_,rfl,_,rfl,hw⟩
end Go.Proofs.YtfoggcgogafocaaGreat
end
section
open Go Mk
namespace Go.Proofs.YtfoggcgogafocaaGreat
set_option maxHeartbeats 16000000
attribute [local irreducible] Calls cFact
def ValOk(v:Val):Prop:=(-9223372036854775808≤v.Num∧v.Num≤9223372036854775807)∧v.Word.size≤100000
def FactOk(x:Fact):Prop:=x.2.length≤100000∧x.1.size≤100000∧∀v∈x.2,ValOk v
def FsOk(Γ:Gho)(fs:List FactH):Prop:=∀f∈fs,FOk Γ f∧FactOk f.fact
theorem FsOk.mono{Γ Γ':Gho}{fs:List FactH}(h:FsOk Γ fs)(hl:Γ.le Γ'):FsOk Γ' fs:=fun f hf=>⟨(h f hf).1.mono hl,(h f hf).2⟩
def facts(fs:List FactH):List Fact:=fs.map FactH.fact
def setS(l:List Fact):List Fact:=setA cFact l
theorem sorted_any{Γ:Gho}{S:List Res}{w:World}{v:Value}(fs:List FactH)(hok:FsOk Γ fs)(hl:fs.length≤100000)(hr:RdS Γ S v 2 (fs.map cF))(hw:Wd Γ S w) :
  Calls Tryz.prog 125 #[v,cmpV] w fun e w'=>∃v' gs,e=.returned v'∧facts gs=setS (facts fs)∧FsOk Γ gs∧Wd Γ (.own v' 67 2 (gs.map cF)::S) w':=by
 refine calls_of_W Tryz.func125 rfl rfl ?_
 repeat first|refine byW ?_|refine byV ?_;intro w hw
 refine lBox ?_;intro b3 w hw;have hw:Wd Γ (.blk b3 (.cells #[cmpV] 126)::S) w:=hw
 repeat first|refine byW ?_|refine byV ?_;intro w hw
 refine lCall (vs:=[v]) ?_
 refine(Clone_facts hr.cons (by omega) hw).mono ?_
 rintro e w ⟨v1,rfl,hw⟩
 refine⟨_,rfl,?_⟩;repeat first|refine byW ?_|refine byV ?_;intro w hw
 refine lCall (vs:=[v1,cmpV]) ?_
 refine(sort_facts fs v1 (fun f hf=>(hok f hf).1) (by omega) hw).mono ?_
 rintro e w ⟨rfl,gs,hp,hs,hw⟩
 refine⟨_,rfl,?_⟩;have hokg:∀g∈gs,g∈fs:=fun g hg=>hp.mem_iff.1 hg
 have hgl:gs.length=fs.length:=hp.length_eq
 repeat first|refine byW ?_|refine byV ?_;intro w hw
 refine lCall (vs:=[v1,.func (.func 197) #[] #[.pointer (some ⟨b3,0,none⟩)]]) ?_
 refine(Compact_any gs (fun g hg=>(hok g (hokg g hg)).1) (by omega) hw).mono ?_
 rintro e w ⟨v2,rfl,hw⟩
 refine⟨_,rfl,?_⟩;repeat first|refine byW ?_|refine byV ?_;intro w hw
 refine⟨_,rfl,v2,cmpct eqF gs,rfl,?_,fun g hg=>hok g (hokg g (cmpct_mem_of hg)),hw.dropAt 1⟩
 refine cmpct_set cFact_ord FactH.fact hp (hs.imp fun {a b} h q=>?_)
 have:Go.Proofs.ltOf cFact b.fact a.fact=true:=cFact_ord.lt_iff.2 q
 have h:Go.Proofs.ltOf cFact b.fact a.fact=false:=h
 rw[this]at h;cases h
theorem set_any{Γ:Gho}{S:List Res}{w:World}{v:Value}(fs:List FactH)(hok:FsOk Γ fs)(hl:fs.length≤100000)(hr:RdS Γ S v 2 (fs.map cF))(hw:Wd Γ S w) :
  Calls Tryz.prog 74 #[v] w fun e w'=>∃Γ' v' gs,Γ.le Γ'∧e=.returned v'∧facts gs=setS (facts fs)∧FsOk Γ' gs∧Wd Γ' (.own v' 67 2 (gs.map cF)::S) w':=by
 refine calls_of_W Tryz.func74 rfl rfl ?_
 repeat first|refine byW ?_|refine byV ?_;intro w hw
 refine lCall (vs:=[v,cmpV]) ?_
 refine(sorted_any fs hok hl hr hw).mono ?_
 clear hw;rintro e w ⟨v1,gs0,rfl,hgs0,hok0,hw⟩
 refine⟨_,rfl,?_⟩;obtain⟨a,n,c,rfl,hn,hnc,hc⟩:=hw.own_shape (i:=0) rfl
 simp only[List.length_map]at hn
 repeat first|refine byW ?_|refine byV ?_;intro w hw
 refine W_loop (fun μ ρ w=>∃(Γ':Gho) (k:Nat) (gs:List FactH),μ+k=n∧Γ.le Γ'∧gs.length=n∧Has ρ [(3,.slice a n c),(8,.int .i64 n),(9,.int .i64 k)]∧facts gs=setS (facts fs)∧FsOk Γ' gs∧Wd Γ' (.own (.slice a n c) 67 2 (gs.map cF)::S) w) n ⟨Γ,0,gs0,by omega,Gho.le.refl _,hn.symm,⟨rfl,rfl,rfl,trivial⟩,hgs0,hok0,hw⟩ ?_
 clear hw hgs0 hok0 hn hok hr;rintro μ ρ w ⟨Γ',k,gs,hk,hle,hn,hρ,hgs,hok,hw⟩
 rw[hρ.eq];repeat first|refine byW ?_|refine byV ?_;intro w hw
 refine W_cond rfl (fun h=>?_) (fun h=>?_)
 ·have hkn:k<n:=by have:=of_decide_eq_true h;omega
  obtain⟨g,hg⟩:=get_lt (l:=gs) (k:=k) (by omega)
  obtain⟨hf,hal⟩:=hok g (List.mem_of_getElem? hg)
  have hal1:g.Args.length≤100000:=hal.1
  repeat first|refine byW ?_|refine byV ?_;intro w hw
  refine lCall (vs:=[g.hdr]) ?_
  refine(Clone_vals (S:=.own (.slice a n c) 67 2 (gs.map cF)::S) hf (by omega) hw).mono ?_
  clear hw;rintro e w ⟨v2,rfl,hw⟩
  refine⟨_,rfl,?_⟩;obtain⟨a2,n2,c2,rfl,-,-,-⟩:=hw.own_shape (i:=0) rfl
  obtain⟨Γ2,hle2,hr2,hw⟩:=hw.freeze;repeat first|refine byW ?_|refine byV ?_;intro w hw
  refine lStoreEf (i:=0) (r:=[.slice a2 n2 c2]) ?_ (rows_map hg)
  intro w hw;have hw:Wd Γ2 (.own (.slice a n c) 67 2 ((gs.map cF).set k (cF ⟨g.Rel,a2,n2,c2,g.Args⟩))::S) w:=hw
  rw[←List.map_set]at hw;repeat first|refine byW ?_|refine byV ?_;intro w hw
  refine⟨μ-1,by omega,Γ2,k+1,gs.set k ⟨g.Rel,a2,n2,c2,g.Args⟩,by omega,hle.trans hle2,by rw[List.length_set];exact hn,⟨rfl,rfl,rfl,trivial⟩,?_,fun f hf2=>?_,hw⟩
  ·rw[←hgs];unfold facts;rw[List.map_set];refine List.ext_getElem? fun i=>?_
   rw[List.getElem?_set];split
   ·rename_i e;subst e
    rw[List.getElem?_map,hg];simp[hn,hkn,FactH.fact]
   ·rfl
  ·rcases List.mem_or_eq_of_mem_set hf2 with q|q
   ·exact⟨(hok f q).1.mono hle2,(hok f q).2⟩
   ·subst q;exact⟨hr2,hal⟩
 ·repeat first|refine byW ?_|refine byV ?_;intro w hw
  exact⟨_,rfl,Γ',_,gs,hle,rfl,hgs,hok,hw⟩
end Go.Proofs.YtfoggcgogafocaaGreat
end
section
open Go Mk
namespace Go.Proofs.YtfoggcgogafocaaGreat
set_option maxHeartbeats 16000000
attribute [local irreducible] Calls cFact
section
variable {Γ:Gho}{S:List Res}{w:World}
attribute [local irreducible] isS
end
end Go.Proofs.YtfoggcgogafocaaGreat
end
section
end
section
open Go Mk
namespace Go.Proofs.YtfoggcgogafocaaGreat
set_option maxHeartbeats 16000000
attribute [local irreducible] Calls cFact
end Go.Proofs.YtfoggcgogafocaaGreat
end
section
open Go Mk
namespace Go.Proofs.YtfoggcgogafocaaGreat
set_option maxHeartbeats 16000000
attribute [local irreducible] Calls cFact
end Go.Proofs.YtfoggcgogafocaaGreat
end
section
open Go Mk
namespace Go.Proofs.YtfoggcgogafocaaGreat
set_option maxHeartbeats 16000000
attribute [local irreducible] Calls cFact
section
variable {Γ:Gho}{S:List Res}{w:World}{b:Nat}
end
end Go.Proofs.YtfoggcgogafocaaGreat
end
section
open Go Mk
namespace Go.Proofs.YtfoggcgogafocaaGreat
set_option maxHeartbeats 16000000
attribute [local irreducible] Calls cFact
end Go.Proofs.YtfoggcgogafocaaGreat
end
section
open Go Mk
namespace Go.Proofs.YtfoggcgogafocaaGreat
set_option maxHeartbeats 16000000
attribute [local irreducible] Calls cFact
section
variable {Γ:Gho}{S:List Res}{w:World}{b:Nat}
end
end Go.Proofs.YtfoggcgogafocaaGreat
end
section
open Go Mk
namespace Go.Proofs.YtfoggcgogafocaaGreat
set_option maxHeartbeats 16000000
attribute [local irreducible] Calls cFact
end Go.Proofs.YtfoggcgogafocaaGreat
end
section
open Go Mk
namespace Go.Proofs.YtfoggcgogafocaaGreat
set_option maxHeartbeats 16000000
attribute [local irreducible] Calls cFact
end Go.Proofs.YtfoggcgogafocaaGreat
end
section
open Go Mk
namespace Go.Proofs.YtfoggcgogafocaaGreat
set_option maxHeartbeats 16000000
attribute [local irreducible] Calls cFact
structure RL(Γ:Gho)(v:Value)(fs:List FactH):Prop where
 rep:RepS Γ v 2 (fs.map cF)
 ok:FsOk Γ fs
section
variable {Γ:Gho}{S:List Res}{w:World}
end
end Go.Proofs.YtfoggcgogafocaaGreat
end
section
open Go Mk
namespace Go.Proofs.YtfoggcgogafocaaGreat
set_option maxHeartbeats 16000000
attribute [local irreducible] Calls cFact
section
variable {Γ:Gho}
theorem pg_sameF{va vb:Value}{fs gs:List FactH}(ha:RL Γ va fs)(hb:RL Γ vb gs):PG Tryz.prog Γ 21 [va,vb] (.bool (decide (facts fs=facts gs))):=⟨fun S w hw=>by
 have hra:=ha.rep
 have hrb:=hb.rep
 obtain⟨a,n,c,rfl,hn,hnc,hc⟩:=hra.shape;obtain⟨b,m,c',rfl,hm,hmc,hc'⟩:=hrb.shape;simp only[List.length_map]at hn hm
 have hfa:(facts fs).length=fs.length:=List.length_map ..
 have hfb:(facts gs).length=gs.length:=List.length_map ..
 refine calls_of_W Tryz.func21 rfl rfl ?_
 repeat first|refine byW ?_|refine byV ?_;intro w hw
 refine W_cond rfl (fun h=>?_) (fun h=>?_)
 ·repeat first|refine byW ?_|refine byV ?_;intro w hw
  refine⟨_,rfl,ret_b rfl ?_,hw⟩
  symm
  rw[decide_eq_false_iff_not];intro he;have:=congrArg List.length he
  have h:=of_decide_eq_true h
  omega
 ·have hnm:n=m:=by have:=of_decide_eq_false h;omega
  subst hnm;repeat first|refine byW ?_|refine byV ?_;intro w hw
  refine W_loop (fun μ ρ w=>∃(k:Nat),μ+k=n∧Has ρ [(0,.slice a n c),(1,.slice b n c'),(5,.int .i64 k)]∧decide (facts fs=facts gs)=decide ((facts fs).drop k=(facts gs).drop k)∧Wd Γ S w) n ⟨0,by omega,⟨rfl,rfl,rfl,trivial⟩,rfl,hw⟩ ?_
  clear hw;rintro μ ρ w ⟨k,hk,hρ,ho,hw⟩
  rw[hρ.eq];repeat first|refine byW ?_|refine byV ?_;intro w hw
  refine W_cond rfl (fun h=>?_) (fun h=>?_)
  ·have hkn:k<n:=by have:=of_decide_eq_true h;omega
   obtain⟨x,hx⟩:=get_lt (l:=fs) (k:=k) (by omega)
   obtain⟨y,hy⟩:=get_lt (l:=gs) (k:=k) (by omega)
   have hfx:(facts fs)[k]? = some x.fact:=by unfold facts;rw[List.getElem?_map,hx];rfl
   have hfy:(facts gs)[k]? = some y.fact:=by unfold facts;rw[List.getElem?_map,hy];rfl
   rw[drop_get hfx,drop_get hfy]at ho;have hC:=pg_refF (ha.ok x (List.mem_of_getElem? hx)).1 (hb.ok y (List.mem_of_getElem? hy)).1
   repeat first|refine byW ?_|refine byV ?_;intro w hw
   refine W_quiet (by kernel_rfl) (by kernel_rfl) hw ?_
   refine byQ ?_;intro w hw;refine W_cond rfl (fun h3=>?_) (fun h3=>?_)
   ·have h3:¬cFact x.fact y.fact=0:=of_decide_eq_true h3
    repeat first|refine byW ?_|refine byV ?_;intro w hw
    refine⟨_,rfl,ret_b rfl ?_,hw⟩
    rw[ho];symm
    rw[decide_eq_false_iff_not];intro he;have he:=(List.cons.inj he).1
    rw[he,cFact_ord.refl]at h3;exact h3 rfl
   ·have h3:cFact x.fact y.fact=0:=Classical.not_not.1 (of_decide_eq_false h3)
    have h4:=cFact_ord.eq0 h3
    repeat first|refine byW ?_|refine byV ?_;intro w hw
    refine⟨μ-1,by omega,k+1,by omega,⟨rfl,rfl,rfl,trivial⟩,?_,hw⟩
    rw[ho,h4];simp
  ·have hkn:¬k<n:=by have:=of_decide_eq_false h;omega
   rw[drop_none (facts fs) (by omega),drop_none (facts gs) (by omega)]at ho
   repeat first|refine byW ?_|refine byV ?_;intro w hw
   exact⟨_,rfl,ret_b rfl (by rw[ho];rfl),hw⟩⟩
end
end Go.Proofs.YtfoggcgogafocaaGreat
end
section
open Go Mk
namespace Go.Proofs.YtfoggcgogafocaaGreat
set_option maxHeartbeats 16000000
attribute [local irreducible] Calls cFact
section
variable {Γ:Gho}{S:List Res}{w:World}{b:Nat}
end
end Go.Proofs.YtfoggcgogafocaaGreat
end
section
open Go Mk
namespace Go.Proofs.YtfoggcgogafocaaGreat
set_option maxHeartbeats 16000000
attribute [local irreducible] Calls cFact
theorem addK_spec(fs:List FactH)(f:FactH):∀k,k≤fs.length→(∀j x,addK fs f k≤j→j<k→fs[j]? = some x→0<cFact x.fact f.fact)∧(∀m x,addK fs f k=m+1→fs[m]? = some x→¬0<cFact x.fact f.fact)
 | 0,_=>⟨fun j x h1 h2 _=>by omega,fun m x h=>by cases h⟩
 | k+1,hk=>by
  obtain⟨x,hx⟩:=get_lt (l:=fs) (k:=k) (by omega)
  by_cases h:0<cFact x.fact f.fact
  ·have e:addK fs f (k+1)=addK fs f k:=by
    conv=>lhs;unfold addK
    rw[hx];exact if_pos h
   obtain⟨h1,h2⟩:=addK_spec fs f k (by omega)
   rw[e];refine⟨fun j y hj hjk hy=>?_,h2⟩
   by_cases e2:j=k
   ·subst e2;rw[hx]at hy;cases hy;exact h
   ·exact h1 j y hj (by omega) hy
  ·have e:addK fs f (k+1)=k+1:=by
    conv=>lhs;unfold addK
    rw[hx];exact if_neg h
   rw[e];refine⟨fun j y hj hjk _=>by omega,fun m y hm hy=>?_⟩
   have:m=k:=by omega
   subst this;rw[hx]at hy;cases hy;exact h
theorem facts_app{a b:List FactH}:facts (a++b)=facts a++facts b:=by unfold facts;rw[List.map_append]
theorem facts_mem{fs:List FactH}{x:Fact}:x∈facts fs↔∃f∈fs,f.fact=x:=by unfold facts;exact List.mem_map
theorem addF_set{fs:List FactH}{f:FactH}(ha:(facts fs).Pairwise fun a b=>cFact a b = -1):SetOf cFact (facts fs++[f.fact]) (facts (addF fs f)):=by
 obtain⟨h1,h2⟩:=addK_spec fs f fs.length (Nat.le_refl _)
 have hgt:∀ {x:FactH},0<cFact x.fact f.fact→cFact f.fact x.fact = -1:=fun {x} h=>by
  rw[cFact_ord.anti];rcases cFact_ord.rng x.fact f.fact with r|r|r <;> omega
 have hK:=addK_le fs f fs.length
 unfold addF;generalize addK fs f fs.length=k at *
 cases k with
 | zero=>
  refine⟨?_,fun x=>?_⟩
  ·show (f.fact::facts fs).Pairwise _
   refine List.pairwise_cons.2 ⟨fun y hy=>?_,ha⟩
   obtain⟨z,hz,rfl⟩:=facts_mem.1 hy
   obtain⟨j,hj⟩:=List.mem_iff_getElem?.1 hz
   exact hgt (h1 j z (Nat.zero_le _) (List.getElem?_eq_some_iff.1 hj).1 hj)
  ·show x∈f.fact::facts fs↔_
   rw[List.mem_cons,List.mem_append,List.mem_singleton,or_comm]
 | succ k=>
  obtain⟨y,hy⟩:=get_lt (l:=fs) (k:=k) (by omega)
  have hny:=h2 k y rfl hy
  simp only[hy]
  by_cases e:cFact y.fact f.fact=0
  ·rw[if_pos e];have e2:=cFact_ord.eq0 e
   refine⟨ha,fun x=>?_⟩
   rw[List.mem_append,List.mem_singleton];refine⟨fun h=>.inl h,fun h=>h.elim id fun q=>?_⟩
   rw[q,←e2];exact facts_mem.2 ⟨y,List.mem_of_getElem? hy,rfl⟩
  ·rw[if_neg e];have hyl:cFact y.fact f.fact = -1:=by rcases cFact_ord.rng y.fact f.fact with r|r|r <;> omega
   have hsplit:facts fs=facts (fs.take (k+1))++facts (fs.drop (k+1)):=by rw[←facts_app,List.take_append_drop]
   rw[hsplit]at ha;obtain⟨p1,p2,p3⟩:=List.pairwise_append.1 ha
   have hye:facts (fs.take (k+1))=facts (fs.take k)++[y.fact]:=by rw[List.take_add_one,hy,facts_app];rfl
   refine⟨?_,fun x=>?_⟩
   ·rw[facts_app];show (facts (fs.take (k+1))++f.fact::facts (fs.drop (k+1))).Pairwise _
    refine List.pairwise_append.2 ⟨p1,List.pairwise_cons.2 ⟨fun z hz=>?_,p2⟩,fun a hA b hB=>?_⟩
    ·obtain⟨z',hz',rfl⟩:=facts_mem.1 hz
     obtain⟨j,hj⟩:=List.mem_iff_getElem?.1 hz'
     rw[List.getElem?_drop]at hj;exact hgt (h1 _ z' (by omega) (List.getElem?_eq_some_iff.1 hj).1 hj)
    ·rcases List.mem_cons.1 hB with q|q
     ·rw[q];rw[hye]at hA p1
      rcases List.mem_append.1 hA with r|r
      ·exact cFact_ord.trans ((List.pairwise_append.1 p1).2.2 a r y.fact (List.mem_singleton.2 rfl)) hyl
      ·rw[List.mem_singleton.1 r];exact hyl
     ·exact p3 a hA b q
   ·rw[hsplit,facts_app];show x∈facts (fs.take (k+1))++f.fact::facts (fs.drop (k+1))↔_
    simp only[List.mem_append,List.mem_cons,List.mem_singleton,List.not_mem_nil,or_false]
    constructor
    ·rintro (h|h|h)
     ·exact .inl (.inl h)
     ·exact .inr h
     ·exact .inl (.inr h)
    ·rintro ((h|h)|h)
     ·exact .inl h
     ·exact .inr (.inr h)
     ·exact .inr (.inl h)
theorem setF_set(fs:List FactH):facts (setF fs)=setS (facts fs):=by
 refine SetOf.eq cFact_ord ?_
 have key:∀(l acc:List FactH) (D:List Fact),SetOf cFact D (facts acc)→SetOf cFact (D++facts l) (facts (l.foldl addF acc)):=by
  intro l;induction l with
  | nil=>intro acc D h;show SetOf cFact (D++[]) _;rw[List.append_nil];exact h
  | cons x l ih=>
   intro acc D h;have h1:=addF_set (f:=x) h.asc
   have:=ih (addF acc x) (D++[x.fact]) ⟨h1.asc,fun y=>by rw[h1.mem,List.mem_append,h.mem,List.mem_append]⟩
   rw[List.append_assoc]at this;exact this
 exact key fs [] [] ⟨List.Pairwise.nil,fun x=>Iff.rfl⟩
section
variable {Γ:Gho}{S:List Res}{w:World}
theorem SetR_any{v:Value}(fs:List FactH)(hok:∀x∈fs,FOk Γ x)(hl:fs.length≤100000)(hr:RdS Γ S v 2 (fs.map cF))(hw:Wd Γ S w) :
  Calls Tryz.prog 31 #[v] w fun e w'=>∃v',e=.returned v'∧Wd Γ (.own v' 67 2 ((setF fs).map cF)::S) w':=by
 obtain⟨a,n,c,rfl,hn,hnc,hc⟩:=hr.shape;simp only[List.length_map]at hn
 refine calls_of_W Tryz.func31 rfl rfl ?_
 repeat first|refine byW ?_|refine byV ?_;intro w hw
 refine W_loop (fun μ ρ w=>∃(k:Nat) (g:Value),μ+k=n∧Has ρ [(0,.slice a n c),(3,g),(4,.int .i64 k)]∧Wd Γ (.own g 67 2 ((setF (fs.take k)).map cF)::S) w) n ⟨0,.slice none 0 0,by omega,⟨rfl,rfl,rfl,trivial⟩,Wd.addNil hw⟩ ?_
 clear hw;rintro μ ρ w ⟨k,g,hk,hρ,hw⟩
 rw[hρ.eq];have hr2:RdS Γ (.own g 67 2 ((setF (fs.take k)).map cF)::S) (.slice a n c) 2 (fs.map cF):=hr.cons
 repeat first|refine byW ?_|refine byV ?_;intro w hw
 refine W_cond rfl (fun h=>?_) (fun h=>?_)
 ·have hkn:k<n:=by have:=of_decide_eq_true h;omega
  obtain⟨x,hx⟩:=get_lt (l:=fs) (k:=k) (by omega)
  have hsl:=setF_len (fs.take k)
  rw[List.length_take]at hsl;repeat first|refine byW ?_|refine byV ?_;intro w hw
  refine lCall (vs:=[g,.agg (cF x).toArray]) ?_
  refine(add_any Γ _ w g _ x (fun y hy=>hok y (List.mem_of_mem_take (setF_mem hy))) (hok x (List.mem_of_getElem? hx)) (by omega) hw).mono ?_
  rintro e w ⟨v',rfl,hw⟩
  refine⟨_,rfl,?_⟩;rw[←setF_succ hx]at hw;repeat first|refine byW ?_|refine byV ?_;intro w hw
  exact⟨μ-1,by omega,k+1,v',by omega,⟨rfl,rfl,rfl,trivial⟩,hw⟩
 ·have hkn:¬k<n:=by have:=of_decide_eq_false h;omega
  rw[List.take_of_length_le (by omega)]at hw
  repeat first|refine byW ?_|refine byV ?_;intro w hw
  exact⟨_,rfl,g,rfl,hw⟩
end
end Go.Proofs.YtfoggcgogafocaaGreat
end
section
open Go Mk
namespace Go.Proofs.YtfoggcgogafocaaGreat
set_option maxHeartbeats 16000000
attribute [local irreducible] Calls cFact
section
variable {Γ:Gho}{S:List Res}{w:World}
end
end Go.Proofs.YtfoggcgogafocaaGreat
end
section
open Go Mk
namespace Go.Proofs.YtfoggcgogafocaaGreat
set_option maxHeartbeats 16000000
attribute [local irreducible] Calls cFact
section
variable {Γ:Gho}{S:List Res}{w:World}
end
end Go.Proofs.YtfoggcgogafocaaGreat
end
section
open Go Mk
namespace Go.Proofs.YtfoggcgogafocaaGreat
set_option maxHeartbeats 16000000
def iF(i:Int):Val:=⟨1,i,⟨#[]⟩⟩
def wF(s:ByteArray):Val:=⟨2,0,s⟩
def sF(n:Int):Val:=⟨1,IntKind.i64.wrap n,⟨#[]⟩⟩
def machB:ByteArray:=⟨#[109,97,99,104,105,110,101]⟩
def sharesB:ByteArray:=⟨#[115,104,97,114,101,115]⟩
def coreF(c:CoreT):Fact:=(coreB,[iF c.ID,iF c.Width,iF c.Node,iF c.Speed])
def cacheF(c:CacheT):Fact:=(cacheB,[wF c.Name,iF c.Level,sF c.Size,iF c.Line])
def shareF(c:CacheT)(i:Int):Fact:=(sharesB,[wF c.Name,iF i])
def linkF(l:LinkT):Fact:=(linkB,[iF (if l.B<l.A then l.B else l.A),iF (if l.A<l.B then l.B else l.A),iF l.Latency])
def memF(m:MemT):Fact:=(memoryB,[wF m.Name,sF m.Base,sF m.Size,iF m.Node,iF m.Latency])
def devF(d:DevT):Fact:=(deviceB,[wF d.Name,iF d.Node,iF d.IRQ,sF d.Base,sF d.Size])
def cacheFs(c:CacheT):List Fact:=cacheF c::c.Cores.map (shareF c)
def hwB0(H:HwT):List Fact:=[(machB,[wF H.Name])]
def hwB1(H:HwT):List Fact:=hwB0 H++H.Cores.map coreF
def hwB2(H:HwT):List Fact:=hwB1 H++H.Caches.flatMap cacheFs
def hwB3(H:HwT):List Fact:=hwB2 H++H.Links.map linkF
def hwB4(H:HwT):List Fact:=hwB3 H++H.Mems.map memF
def hwFacts(H:HwT):List Fact:=hwB4 H++H.Devs.map devF
instance pg_size(Γ:Gho)(v:Int):PG Tryz.prog Γ 30 [.int .u64 v] (.agg (enc (sF v)).toArray):=⟨fun S w hw=>by
 refine calls_of_WC Tryz.func30 rfl rfl ?_
 repeat first|refine byW ?_|refine byV ?_;intro w hw
 refine lAlloc ?_;intro b w hw;repeat first|refine byW ?_|refine byV ?_;intro w hw
 refine lStore ?_;intro w hw;have hw:Wd Γ (.blk b (.cells (enc (sF v)).toArray 41)::S) w:=hw
 repeat first|refine byW ?_|refine byV ?_;intro w hw
 exact⟨[.agg (enc (sF v)).toArray],⟨resC (i:=0) hw rfl rfl rfl,trivial⟩,rfl,hw.drop⟩⟩
theorem fm_take_len{α β:Type}{g:α→List β}{l:List α}(k:Nat):((l.take k).flatMap g).length≤(l.flatMap g).length:=by
 have h:(l.flatMap g).length=((l.take k++l.drop k).flatMap g).length:=by rw[List.take_append_drop]
 rw[List.flatMap_append,List.length_append]at h;omega
attribute [local irreducible] Calls cFact validS
theorem FromHw_any{Γ:Gho}{S:List Res}{w:World}{u:Value}{H:HwT}[hh:HwR Γ u H][hwd:WideH H](hB:(hwFacts H).length≤50000)(h0:validS H=0)(hw:Wd Γ S w) :
  Calls Tryz.prog 7 #[u] w fun e w'=>∃Γ' v fs,Γ.le Γ'∧e=.returned (.tuple #[v,.int .i64 0])∧facts fs=hwFacts H∧(∀f∈fs,FOk Γ' f)∧Wd Γ' (.own v 67 2 ((setF fs).map cF)::S) w':=by
 have pV:=pg_RValidate (hh:=hh) (hwd:=hwd)
 rw[h0]at pV;obtain⟨a1,n1,c1,a2,n2,c2,a3,n3,c3,a4,n4,c4,a5,n5,c5,cs',rfl,hcs,hok',hsz,r1,r2,r3,r4,r5⟩:=hh.h;have q1:=rep_facts r1
 have q2:=rep_facts r2
 have q3:=rep_facts r3
 have q4:=rep_facts r4
 have q5:=rep_facts r5
 simp only[List.length_map]at q1 q2 q3 q4 q5
 have e5:(hwFacts H).length=(hwB4 H).length+H.Devs.length:=by unfold hwFacts;simp
 have e4:(hwB4 H).length=(hwB3 H).length+H.Mems.length:=by unfold hwB4;simp
 have e3:(hwB3 H).length=(hwB2 H).length+H.Links.length:=by unfold hwB3;simp
 have e2:(hwB2 H).length=(hwB1 H).length+(H.Caches.flatMap cacheFs).length:=by unfold hwB2;simp
 have e1:(hwB1 H).length=(hwB0 H).length+H.Cores.length:=by unfold hwB1;simp
 refine calls_of_W Tryz.func7 rfl rfl ?_
 repeat first|refine byW ?_|refine byV ?_;intro w hw
 refine lBox ?_;intro b1 w hw;have hw:Wd Γ (.blk b1 (.cells #[.string H.Name,.slice a1 n1 c1,.slice a2 n2 c2,.slice a3 n3 c3,.slice a4 n4 c4,.slice a5 n5 c5] 30)::S) w:=hw
 repeat first|refine byW ?_|refine byV ?_;intro w hw
 refine W_cond rfl (fun h=>by cases h) (fun _=>?_)
 repeat first|refine byW ?_|refine byV ?_;intro w hw
 refine lBuildSlice [enc (wF H.Name)] ?_
 intro q25 w hw;repeat first|refine byW ?_|refine byV ?_;intro w hw
 refine lCall (vs:=[.string machB,.slice (some q25) 1 1]) ?_
 refine(Fact_any Γ _ w _ machB [wF H.Name] (RdS.own (i:=0) hw rfl) (by simp) hw).mono ?_
 clear hw;rintro e w ⟨f0,rfl,hf0,hw⟩
 refine⟨_,rfl,?_⟩;obtain⟨Γ1,hle1,hokf0,hw⟩:=hw.freeze;have hw:Wd Γ1 (.blk b1 (.cells #[.string H.Name,.slice a1 n1 c1,.slice a2 n2 c2,.slice a3 n3 c3,.slice a4 n4 c4,.slice a5 n5 c5] 30)::S) w:=hw.drop
 repeat first|refine byW ?_|refine byV ?_;intro w hw
 refine lBuildSlice [cF f0] ?_
 intro q27 w hw;have hw:Wd Γ1 (.own (.slice (some q27) 1 1) 67 2 (([f0]:List FactH).map cF)::.blk b1 (.cells #[.string H.Name,.slice a1 n1 c1,.slice a2 n2 c2,.slice a3 n3 c3,.slice a4 n4 c4,.slice a5 n5 c5] 30)::S) w:=hw
 repeat first|refine byW ?_|refine byV ?_;intro w hw
 refine W_loop (fun μ ρ w=>∃(k:Nat) (g:Value) (Γ':Gho) (fs:List FactH),μ+k=n1∧Has ρ [(1,.pointer (some ⟨b1,0,none⟩)),(5,g),(6,.int .i64 k)]∧Γ.le Γ'∧(∀f∈fs,FOk Γ' f)∧facts fs=hwB0 H++(H.Cores.take k).map coreF∧Wd Γ' (.own g 67 2 (fs.map cF)::.blk b1 (.cells #[.string H.Name,.slice a1 n1 c1,.slice a2 n2 c2,.slice a3 n3 c3,.slice a4 n4 c4,.slice a5 n5 c5] 30)::S) w) n1 ⟨0,_,Γ1,[f0],by omega,⟨rfl,rfl,rfl,trivial⟩,hle1,fun x hx=>by rw[List.mem_singleton.1 hx];exact hokf0,by rw[List.take_zero,List.map_nil,List.append_nil];show [f0.fact]=_;rw[hf0];rfl,hw⟩ ?_
 clear hw;rintro μ ρ w ⟨k,g,Γ',fs,hk,hρ,hle,hok,hfs,hw⟩
 rw[hρ.eq];clear hρ;obtain⟨ag,ng,cg,rfl,hng,hngc,hcg⟩:=hw.own_shape (i:=0) rfl
 simp only[List.length_map]at hng
 have hfl:fs.length≤50000:=by
  have:=congrArg List.length hfs
  unfold facts at this;simp only[List.length_append,List.length_map,List.length_take]at this
  omega
 have rr:=r1.mono hle
 repeat first|refine byW ?_|refine byV ?_;intro w hw
 refine W_cond rfl (fun h=>?_) (fun h=>?_)
 ·have hkn:k<n1:=by have:=of_decide_eq_true h;omega
  clear h;obtain⟨x,hx⟩:=get_lt (l:=H.Cores) (k:=k) (by omega)
  repeat first|refine byW ?_|refine byV ?_;intro w hw
  refine lAlloc ?_;intro b9 w hw;refine lStore ?_;intro w hw;have hw:Wd Γ' (.blk b9 (.cells (enc x).toArray 37)::.own (.slice ag ng cg) 67 2 (fs.map cF)::.blk b1 (.cells #[.string H.Name,.slice a1 n1 c1,.slice a2 n2 c2,.slice a3 n3 c3,.slice a4 n4 c4,.slice a5 n5 c5] 30)::S) w:=hw
  repeat first|refine byW ?_|refine byV ?_;intro w hw
  refine W_mixQ [.blk b9 (.cells (enc x).toArray 37)] (.own (.slice ag ng cg) 67 2 (fs.map cF)::.blk b1 (.cells #[.string H.Name,.slice a1 n1 c1,.slice a2 n2 c2,.slice a3 n3 c3,.slice a4 n4 c4,.slice a5 n5 c5] 30)::S) [53,54,55,56] 5 (.slice ag ng cg) [[],[],[],[],[],[],[],[],[],[],[],[],[],[0],[0],[0],[0],[0,1]] [[1],[],[],[],[],[],[],[],[],[],[],[],[],[0],[0],[0],[0],[0,1]] hw ?_
  refine mMoveR (dd:=5) ?_
  refine byM ?_;refine mStepY (v:=undef) (T':=Value) (fun t g=>g 53=t) (fun t=>.own t 41 3 (((coreF x).2:List Val).map enc)::(.own (.slice ag ng cg) 67 2 (fs.map cF)::.blk b1 (.cells #[.string H.Name,.slice a1 n1 c1,.slice a2 n2 c2,.slice a3 n3 c3,.slice a4 n4 c4,.slice a5 n5 c5] 30)::S)) (fun t g w Y _ hw=>s_buildSlice (rws:=((coreF x).2:List Val).map enc) hw rfl rfl rfl (fun r hr=>by obtain⟨v,_,rfl⟩:=List.mem_map.1 hr;rfl) (by decide) fun q w' hw'=>⟨_,rfl,(fun h=>by cases h),hw'⟩) ?_
  refine mCallY (φ:=fun (t:Value) g=>g 53=t) (R:=fun t=>.own t 41 3 (((coreF x).2:List Val).map enc)::(.own (.slice ag ng cg) 67 2 (fs.map cF)::.blk b1 (.cells #[.string H.Name,.slice a1 n1 c1,.slice a2 n2 c2,.slice a3 n3 c3,.slice a4 n4 c4,.slice a5 n5 c5] 30)::S)) (v:=undef) (T':=FactH) (fun t g=>g 54=.agg (cF t).toArray∧t.fact=coreF x) (fun t=>.own t.hdr 41 3 (t.Args.map enc)::(.own (.slice ag ng cg) 67 2 (fs.map cF)::.blk b1 (.cells #[.string H.Name,.slice a1 n1 c1,.slice a2 n2 c2,.slice a3 n3 c3,.slice a4 n4 c4,.slice a5 n5 c5] 30)::S)) (fun t _=>[.string coreB,t]) (fun t g w Y ht hw=>?_) ?_ (ha:=fun t g ht=>EvL.cons rfl (EvL.cons ht EvL.nil))
  ·refine(Fact_any Γ' _ w t coreB (coreF x).2 (RdS.own (i:=0) hw rfl) (by simp[coreF,cacheF,shareF,linkF,memF,devF]) hw).mono ?_
   rintro e w ⟨f,rfl,hf,hw⟩
   exact⟨_,rfl,f,⟨rfl,hf⟩,(fun h=>by cases h),hw.dropAt 1⟩
  refine mStepY (φ:=fun (t:FactH) g=>g 54=.agg (cF t).toArray∧t.fact=coreF x) (R:=fun t=>.own t.hdr 41 3 (t.Args.map enc)::(.own (.slice ag ng cg) 67 2 (fs.map cF)::.blk b1 (.cells #[.string H.Name,.slice a1 n1 c1,.slice a2 n2 c2,.slice a3 n3 c3,.slice a4 n4 c4,.slice a5 n5 c5] 30)::S)) (v:=undef) (T':=Value×FactH) (fun t g=>g 55=t.1∧t.2.fact=coreF x) (fun t=>.own t.1 67 2 [cF t.2]::.own t.2.hdr 41 3 (t.2.Args.map enc)::(.own (.slice ag ng cg) 67 2 (fs.map cF)::.blk b1 (.cells #[.string H.Name,.slice a1 n1 c1,.slice a2 n2 c2,.slice a3 n3 c3,.slice a4 n4 c4,.slice a5 n5 c5] 30)::S)) (fun t g w Y ht hw=>s_buildSlice (rws:=[cF t]) (cells:=cF t) hw ?_ (by simp) rfl (by simp[cF]) (by decide) fun q w' hw'=>⟨(_,t),⟨rfl,ht.2⟩,(fun h=>by cases h),hw'⟩) ?_
  ·have h1:g 54=.agg (cF t).toArray:=ht.1
   show fillL _ _ [(0,g 54)]=_
   rw[h1];rfl
  refine mStepY (φ:=fun (t:Value×FactH) g=>g 55=t.1∧t.2.fact=coreF x) (R:=fun t=>.own t.1 67 2 [cF t.2]::.own t.2.hdr 41 3 (t.2.Args.map enc)::(.own (.slice ag ng cg) 67 2 (fs.map cF)::.blk b1 (.cells #[.string H.Name,.slice a1 n1 c1,.slice a2 n2 c2,.slice a3 n3 c3,.slice a4 n4 c4,.slice a5 n5 c5] 30)::S)) (v:=undef) (T':=Value×FactH) (fun t g=>g 56=t.1∧t.2.fact=coreF x) (fun t=>.own t.1 67 2 (fs.map cF++[cF t.2])::.own t.2.hdr 41 3 (t.2.Args.map enc)::.blk b1 (.cells #[.string H.Name,.slice a1 n1 c1,.slice a2 n2 c2,.slice a3 n3 c3,.slice a4 n4 c4,.slice a5 n5 c5] 30)::S) (fun t g w Y ht hw=>?_) ?_
  ·obtain⟨t1,f⟩:=t;obtain⟨a9,n9,c9,rfl,hn9,-,-⟩:=hw.own_shape (i:=0) rfl
   simp at hn9
   exact s_append (i:=2) (rows2:=[cF f]) hw rfl ht.1 rfl (Wd.own_rd (i:=0) hw rfl) (by simp;omega) (cFs_one [f]) (by omega) (by omega) fun v' w' hw'=>⟨(v',f),⟨rfl,ht.2⟩,(fun h=>by cases h),hw'.drop.ps [1]⟩
  refine mAssY (φ:=fun (t:Value×FactH) g=>g 56=t.1∧t.2.fact=coreF x) (dx:=56) (dd:=5) (fun t g=>g 5=t.1∧t.2.fact=coreF x) (fun t g ht=>ht) ?_
  refine mEndQ (φ:=fun (t:Value×FactH) g=>g 5=t.1∧t.2.fact=coreF x) fun t w g ht hw=>?_
  obtain⟨t1,f⟩:=t;obtain⟨Γ2,hle2,hokf,hw⟩:=(hw.ps [1]).freeze
  refine W_has (l:=[(1,.pointer (some ⟨b1,0,none⟩)),(6,.int .i64 k),(5,t1)]) ⟨rfl,rfl,ht.1,trivial⟩ fun ρ hρ=>?_
  have hff:f.fact=coreF x:=ht.2
  rw[hρ.eq];clear hρ ht;rw[show fs.map cF++[cF f]=(fs++[f]).map cF from by simp]at hw
  have hok2:∀x∈fs++[f],FOk Γ2 x:=fun x hx=>(List.mem_append.1 hx).elim (fun h=>(hok x h).mono hle2) fun h=>by rw[List.mem_singleton.1 h];exact hokf
  repeat first|refine byW ?_|refine byV ?_;intro w hw
  refine⟨μ-1,by omega,k+1,t1,Γ2,fs++[f],by omega,⟨rfl,rfl,rfl,trivial⟩,hle.trans hle2,hok2,?_,Wd.left (S:=.own t1 67 2 ((fs++[f]).map cF)::.blk b1 (.cells #[.string H.Name,.slice a1 n1 c1,.slice a2 n2 c2,.slice a3 n3 c3,.slice a4 n4 c4,.slice a5 n5 c5] 30)::S) hw⟩
  have h1:facts (fs++[f])=facts fs++[f.fact]:=by unfold facts;rw[List.map_append];rfl
  rw[h1,hfs,hff,List.take_add_one,hx,List.map_append,←List.append_assoc];rfl
 have hkn:n1≤k:=by have:=of_decide_eq_false h;omega
 clear h;rw[List.take_of_length_le (by omega)]at hfs
 have hfs:facts fs=hwB1 H:=hfs
 have hle0:=hle
 clear rr hkn hk hle;repeat first|refine byW ?_|refine byV ?_;intro w hw
 refine W_loop (fun μ ρ w=>∃(k:Nat) (g:Value) (Γ':Gho) (fs:List FactH),μ+k=n2∧Has ρ [(1,.pointer (some ⟨b1,0,none⟩)),(5,g),(8,.int .i64 k)]∧Γ.le Γ'∧(∀f∈fs,FOk Γ' f)∧facts fs=hwB1 H++(cs'.take k).flatMap (fun c=>cacheFs c.T)∧Wd Γ' (.own g 67 2 (fs.map cF)::.blk b1 (.cells #[.string H.Name,.slice a1 n1 c1,.slice a2 n2 c2,.slice a3 n3 c3,.slice a4 n4 c4,.slice a5 n5 c5] 30)::S) w) n2 ⟨0,_,Γ',fs,by omega,⟨rfl,rfl,rfl,trivial⟩,hle0,hok,by rw[List.take_zero,List.flatMap_nil,List.append_nil];exact hfs,hw⟩ ?_
 clear hw;rintro μ ρ w ⟨k,g,Γ',fs,hk,hρ,hle,hok,hfs,hw⟩
 rw[hρ.eq];clear hρ;obtain⟨ag,ng,cg,rfl,hng,hngc,hcg⟩:=hw.own_shape (i:=0) rfl
 simp only[List.length_map]at hng
 have hfl:fs.length≤50000:=by
  have:=congrArg List.length hfs
  unfold facts at this;rw[List.length_append,List.length_map]at this;have h3:=fm_take_len (g:=fun c:CacheH=>cacheFs c.T) (l:=cs') k
  have h4:(H.Caches.flatMap cacheFs).length=(cs'.flatMap fun c=>cacheFs c.T).length:=by rw[←hcs,List.flatMap_map]
  omega
 have rr:=r2.mono hle
 repeat first|refine byW ?_|refine byV ?_;intro w hw
 refine W_cond rfl (fun h=>?_) (fun h=>?_)
 ·have hkn:k<n2:=by have:=of_decide_eq_true h;omega
  clear h;obtain⟨x,hx⟩:=get_lt (l:=cs') (k:=k) (by omega)
  repeat first|refine byW ?_|refine byV ?_;intro w hw
  refine lAlloc ?_;intro b9 w hw;refine lStore ?_;intro w hw;have hw:Wd Γ' (.blk b9 (.cells (cC x).toArray 89)::.own (.slice ag ng cg) 67 2 (fs.map cF)::.blk b1 (.cells #[.string H.Name,.slice a1 n1 c1,.slice a2 n2 c2,.slice a3 n3 c3,.slice a4 n4 c4,.slice a5 n5 c5] 30)::S) w:=hw
  repeat first|refine byW ?_|refine byV ?_;intro w hw
  refine W_mixQ [.blk b9 (.cells (cC x).toArray 89)] (.own (.slice ag ng cg) 67 2 (fs.map cF)::.blk b1 (.cells #[.string H.Name,.slice a1 n1 c1,.slice a2 n2 c2,.slice a3 n3 c3,.slice a4 n4 c4,.slice a5 n5 c5] 30)::S) [82,83,84,85] 5 (.slice ag ng cg) [[],[],[],[],[],[],[],[],[],[],[],[],[],[0],[0],[0],[0],[0,1]] [[1],[],[],[],[],[],[],[],[],[],[],[],[],[0],[0],[0],[0],[0,1]] hw ?_
  refine mMoveR (dd:=5) ?_
  refine byM ?_;refine mStepY (v:=undef) (T':=Value) (fun t g=>g 82=t) (fun t=>.own t 41 3 (((cacheF x.T).2:List Val).map enc)::(.own (.slice ag ng cg) 67 2 (fs.map cF)::.blk b1 (.cells #[.string H.Name,.slice a1 n1 c1,.slice a2 n2 c2,.slice a3 n3 c3,.slice a4 n4 c4,.slice a5 n5 c5] 30)::S)) (fun t g w Y _ hw=>s_buildSlice (rws:=((cacheF x.T).2:List Val).map enc) hw rfl rfl rfl (fun r hr=>by obtain⟨v,_,rfl⟩:=List.mem_map.1 hr;rfl) (by decide) fun q w' hw'=>⟨_,rfl,(fun h=>by cases h),hw'⟩) ?_
  refine mCallY (φ:=fun (t:Value) g=>g 82=t) (R:=fun t=>.own t 41 3 (((cacheF x.T).2:List Val).map enc)::(.own (.slice ag ng cg) 67 2 (fs.map cF)::.blk b1 (.cells #[.string H.Name,.slice a1 n1 c1,.slice a2 n2 c2,.slice a3 n3 c3,.slice a4 n4 c4,.slice a5 n5 c5] 30)::S)) (v:=undef) (T':=FactH) (fun t g=>g 83=.agg (cF t).toArray∧t.fact=cacheF x.T) (fun t=>.own t.hdr 41 3 (t.Args.map enc)::(.own (.slice ag ng cg) 67 2 (fs.map cF)::.blk b1 (.cells #[.string H.Name,.slice a1 n1 c1,.slice a2 n2 c2,.slice a3 n3 c3,.slice a4 n4 c4,.slice a5 n5 c5] 30)::S)) (fun t _=>[.string cacheB,t]) (fun t g w Y ht hw=>?_) ?_ (ha:=fun t g ht=>EvL.cons rfl (EvL.cons ht EvL.nil))
  ·refine(Fact_any Γ' _ w t cacheB (cacheF x.T).2 (RdS.own (i:=0) hw rfl) (by simp[coreF,cacheF,shareF,linkF,memF,devF]) hw).mono ?_
   rintro e w ⟨f,rfl,hf,hw⟩
   exact⟨_,rfl,f,⟨rfl,hf⟩,(fun h=>by cases h),hw.dropAt 1⟩
  refine mStepY (φ:=fun (t:FactH) g=>g 83=.agg (cF t).toArray∧t.fact=cacheF x.T) (R:=fun t=>.own t.hdr 41 3 (t.Args.map enc)::(.own (.slice ag ng cg) 67 2 (fs.map cF)::.blk b1 (.cells #[.string H.Name,.slice a1 n1 c1,.slice a2 n2 c2,.slice a3 n3 c3,.slice a4 n4 c4,.slice a5 n5 c5] 30)::S)) (v:=undef) (T':=Value×FactH) (fun t g=>g 84=t.1∧t.2.fact=cacheF x.T) (fun t=>.own t.1 67 2 [cF t.2]::.own t.2.hdr 41 3 (t.2.Args.map enc)::(.own (.slice ag ng cg) 67 2 (fs.map cF)::.blk b1 (.cells #[.string H.Name,.slice a1 n1 c1,.slice a2 n2 c2,.slice a3 n3 c3,.slice a4 n4 c4,.slice a5 n5 c5] 30)::S)) (fun t g w Y ht hw=>s_buildSlice (rws:=[cF t]) (cells:=cF t) hw ?_ (by simp) rfl (by simp[cF]) (by decide) fun q w' hw'=>⟨(_,t),⟨rfl,ht.2⟩,(fun h=>by cases h),hw'⟩) ?_
  ·have h1:g 83=.agg (cF t).toArray:=ht.1
   show fillL _ _ [(0,g 83)]=_
   rw[h1];rfl
  refine mStepY (φ:=fun (t:Value×FactH) g=>g 84=t.1∧t.2.fact=cacheF x.T) (R:=fun t=>.own t.1 67 2 [cF t.2]::.own t.2.hdr 41 3 (t.2.Args.map enc)::(.own (.slice ag ng cg) 67 2 (fs.map cF)::.blk b1 (.cells #[.string H.Name,.slice a1 n1 c1,.slice a2 n2 c2,.slice a3 n3 c3,.slice a4 n4 c4,.slice a5 n5 c5] 30)::S)) (v:=undef) (T':=Value×FactH) (fun t g=>g 85=t.1∧t.2.fact=cacheF x.T) (fun t=>.own t.1 67 2 (fs.map cF++[cF t.2])::.own t.2.hdr 41 3 (t.2.Args.map enc)::.blk b1 (.cells #[.string H.Name,.slice a1 n1 c1,.slice a2 n2 c2,.slice a3 n3 c3,.slice a4 n4 c4,.slice a5 n5 c5] 30)::S) (fun t g w Y ht hw=>?_) ?_
  ·obtain⟨t1,f⟩:=t;obtain⟨a9,n9,c9,rfl,hn9,-,-⟩:=hw.own_shape (i:=0) rfl
   simp at hn9
   exact s_append (i:=2) (rows2:=[cF f]) hw rfl ht.1 rfl (Wd.own_rd (i:=0) hw rfl) (by simp;omega) (cFs_one [f]) (by omega) (by omega) fun v' w' hw'=>⟨(v',f),⟨rfl,ht.2⟩,(fun h=>by cases h),hw'.drop.ps [1]⟩
  refine mAssY (φ:=fun (t:Value×FactH) g=>g 85=t.1∧t.2.fact=cacheF x.T) (dx:=85) (dd:=5) (fun t g=>g 5=t.1∧t.2.fact=cacheF x.T) (fun t g ht=>ht) ?_
  refine mEndQ (φ:=fun (t:Value×FactH) g=>g 5=t.1∧t.2.fact=cacheF x.T) fun t w g ht hw=>?_
  obtain⟨t1,f⟩:=t;obtain⟨Γ2,hle2,hokf,hw⟩:=(hw.ps [1]).freeze
  refine W_has (l:=[(1,.pointer (some ⟨b1,0,none⟩)),(8,.int .i64 k),(9,.pointer (some ⟨b9,0,none⟩)),(5,t1)]) ⟨rfl,rfl,rfl,ht.1,trivial⟩ fun ρ hρ=>?_
  have hff:f.fact=cacheF x.T:=ht.2
  rw[hρ.eq];clear hρ ht;rw[show fs.map cF++[cF f]=(fs++[f]).map cF from by simp]at hw
  have hok2:∀x∈fs++[f],FOk Γ2 x:=fun x hx=>(List.mem_append.1 hx).elim (fun h=>(hok x h).mono hle2) fun h=>by rw[List.mem_singleton.1 h];exact hokf
  have hxo:COk Γ2 x:=COk.mono (hok' x (List.mem_of_getElem? hx)) (hle.trans hle2)
  have hwq:Wd Γ2 ((.own t1 67 2 ((fs++[f]).map cF)::.blk b1 (.cells #[.string H.Name,.slice a1 n1 c1,.slice a2 n2 c2,.slice a3 n3 c3,.slice a4 n4 c4,.slice a5 n5 c5] 30)::S)++[.blk b9 (.cells (cC x).toArray 89)]) w:=hw
  have hw:Wd Γ2 (.blk b9 (.cells (cC x).toArray 89)::.own t1 67 2 ((fs++[f]).map cF)::.blk b1 (.cells #[.string H.Name,.slice a1 n1 c1,.slice a2 n2 c2,.slice a3 n3 c3,.slice a4 n4 c4,.slice a5 n5 c5] 30)::S) w:=hwq.perm List.perm_append_comm
  clear hwq;repeat first|refine byW ?_|refine byV ?_;intro w hw
  have hbase:facts (fs++[f])=(hwB1 H++(cs'.take k).flatMap (fun c=>cacheFs c.T))++[cacheF x.T]:=by
   have h1:facts (fs++[f])=facts fs++[f.fact]:=by unfold facts;rw[List.map_append];rfl
   rw[h1,hfs,hff]
  have hle2':=hle.trans hle2
  refine W_loop (fun μ2 ρ w=>∃(j:Nat) (g:Value) (Γ':Gho) (fs:List FactH),μ2+j=x.N∧Has ρ [(1,.pointer (some ⟨b1,0,none⟩)),(5,g),(8,.int .i64 k),(9,.pointer (some ⟨b9,0,none⟩)),(10,.int .i64 j)]∧Γ2.le Γ'∧(∀f∈fs,FOk Γ' f)∧facts fs=((hwB1 H++(cs'.take k).flatMap (fun c=>cacheFs c.T))++[cacheF x.T])++(x.Cores.take j).map (shareF x.T)∧Wd Γ' (.blk b9 (.cells (cC x).toArray 89)::.own g 67 2 (fs.map cF)::.blk b1 (.cells #[.string H.Name,.slice a1 n1 c1,.slice a2 n2 c2,.slice a3 n3 c3,.slice a4 n4 c4,.slice a5 n5 c5] 30)::S) w) x.N ⟨0,t1,Γ2,fs++[f],by omega,⟨rfl,rfl,rfl,rfl,rfl,trivial⟩,Gho.le.refl _,hok2,by rw[List.take_zero,List.map_nil,List.append_nil];exact hbase,hw⟩ ?_
  clear hw hokf hok2 hff hbase;clear hfl hng;rename_i gOld
  clear hok hle;rintro μ2 ρ w ⟨j,g,Γ',fs,hj,hρ,hle,hok,hfs,hw⟩
  rw[hρ.eq];clear hρ;obtain⟨ag,ng,cg,rfl,hng,hngc,hcg⟩:=hw.own_shape (i:=1) rfl
  simp only[List.length_map]at hng
  have hfl:fs.length≤50000:=by
   have:=congrArg List.length hfs
   unfold facts at this;rw[List.length_map,List.length_append,List.length_append,List.length_append,List.length_map,List.length_take]at this;have h2:(cs'.take (k+1)).flatMap (fun c=>cacheFs c.T)=(cs'.take k).flatMap (fun c=>cacheFs c.T)++cacheFs x.T:=by rw[List.take_add_one,hx];simp
   have h3:=fm_take_len (g:=fun c:CacheH=>cacheFs c.T) (l:=cs') (k+1)
   have h4:(H.Caches.flatMap cacheFs).length=(cs'.flatMap fun c=>cacheFs c.T).length:=by rw[←hcs,List.flatMap_map]
   have h5:(cacheFs x.T).length=x.Cores.length+1:=by unfold cacheFs;simp[CacheH.T]
   rw[h2,List.length_append]at h3;simp only[List.length_cons,List.length_nil]at this
   omega
  have rr2:RepS Γ' (.slice x.A x.N x.C) 1 (intRows x.Cores):=RepS.mono hxo hle
  have hxn:x.N=x.Cores.length:=by have:=(rep_facts rr2).1;unfold intRows at this;rwa [List.length_map]at this
  have hxc:=(rep_facts rr2).2
  repeat first|refine byW ?_|refine byV ?_;intro w hw
  refine W_cond rfl (fun h=>?_) (fun h=>?_)
  ·have hjn:j<x.N:=by have:=of_decide_eq_true h;omega
   clear h;obtain⟨y,hy⟩:=get_lt (l:=x.Cores) (k:=j) (by omega)
   repeat first|refine byW ?_|refine byV ?_;intro w hw
   refine W_mixQ [.blk b9 (.cells (cC x).toArray 89)] (.own (.slice ag ng cg) 67 2 (fs.map cF)::.blk b1 (.cells #[.string H.Name,.slice a1 n1 c1,.slice a2 n2 c2,.slice a3 n3 c3,.slice a4 n4 c4,.slice a5 n5 c5] 30)::S) [103,104,105,106] 5 (.slice ag ng cg) [[],[],[],[],[],[],[],[],[],[],[0],[0],[0],[0],[0,1]] [[1],[],[],[],[],[],[],[],[],[],[0],[0],[0],[0],[0,1]] hw ?_
   refine mMoveR (dd:=5) ?_
   refine byM ?_;refine mStepY (v:=undef) (T':=Value) (fun t g=>g 103=t) (fun t=>.own t 41 3 (((shareF x.T y).2:List Val).map enc)::(.own (.slice ag ng cg) 67 2 (fs.map cF)::.blk b1 (.cells #[.string H.Name,.slice a1 n1 c1,.slice a2 n2 c2,.slice a3 n3 c3,.slice a4 n4 c4,.slice a5 n5 c5] 30)::S)) (fun t g w Y _ hw=>s_buildSlice (rws:=((shareF x.T y).2:List Val).map enc) hw rfl rfl rfl (fun r hr=>by obtain⟨v,_,rfl⟩:=List.mem_map.1 hr;rfl) (by decide) fun q w' hw'=>⟨_,rfl,(fun h=>by cases h),hw'⟩) ?_
   refine mCallY (φ:=fun (t:Value) g=>g 103=t) (R:=fun t=>.own t 41 3 (((shareF x.T y).2:List Val).map enc)::(.own (.slice ag ng cg) 67 2 (fs.map cF)::.blk b1 (.cells #[.string H.Name,.slice a1 n1 c1,.slice a2 n2 c2,.slice a3 n3 c3,.slice a4 n4 c4,.slice a5 n5 c5] 30)::S)) (v:=undef) (T':=FactH) (fun t g=>g 104=.agg (cF t).toArray∧t.fact=shareF x.T y) (fun t=>.own t.hdr 41 3 (t.Args.map enc)::(.own (.slice ag ng cg) 67 2 (fs.map cF)::.blk b1 (.cells #[.string H.Name,.slice a1 n1 c1,.slice a2 n2 c2,.slice a3 n3 c3,.slice a4 n4 c4,.slice a5 n5 c5] 30)::S)) (fun t _=>[.string sharesB,t]) (fun t g w Y ht hw=>?_) ?_ (ha:=fun t g ht=>EvL.cons rfl (EvL.cons ht EvL.nil))
   ·refine(Fact_any Γ' _ w t sharesB (shareF x.T y).2 (RdS.own (i:=0) hw rfl) (by simp[coreF,cacheF,shareF,linkF,memF,devF]) hw).mono ?_
    rintro e w ⟨f,rfl,hf,hw⟩
    exact⟨_,rfl,f,⟨rfl,hf⟩,(fun h=>by cases h),hw.dropAt 1⟩
   refine mStepY (φ:=fun (t:FactH) g=>g 104=.agg (cF t).toArray∧t.fact=shareF x.T y) (R:=fun t=>.own t.hdr 41 3 (t.Args.map enc)::(.own (.slice ag ng cg) 67 2 (fs.map cF)::.blk b1 (.cells #[.string H.Name,.slice a1 n1 c1,.slice a2 n2 c2,.slice a3 n3 c3,.slice a4 n4 c4,.slice a5 n5 c5] 30)::S)) (v:=undef) (T':=Value×FactH) (fun t g=>g 105=t.1∧t.2.fact=shareF x.T y) (fun t=>.own t.1 67 2 [cF t.2]::.own t.2.hdr 41 3 (t.2.Args.map enc)::(.own (.slice ag ng cg) 67 2 (fs.map cF)::.blk b1 (.cells #[.string H.Name,.slice a1 n1 c1,.slice a2 n2 c2,.slice a3 n3 c3,.slice a4 n4 c4,.slice a5 n5 c5] 30)::S)) (fun t g w Y ht hw=>s_buildSlice (rws:=[cF t]) (cells:=cF t) hw ?_ (by simp) rfl (by simp[cF]) (by decide) fun q w' hw'=>⟨(_,t),⟨rfl,ht.2⟩,(fun h=>by cases h),hw'⟩) ?_
   ·have h1:g 104=.agg (cF t).toArray:=ht.1
    show fillL _ _ [(0,g 104)]=_
    rw[h1];rfl
   refine mStepY (φ:=fun (t:Value×FactH) g=>g 105=t.1∧t.2.fact=shareF x.T y) (R:=fun t=>.own t.1 67 2 [cF t.2]::.own t.2.hdr 41 3 (t.2.Args.map enc)::(.own (.slice ag ng cg) 67 2 (fs.map cF)::.blk b1 (.cells #[.string H.Name,.slice a1 n1 c1,.slice a2 n2 c2,.slice a3 n3 c3,.slice a4 n4 c4,.slice a5 n5 c5] 30)::S)) (v:=undef) (T':=Value×FactH) (fun t g=>g 106=t.1∧t.2.fact=shareF x.T y) (fun t=>.own t.1 67 2 (fs.map cF++[cF t.2])::.own t.2.hdr 41 3 (t.2.Args.map enc)::.blk b1 (.cells #[.string H.Name,.slice a1 n1 c1,.slice a2 n2 c2,.slice a3 n3 c3,.slice a4 n4 c4,.slice a5 n5 c5] 30)::S) (fun t g w Y ht hw=>?_) ?_
   ·obtain⟨t1,f⟩:=t;obtain⟨a9,n9,c9,rfl,hn9,-,-⟩:=hw.own_shape (i:=0) rfl
    simp at hn9
    exact s_append (i:=2) (rows2:=[cF f]) hw rfl ht.1 rfl (Wd.own_rd (i:=0) hw rfl) (by simp;omega) (cFs_one [f]) (by omega) (by omega) fun v' w' hw'=>⟨(v',f),⟨rfl,ht.2⟩,(fun h=>by cases h),hw'.drop.ps [1]⟩
   refine mAssY (φ:=fun (t:Value×FactH) g=>g 106=t.1∧t.2.fact=shareF x.T y) (dx:=106) (dd:=5) (fun t g=>g 5=t.1∧t.2.fact=shareF x.T y) (fun t g ht=>ht) ?_
   refine mEndQ (φ:=fun (t:Value×FactH) g=>g 5=t.1∧t.2.fact=shareF x.T y) fun t w g ht hw=>?_
   obtain⟨t1,f⟩:=t;obtain⟨Γ2,hle2,hokf,hw⟩:=(hw.ps [1]).freeze
   refine W_has (l:=[(1,.pointer (some ⟨b1,0,none⟩)),(8,.int .i64 k),(9,.pointer (some ⟨b9,0,none⟩)),(10,.int .i64 j),(5,t1)]) ⟨rfl,rfl,rfl,rfl,ht.1,trivial⟩ fun ρ hρ=>?_
   have hff:f.fact=shareF x.T y:=ht.2
   rw[hρ.eq];clear hρ ht;rw[show fs.map cF++[cF f]=(fs++[f]).map cF from by simp]at hw
   have hok2:∀x∈fs++[f],FOk Γ2 x:=fun x hx=>(List.mem_append.1 hx).elim (fun h=>(hok x h).mono hle2) fun h=>by rw[List.mem_singleton.1 h];exact hokf
   have hwq:Wd Γ2 ((.own t1 67 2 ((fs++[f]).map cF)::.blk b1 (.cells #[.string H.Name,.slice a1 n1 c1,.slice a2 n2 c2,.slice a3 n3 c3,.slice a4 n4 c4,.slice a5 n5 c5] 30)::S)++[.blk b9 (.cells (cC x).toArray 89)]) w:=hw
   have hw:Wd Γ2 (.blk b9 (.cells (cC x).toArray 89)::.own t1 67 2 ((fs++[f]).map cF)::.blk b1 (.cells #[.string H.Name,.slice a1 n1 c1,.slice a2 n2 c2,.slice a3 n3 c3,.slice a4 n4 c4,.slice a5 n5 c5] 30)::S) w:=hwq.perm List.perm_append_comm
   clear hwq;repeat first|refine byW ?_|refine byV ?_;intro w hw
   refine⟨μ2-1,by omega,j+1,t1,Γ2,fs++[f],by omega,⟨rfl,rfl,rfl,rfl,rfl,trivial⟩,hle.trans hle2,hok2,?_,hw⟩
   have h1:facts (fs++[f])=facts fs++[f.fact]:=by unfold facts;rw[List.map_append];rfl
   rw[h1,hfs,hff,List.take_add_one,hy,List.map_append,←List.append_assoc];rfl
  have hjn:x.N≤j:=by have:=of_decide_eq_false h;omega
  clear h;rw[List.take_of_length_le (l:=x.Cores) (i:=j) (by omega)]at hfs
  repeat first|refine byW ?_|refine byV ?_;intro w hw
  refine⟨μ-1,by omega,k+1,_,Γ',fs,by omega,⟨rfl,rfl,rfl,trivial⟩,hle2'.trans hle,hok,?_,hw.drop⟩
  have h2:(cs'.take (k+1)).flatMap (fun c=>cacheFs c.T)=(cs'.take k).flatMap (fun c=>cacheFs c.T)++cacheFs x.T:=by rw[List.take_add_one,hx];simp
  rw[h2,hfs];unfold cacheFs;simp only[List.append_assoc,List.cons_append,List.nil_append];rfl
 have hkn:n2≤k:=by have:=of_decide_eq_false h;omega
 clear h;rw[List.take_of_length_le (by omega)]at hfs
 have hfs:facts fs=hwB2 H:=by
  rw[hfs];unfold hwB2;rw[←hcs,List.flatMap_map]
 have hle0:=hle
 clear rr hkn hk hle;repeat first|refine byW ?_|refine byV ?_;intro w hw
 refine W_loop (fun μ ρ w=>∃(k:Nat) (g:Value) (Γ':Gho) (fs:List FactH),μ+k=n3∧Has ρ [(1,.pointer (some ⟨b1,0,none⟩)),(5,g),(11,.int .i64 k)]∧Γ.le Γ'∧(∀f∈fs,FOk Γ' f)∧facts fs=hwB2 H++(H.Links.take k).map linkF∧Wd Γ' (.own g 67 2 (fs.map cF)::.blk b1 (.cells #[.string H.Name,.slice a1 n1 c1,.slice a2 n2 c2,.slice a3 n3 c3,.slice a4 n4 c4,.slice a5 n5 c5] 30)::S) w) n3 ⟨0,_,Γ',fs,by omega,⟨rfl,rfl,rfl,trivial⟩,hle0,hok,by rw[List.take_zero,List.map_nil,List.append_nil];exact hfs,hw⟩ ?_
 clear hw;rintro μ ρ w ⟨k,g,Γ',fs,hk,hρ,hle,hok,hfs,hw⟩
 rw[hρ.eq];clear hρ;obtain⟨ag,ng,cg,rfl,hng,hngc,hcg⟩:=hw.own_shape (i:=0) rfl
 simp only[List.length_map]at hng
 have hfl:fs.length≤50000:=by
  have:=congrArg List.length hfs
  unfold facts at this;simp only[List.length_append,List.length_map,List.length_take]at this
  omega
 have rr:=r3.mono hle
 repeat first|refine byW ?_|refine byV ?_;intro w hw
 refine W_cond rfl (fun h=>?_) (fun h=>?_)
 ·have hkn:k<n3:=by have:=of_decide_eq_true h;omega
  clear h;obtain⟨x,hx⟩:=get_lt (l:=H.Links) (k:=k) (by omega)
  repeat first|refine byW ?_|refine byV ?_;intro w hw
  refine lAlloc ?_;intro b9 w hw;refine lStore ?_;intro w hw;have hw:Wd Γ' (.blk b9 (.cells (enc x).toArray 79)::.own (.slice ag ng cg) 67 2 (fs.map cF)::.blk b1 (.cells #[.string H.Name,.slice a1 n1 c1,.slice a2 n2 c2,.slice a3 n3 c3,.slice a4 n4 c4,.slice a5 n5 c5] 30)::S) w:=hw
  repeat first|refine byW ?_|refine byV ?_;intro w hw
  refine W_mixQ [.blk b9 (.cells (enc x).toArray 79)] (.own (.slice ag ng cg) 67 2 (fs.map cF)::.blk b1 (.cells #[.string H.Name,.slice a1 n1 c1,.slice a2 n2 c2,.slice a3 n3 c3,.slice a4 n4 c4,.slice a5 n5 c5] 30)::S) [135,136,137,138] 5 (.slice ag ng cg) [[],[],[],[],[],[],[],[],[],[],[],[],[],[],[],[],[0],[0],[0],[0],[0,1]] [[1],[],[],[],[],[],[],[],[],[],[],[],[],[],[],[],[0],[0],[0],[0],[0,1]] hw ?_
  refine mMoveR (dd:=5) ?_
  refine byM ?_;refine mStepY (v:=undef) (T':=Value) (fun t g=>g 135=t) (fun t=>.own t 41 3 (((linkF x).2:List Val).map enc)::(.own (.slice ag ng cg) 67 2 (fs.map cF)::.blk b1 (.cells #[.string H.Name,.slice a1 n1 c1,.slice a2 n2 c2,.slice a3 n3 c3,.slice a4 n4 c4,.slice a5 n5 c5] 30)::S)) (fun t g w Y _ hw=>s_buildSlice (rws:=((linkF x).2:List Val).map enc) hw rfl rfl rfl (fun r hr=>by obtain⟨v,_,rfl⟩:=List.mem_map.1 hr;rfl) (by decide) fun q w' hw'=>⟨_,rfl,(fun h=>by cases h),hw'⟩) ?_
  refine mCallY (φ:=fun (t:Value) g=>g 135=t) (R:=fun t=>.own t 41 3 (((linkF x).2:List Val).map enc)::(.own (.slice ag ng cg) 67 2 (fs.map cF)::.blk b1 (.cells #[.string H.Name,.slice a1 n1 c1,.slice a2 n2 c2,.slice a3 n3 c3,.slice a4 n4 c4,.slice a5 n5 c5] 30)::S)) (v:=undef) (T':=FactH) (fun t g=>g 136=.agg (cF t).toArray∧t.fact=linkF x) (fun t=>.own t.hdr 41 3 (t.Args.map enc)::(.own (.slice ag ng cg) 67 2 (fs.map cF)::.blk b1 (.cells #[.string H.Name,.slice a1 n1 c1,.slice a2 n2 c2,.slice a3 n3 c3,.slice a4 n4 c4,.slice a5 n5 c5] 30)::S)) (fun t _=>[.string linkB,t]) (fun t g w Y ht hw=>?_) ?_ (ha:=fun t g ht=>EvL.cons rfl (EvL.cons ht EvL.nil))
  ·refine(Fact_any Γ' _ w t linkB (linkF x).2 (RdS.own (i:=0) hw rfl) (by simp[coreF,cacheF,shareF,linkF,memF,devF]) hw).mono ?_
   rintro e w ⟨f,rfl,hf,hw⟩
   exact⟨_,rfl,f,⟨rfl,hf⟩,(fun h=>by cases h),hw.dropAt 1⟩
  refine mStepY (φ:=fun (t:FactH) g=>g 136=.agg (cF t).toArray∧t.fact=linkF x) (R:=fun t=>.own t.hdr 41 3 (t.Args.map enc)::(.own (.slice ag ng cg) 67 2 (fs.map cF)::.blk b1 (.cells #[.string H.Name,.slice a1 n1 c1,.slice a2 n2 c2,.slice a3 n3 c3,.slice a4 n4 c4,.slice a5 n5 c5] 30)::S)) (v:=undef) (T':=Value×FactH) (fun t g=>g 137=t.1∧t.2.fact=linkF x) (fun t=>.own t.1 67 2 [cF t.2]::.own t.2.hdr 41 3 (t.2.Args.map enc)::(.own (.slice ag ng cg) 67 2 (fs.map cF)::.blk b1 (.cells #[.string H.Name,.slice a1 n1 c1,.slice a2 n2 c2,.slice a3 n3 c3,.slice a4 n4 c4,.slice a5 n5 c5] 30)::S)) (fun t g w Y ht hw=>s_buildSlice (rws:=[cF t]) (cells:=cF t) hw ?_ (by simp) rfl (by simp[cF]) (by decide) fun q w' hw'=>⟨(_,t),⟨rfl,ht.2⟩,(fun h=>by cases h),hw'⟩) ?_
  ·have h1:g 136=.agg (cF t).toArray:=ht.1
   show fillL _ _ [(0,g 136)]=_
   rw[h1];rfl
  refine mStepY (φ:=fun (t:Value×FactH) g=>g 137=t.1∧t.2.fact=linkF x) (R:=fun t=>.own t.1 67 2 [cF t.2]::.own t.2.hdr 41 3 (t.2.Args.map enc)::(.own (.slice ag ng cg) 67 2 (fs.map cF)::.blk b1 (.cells #[.string H.Name,.slice a1 n1 c1,.slice a2 n2 c2,.slice a3 n3 c3,.slice a4 n4 c4,.slice a5 n5 c5] 30)::S)) (v:=undef) (T':=Value×FactH) (fun t g=>g 138=t.1∧t.2.fact=linkF x) (fun t=>.own t.1 67 2 (fs.map cF++[cF t.2])::.own t.2.hdr 41 3 (t.2.Args.map enc)::.blk b1 (.cells #[.string H.Name,.slice a1 n1 c1,.slice a2 n2 c2,.slice a3 n3 c3,.slice a4 n4 c4,.slice a5 n5 c5] 30)::S) (fun t g w Y ht hw=>?_) ?_
  ·obtain⟨t1,f⟩:=t;obtain⟨a9,n9,c9,rfl,hn9,-,-⟩:=hw.own_shape (i:=0) rfl
   simp at hn9
   exact s_append (i:=2) (rows2:=[cF f]) hw rfl ht.1 rfl (Wd.own_rd (i:=0) hw rfl) (by simp;omega) (cFs_one [f]) (by omega) (by omega) fun v' w' hw'=>⟨(v',f),⟨rfl,ht.2⟩,(fun h=>by cases h),hw'.drop.ps [1]⟩
  refine mAssY (φ:=fun (t:Value×FactH) g=>g 138=t.1∧t.2.fact=linkF x) (dx:=138) (dd:=5) (fun t g=>g 5=t.1∧t.2.fact=linkF x) (fun t g ht=>ht) ?_
  refine mEndQ (φ:=fun (t:Value×FactH) g=>g 5=t.1∧t.2.fact=linkF x) fun t w g ht hw=>?_
  obtain⟨t1,f⟩:=t;obtain⟨Γ2,hle2,hokf,hw⟩:=(hw.ps [1]).freeze
  refine W_has (l:=[(1,.pointer (some ⟨b1,0,none⟩)),(11,.int .i64 k),(5,t1)]) ⟨rfl,rfl,ht.1,trivial⟩ fun ρ hρ=>?_
  have hff:f.fact=linkF x:=ht.2
  rw[hρ.eq];clear hρ ht;rw[show fs.map cF++[cF f]=(fs++[f]).map cF from by simp]at hw
  have hok2:∀x∈fs++[f],FOk Γ2 x:=fun x hx=>(List.mem_append.1 hx).elim (fun h=>(hok x h).mono hle2) fun h=>by rw[List.mem_singleton.1 h];exact hokf
  repeat first|refine byW ?_|refine byV ?_;intro w hw
  refine⟨μ-1,by omega,k+1,t1,Γ2,fs++[f],by omega,⟨rfl,rfl,rfl,trivial⟩,hle.trans hle2,hok2,?_,Wd.left (S:=.own t1 67 2 ((fs++[f]).map cF)::.blk b1 (.cells #[.string H.Name,.slice a1 n1 c1,.slice a2 n2 c2,.slice a3 n3 c3,.slice a4 n4 c4,.slice a5 n5 c5] 30)::S) hw⟩
  have h1:facts (fs++[f])=facts fs++[f.fact]:=by unfold facts;rw[List.map_append];rfl
  rw[h1,hfs,hff,List.take_add_one,hx,List.map_append,←List.append_assoc];rfl
 have hkn:n3≤k:=by have:=of_decide_eq_false h;omega
 clear h;rw[List.take_of_length_le (by omega)]at hfs
 have hfs:facts fs=hwB3 H:=hfs
 have hle0:=hle
 clear rr hkn hk hle;repeat first|refine byW ?_|refine byV ?_;intro w hw
 refine W_loop (fun μ ρ w=>∃(k:Nat) (g:Value) (Γ':Gho) (fs:List FactH),μ+k=n4∧Has ρ [(1,.pointer (some ⟨b1,0,none⟩)),(5,g),(13,.int .i64 k)]∧Γ.le Γ'∧(∀f∈fs,FOk Γ' f)∧facts fs=hwB3 H++(H.Mems.take k).map memF∧Wd Γ' (.own g 67 2 (fs.map cF)::.blk b1 (.cells #[.string H.Name,.slice a1 n1 c1,.slice a2 n2 c2,.slice a3 n3 c3,.slice a4 n4 c4,.slice a5 n5 c5] 30)::S) w) n4 ⟨0,_,Γ',fs,by omega,⟨rfl,rfl,rfl,trivial⟩,hle0,hok,by rw[List.take_zero,List.map_nil,List.append_nil];exact hfs,hw⟩ ?_
 clear hw;rintro μ ρ w ⟨k,g,Γ',fs,hk,hρ,hle,hok,hfs,hw⟩
 rw[hρ.eq];clear hρ;obtain⟨ag,ng,cg,rfl,hng,hngc,hcg⟩:=hw.own_shape (i:=0) rfl
 simp only[List.length_map]at hng
 have hfl:fs.length≤50000:=by
  have:=congrArg List.length hfs
  unfold facts at this;simp only[List.length_append,List.length_map,List.length_take]at this
  omega
 have rr:=r4.mono hle
 repeat first|refine byW ?_|refine byV ?_;intro w hw
 refine W_cond rfl (fun h=>?_) (fun h=>?_)
 ·have hkn:k<n4:=by have:=of_decide_eq_true h;omega
  clear h;obtain⟨x,hx⟩:=get_lt (l:=H.Mems) (k:=k) (by omega)
  repeat first|refine byW ?_|refine byV ?_;intro w hw
  refine lAlloc ?_;intro b9 w hw;refine lStore ?_;intro w hw;have hw:Wd Γ' (.blk b9 (.cells (enc x).toArray 83)::.own (.slice ag ng cg) 67 2 (fs.map cF)::.blk b1 (.cells #[.string H.Name,.slice a1 n1 c1,.slice a2 n2 c2,.slice a3 n3 c3,.slice a4 n4 c4,.slice a5 n5 c5] 30)::S) w:=hw
  repeat first|refine byW ?_|refine byV ?_;intro w hw
  refine W_mixQ [.blk b9 (.cells (enc x).toArray 83)] (.own (.slice ag ng cg) 67 2 (fs.map cF)::.blk b1 (.cells #[.string H.Name,.slice a1 n1 c1,.slice a2 n2 c2,.slice a3 n3 c3,.slice a4 n4 c4,.slice a5 n5 c5] 30)::S) [167,168,169,170] 5 (.slice ag ng cg) [[],[],[],[],[],[],[],[],[],[],[],[],[],[],[],[],[0],[0],[0],[0],[0,1]] [[1],[],[],[],[],[],[],[],[],[],[],[],[],[],[],[],[0],[0],[0],[0],[0,1]] hw ?_
  refine mMoveR (dd:=5) ?_
  refine byM ?_;refine mStepY (v:=undef) (T':=Value) (fun t g=>g 167=t) (fun t=>.own t 41 3 (((memF x).2:List Val).map enc)::(.own (.slice ag ng cg) 67 2 (fs.map cF)::.blk b1 (.cells #[.string H.Name,.slice a1 n1 c1,.slice a2 n2 c2,.slice a3 n3 c3,.slice a4 n4 c4,.slice a5 n5 c5] 30)::S)) (fun t g w Y _ hw=>s_buildSlice (rws:=((memF x).2:List Val).map enc) hw rfl rfl rfl (fun r hr=>by obtain⟨v,_,rfl⟩:=List.mem_map.1 hr;rfl) (by decide) fun q w' hw'=>⟨_,rfl,(fun h=>by cases h),hw'⟩) ?_
  refine mCallY (φ:=fun (t:Value) g=>g 167=t) (R:=fun t=>.own t 41 3 (((memF x).2:List Val).map enc)::(.own (.slice ag ng cg) 67 2 (fs.map cF)::.blk b1 (.cells #[.string H.Name,.slice a1 n1 c1,.slice a2 n2 c2,.slice a3 n3 c3,.slice a4 n4 c4,.slice a5 n5 c5] 30)::S)) (v:=undef) (T':=FactH) (fun t g=>g 168=.agg (cF t).toArray∧t.fact=memF x) (fun t=>.own t.hdr 41 3 (t.Args.map enc)::(.own (.slice ag ng cg) 67 2 (fs.map cF)::.blk b1 (.cells #[.string H.Name,.slice a1 n1 c1,.slice a2 n2 c2,.slice a3 n3 c3,.slice a4 n4 c4,.slice a5 n5 c5] 30)::S)) (fun t _=>[.string memoryB,t]) (fun t g w Y ht hw=>?_) ?_ (ha:=fun t g ht=>EvL.cons rfl (EvL.cons ht EvL.nil))
  ·refine(Fact_any Γ' _ w t memoryB (memF x).2 (RdS.own (i:=0) hw rfl) (by simp[coreF,cacheF,shareF,linkF,memF,devF]) hw).mono ?_
   rintro e w ⟨f,rfl,hf,hw⟩
   exact⟨_,rfl,f,⟨rfl,hf⟩,(fun h=>by cases h),hw.dropAt 1⟩
  refine mStepY (φ:=fun (t:FactH) g=>g 168=.agg (cF t).toArray∧t.fact=memF x) (R:=fun t=>.own t.hdr 41 3 (t.Args.map enc)::(.own (.slice ag ng cg) 67 2 (fs.map cF)::.blk b1 (.cells #[.string H.Name,.slice a1 n1 c1,.slice a2 n2 c2,.slice a3 n3 c3,.slice a4 n4 c4,.slice a5 n5 c5] 30)::S)) (v:=undef) (T':=Value×FactH) (fun t g=>g 169=t.1∧t.2.fact=memF x) (fun t=>.own t.1 67 2 [cF t.2]::.own t.2.hdr 41 3 (t.2.Args.map enc)::(.own (.slice ag ng cg) 67 2 (fs.map cF)::.blk b1 (.cells #[.string H.Name,.slice a1 n1 c1,.slice a2 n2 c2,.slice a3 n3 c3,.slice a4 n4 c4,.slice a5 n5 c5] 30)::S)) (fun t g w Y ht hw=>s_buildSlice (rws:=[cF t]) (cells:=cF t) hw ?_ (by simp) rfl (by simp[cF]) (by decide) fun q w' hw'=>⟨(_,t),⟨rfl,ht.2⟩,(fun h=>by cases h),hw'⟩) ?_
  ·have h1:g 168=.agg (cF t).toArray:=ht.1
   show fillL _ _ [(0,g 168)]=_
   rw[h1];rfl
  refine mStepY (φ:=fun (t:Value×FactH) g=>g 169=t.1∧t.2.fact=memF x) (R:=fun t=>.own t.1 67 2 [cF t.2]::.own t.2.hdr 41 3 (t.2.Args.map enc)::(.own (.slice ag ng cg) 67 2 (fs.map cF)::.blk b1 (.cells #[.string H.Name,.slice a1 n1 c1,.slice a2 n2 c2,.slice a3 n3 c3,.slice a4 n4 c4,.slice a5 n5 c5] 30)::S)) (v:=undef) (T':=Value×FactH) (fun t g=>g 170=t.1∧t.2.fact=memF x) (fun t=>.own t.1 67 2 (fs.map cF++[cF t.2])::.own t.2.hdr 41 3 (t.2.Args.map enc)::.blk b1 (.cells #[.string H.Name,.slice a1 n1 c1,.slice a2 n2 c2,.slice a3 n3 c3,.slice a4 n4 c4,.slice a5 n5 c5] 30)::S) (fun t g w Y ht hw=>?_) ?_
  ·obtain⟨t1,f⟩:=t;obtain⟨a9,n9,c9,rfl,hn9,-,-⟩:=hw.own_shape (i:=0) rfl
   simp at hn9
   exact s_append (i:=2) (rows2:=[cF f]) hw rfl ht.1 rfl (Wd.own_rd (i:=0) hw rfl) (by simp;omega) (cFs_one [f]) (by omega) (by omega) fun v' w' hw'=>⟨(v',f),⟨rfl,ht.2⟩,(fun h=>by cases h),hw'.drop.ps [1]⟩
  refine mAssY (φ:=fun (t:Value×FactH) g=>g 170=t.1∧t.2.fact=memF x) (dx:=170) (dd:=5) (fun t g=>g 5=t.1∧t.2.fact=memF x) (fun t g ht=>ht) ?_
  refine mEndQ (φ:=fun (t:Value×FactH) g=>g 5=t.1∧t.2.fact=memF x) fun t w g ht hw=>?_
  obtain⟨t1,f⟩:=t;obtain⟨Γ2,hle2,hokf,hw⟩:=(hw.ps [1]).freeze
  refine W_has (l:=[(1,.pointer (some ⟨b1,0,none⟩)),(13,.int .i64 k),(5,t1)]) ⟨rfl,rfl,ht.1,trivial⟩ fun ρ hρ=>?_
  have hff:f.fact=memF x:=ht.2
  rw[hρ.eq];clear hρ ht;rw[show fs.map cF++[cF f]=(fs++[f]).map cF from by simp]at hw
  have hok2:∀x∈fs++[f],FOk Γ2 x:=fun x hx=>(List.mem_append.1 hx).elim (fun h=>(hok x h).mono hle2) fun h=>by rw[List.mem_singleton.1 h];exact hokf
  repeat first|refine byW ?_|refine byV ?_;intro w hw
  refine⟨μ-1,by omega,k+1,t1,Γ2,fs++[f],by omega,⟨rfl,rfl,rfl,trivial⟩,hle.trans hle2,hok2,?_,Wd.left (S:=.own t1 67 2 ((fs++[f]).map cF)::.blk b1 (.cells #[.string H.Name,.slice a1 n1 c1,.slice a2 n2 c2,.slice a3 n3 c3,.slice a4 n4 c4,.slice a5 n5 c5] 30)::S) hw⟩
  have h1:facts (fs++[f])=facts fs++[f.fact]:=by unfold facts;rw[List.map_append];rfl
  rw[h1,hfs,hff,List.take_add_one,hx,List.map_append,←List.append_assoc];rfl
 have hkn:n4≤k:=by have:=of_decide_eq_false h;omega
 clear h;rw[List.take_of_length_le (by omega)]at hfs
 have hfs:facts fs=hwB4 H:=hfs
 have hle0:=hle
 clear rr hkn hk hle;repeat first|refine byW ?_|refine byV ?_;intro w hw
 refine W_loop (fun μ ρ w=>∃(k:Nat) (g:Value) (Γ':Gho) (fs:List FactH),μ+k=n5∧Has ρ [(1,.pointer (some ⟨b1,0,none⟩)),(5,g),(15,.int .i64 k)]∧Γ.le Γ'∧(∀f∈fs,FOk Γ' f)∧facts fs=hwB4 H++(H.Devs.take k).map devF∧Wd Γ' (.own g 67 2 (fs.map cF)::.blk b1 (.cells #[.string H.Name,.slice a1 n1 c1,.slice a2 n2 c2,.slice a3 n3 c3,.slice a4 n4 c4,.slice a5 n5 c5] 30)::S) w) n5 ⟨0,_,Γ',fs,by omega,⟨rfl,rfl,rfl,trivial⟩,hle0,hok,by rw[List.take_zero,List.map_nil,List.append_nil];exact hfs,hw⟩ ?_
 clear hw;rintro μ ρ w ⟨k,g,Γ',fs,hk,hρ,hle,hok,hfs,hw⟩
 rw[hρ.eq];clear hρ;obtain⟨ag,ng,cg,rfl,hng,hngc,hcg⟩:=hw.own_shape (i:=0) rfl
 simp only[List.length_map]at hng
 have hfl:fs.length≤50000:=by
  have:=congrArg List.length hfs
  unfold facts at this;simp only[List.length_append,List.length_map,List.length_take]at this
  omega
 have rr:=r5.mono hle
 repeat first|refine byW ?_|refine byV ?_;intro w hw
 refine W_cond rfl (fun h=>?_) (fun h=>?_)
 ·have hkn:k<n5:=by have:=of_decide_eq_true h;omega
  clear h;obtain⟨x,hx⟩:=get_lt (l:=H.Devs) (k:=k) (by omega)
  repeat first|refine byW ?_|refine byV ?_;intro w hw
  refine lAlloc ?_;intro b9 w hw;refine lStore ?_;intro w hw;have hw:Wd Γ' (.blk b9 (.cells (enc x).toArray 85)::.own (.slice ag ng cg) 67 2 (fs.map cF)::.blk b1 (.cells #[.string H.Name,.slice a1 n1 c1,.slice a2 n2 c2,.slice a3 n3 c3,.slice a4 n4 c4,.slice a5 n5 c5] 30)::S) w:=hw
  repeat first|refine byW ?_|refine byV ?_;intro w hw
  refine W_mixQ [.blk b9 (.cells (enc x).toArray 85)] (.own (.slice ag ng cg) 67 2 (fs.map cF)::.blk b1 (.cells #[.string H.Name,.slice a1 n1 c1,.slice a2 n2 c2,.slice a3 n3 c3,.slice a4 n4 c4,.slice a5 n5 c5] 30)::S) [199,200,201,202] 5 (.slice ag ng cg) [[],[],[],[],[],[],[],[],[],[],[],[],[],[],[],[],[0],[0],[0],[0],[0,1]] [[1],[],[],[],[],[],[],[],[],[],[],[],[],[],[],[],[0],[0],[0],[0],[0,1]] hw ?_
  refine mMoveR (dd:=5) ?_
  refine byM ?_;refine mStepY (v:=undef) (T':=Value) (fun t g=>g 199=t) (fun t=>.own t 41 3 (((devF x).2:List Val).map enc)::(.own (.slice ag ng cg) 67 2 (fs.map cF)::.blk b1 (.cells #[.string H.Name,.slice a1 n1 c1,.slice a2 n2 c2,.slice a3 n3 c3,.slice a4 n4 c4,.slice a5 n5 c5] 30)::S)) (fun t g w Y _ hw=>s_buildSlice (rws:=((devF x).2:List Val).map enc) hw rfl rfl rfl (fun r hr=>by obtain⟨v,_,rfl⟩:=List.mem_map.1 hr;rfl) (by decide) fun q w' hw'=>⟨_,rfl,(fun h=>by cases h),hw'⟩) ?_
  refine mCallY (φ:=fun (t:Value) g=>g 199=t) (R:=fun t=>.own t 41 3 (((devF x).2:List Val).map enc)::(.own (.slice ag ng cg) 67 2 (fs.map cF)::.blk b1 (.cells #[.string H.Name,.slice a1 n1 c1,.slice a2 n2 c2,.slice a3 n3 c3,.slice a4 n4 c4,.slice a5 n5 c5] 30)::S)) (v:=undef) (T':=FactH) (fun t g=>g 200=.agg (cF t).toArray∧t.fact=devF x) (fun t=>.own t.hdr 41 3 (t.Args.map enc)::(.own (.slice ag ng cg) 67 2 (fs.map cF)::.blk b1 (.cells #[.string H.Name,.slice a1 n1 c1,.slice a2 n2 c2,.slice a3 n3 c3,.slice a4 n4 c4,.slice a5 n5 c5] 30)::S)) (fun t _=>[.string deviceB,t]) (fun t g w Y ht hw=>?_) ?_ (ha:=fun t g ht=>EvL.cons rfl (EvL.cons ht EvL.nil))
  ·refine(Fact_any Γ' _ w t deviceB (devF x).2 (RdS.own (i:=0) hw rfl) (by simp[coreF,cacheF,shareF,linkF,memF,devF]) hw).mono ?_
   rintro e w ⟨f,rfl,hf,hw⟩
   exact⟨_,rfl,f,⟨rfl,hf⟩,(fun h=>by cases h),hw.dropAt 1⟩
  refine mStepY (φ:=fun (t:FactH) g=>g 200=.agg (cF t).toArray∧t.fact=devF x) (R:=fun t=>.own t.hdr 41 3 (t.Args.map enc)::(.own (.slice ag ng cg) 67 2 (fs.map cF)::.blk b1 (.cells #[.string H.Name,.slice a1 n1 c1,.slice a2 n2 c2,.slice a3 n3 c3,.slice a4 n4 c4,.slice a5 n5 c5] 30)::S)) (v:=undef) (T':=Value×FactH) (fun t g=>g 201=t.1∧t.2.fact=devF x) (fun t=>.own t.1 67 2 [cF t.2]::.own t.2.hdr 41 3 (t.2.Args.map enc)::(.own (.slice ag ng cg) 67 2 (fs.map cF)::.blk b1 (.cells #[.string H.Name,.slice a1 n1 c1,.slice a2 n2 c2,.slice a3 n3 c3,.slice a4 n4 c4,.slice a5 n5 c5] 30)::S)) (fun t g w Y ht hw=>s_buildSlice (rws:=[cF t]) (cells:=cF t) hw ?_ (by simp) rfl (by simp[cF]) (by decide) fun q w' hw'=>⟨(_,t),⟨rfl,ht.2⟩,(fun h=>by cases h),hw'⟩) ?_
  ·have h1:g 200=.agg (cF t).toArray:=ht.1
   show fillL _ _ [(0,g 200)]=_
   rw[h1];rfl
  refine mStepY (φ:=fun (t:Value×FactH) g=>g 201=t.1∧t.2.fact=devF x) (R:=fun t=>.own t.1 67 2 [cF t.2]::.own t.2.hdr 41 3 (t.2.Args.map enc)::(.own (.slice ag ng cg) 67 2 (fs.map cF)::.blk b1 (.cells #[.string H.Name,.slice a1 n1 c1,.slice a2 n2 c2,.slice a3 n3 c3,.slice a4 n4 c4,.slice a5 n5 c5] 30)::S)) (v:=undef) (T':=Value×FactH) (fun t g=>g 202=t.1∧t.2.fact=devF x) (fun t=>.own t.1 67 2 (fs.map cF++[cF t.2])::.own t.2.hdr 41 3 (t.2.Args.map enc)::.blk b1 (.cells #[.string H.Name,.slice a1 n1 c1,.slice a2 n2 c2,.slice a3 n3 c3,.slice a4 n4 c4,.slice a5 n5 c5] 30)::S) (fun t g w Y ht hw=>?_) ?_
  ·obtain⟨t1,f⟩:=t;obtain⟨a9,n9,c9,rfl,hn9,-,-⟩:=hw.own_shape (i:=0) rfl
   simp at hn9
   exact s_append (i:=2) (rows2:=[cF f]) hw rfl ht.1 rfl (Wd.own_rd (i:=0) hw rfl) (by simp;omega) (cFs_one [f]) (by omega) (by omega) fun v' w' hw'=>⟨(v',f),⟨rfl,ht.2⟩,(fun h=>by cases h),hw'.drop.ps [1]⟩
  refine mAssY (φ:=fun (t:Value×FactH) g=>g 202=t.1∧t.2.fact=devF x) (dx:=202) (dd:=5) (fun t g=>g 5=t.1∧t.2.fact=devF x) (fun t g ht=>ht) ?_
  refine mEndQ (φ:=fun (t:Value×FactH) g=>g 5=t.1∧t.2.fact=devF x) fun t w g ht hw=>?_
  obtain⟨t1,f⟩:=t;obtain⟨Γ2,hle2,hokf,hw⟩:=(hw.ps [1]).freeze
  refine W_has (l:=[(1,.pointer (some ⟨b1,0,none⟩)),(15,.int .i64 k),(5,t1)]) ⟨rfl,rfl,ht.1,trivial⟩ fun ρ hρ=>?_
  have hff:f.fact=devF x:=ht.2
  rw[hρ.eq];clear hρ ht;rw[show fs.map cF++[cF f]=(fs++[f]).map cF from by simp]at hw
  have hok2:∀x∈fs++[f],FOk Γ2 x:=fun x hx=>(List.mem_append.1 hx).elim (fun h=>(hok x h).mono hle2) fun h=>by rw[List.mem_singleton.1 h];exact hokf
  repeat first|refine byW ?_|refine byV ?_;intro w hw
  refine⟨μ-1,by omega,k+1,t1,Γ2,fs++[f],by omega,⟨rfl,rfl,rfl,trivial⟩,hle.trans hle2,hok2,?_,Wd.left (S:=.own t1 67 2 ((fs++[f]).map cF)::.blk b1 (.cells #[.string H.Name,.slice a1 n1 c1,.slice a2 n2 c2,.slice a3 n3 c3,.slice a4 n4 c4,.slice a5 n5 c5] 30)::S) hw⟩
  have h1:facts (fs++[f])=facts fs++[f.fact]:=by unfold facts;rw[List.map_append];rfl
  rw[h1,hfs,hff,List.take_add_one,hx,List.map_append,←List.append_assoc];rfl
 have hkn:n5≤k:=by have:=of_decide_eq_false h;omega
 clear h;rw[List.take_of_length_le (by omega)]at hfs
 have hfs:facts fs=hwFacts H:=hfs
 have hle0:=hle
 clear rr hkn hk hle;repeat first|refine byW ?_|refine byV ?_;intro w hw
 refine lCall (vs:=[.slice ag ng cg]) ?_
 refine(SetR_any fs hok (by omega) (RdS.own (i:=0) hw rfl) hw).mono ?_
 clear hw;rintro e w ⟨v',rfl,hw⟩
 refine⟨_,rfl,?_⟩;repeat first|refine byW ?_|refine byV ?_;intro w hw
 exact⟨_,rfl,Γ',v',fs,hle0,rfl,hfs,hok,hw.ds [1,1]⟩
end Go.Proofs.YtfoggcgogafocaaGreat
end
section
open Go Mk
namespace Go.Proofs.YtfoggcgogafocaaGreat
set_option maxHeartbeats 8000000
attribute [local irreducible] Calls
structure HwLen(H:HwT):Prop where
 c:H.Cores.length≤1000000
 h:H.Caches.length≤1000000
 l:H.Links.length≤1000000
 m:H.Mems.length≤1000000
 d:H.Devs.length≤1000000
 k:∀x∈H.Caches,x.Cores.length≤1000000
def ownC(c:CacheH):Res:=.own (.slice c.A c.N c.C) 3 1 (intRows c.Cores)
structure HwV where
 v1:Value
 v2:Value
 v3:Value
 v4:Value
 v5:Value
 cs:List CacheH
def HwV.L(p:HwV)(H:HwT):List Res:=.own p.v1 37 4 (H.Cores.map enc)::.own p.v2 89 5 (p.cs.map cC)::.own p.v3 79 3 (H.Links.map enc)::.own p.v4 83 5 (H.Mems.map enc)::.own p.v5 85 5 (H.Devs.map enc)::p.cs.map ownC
def Res.hw(u:Value)(H:HwT):Res:=Res.ex (α:={p:HwV // u=.agg #[.string H.Name,p.v1,p.v2,p.v3,p.v4,p.v5]∧p.cs.map CacheH.T=H.Caches}) fun p=>p.1.L H
theorem freezeC{w:World}{S:List Res}:∀ {cs:List CacheH} {Γ:Gho},Wd Γ (cs.map ownC++S) w→∃Γ',Γ.le Γ'∧(∀c∈cs,COk Γ' c)∧Wd Γ' S w
 | [],Γ,hw=>⟨Γ,Gho.le.refl _,by simp,hw⟩
 | c::cs,Γ,hw=>by
  obtain⟨Γ1,e1,r1,hw⟩:=Wd.freeze (hw:Wd Γ (.own (.slice c.A c.N c.C) 3 1 (intRows c.Cores)::(cs.map ownC++S)) w)
  obtain⟨Γ2,e2,h2,hw⟩:=freezeC (S:=S) hw
  refine⟨Γ2,e1.trans e2,fun x hx=>?_,hw⟩
  rcases List.mem_cons.1 hx with rfl|hx
  ·exact RepS.mono r1 e2
  ·exact h2 x hx
theorem wd_tuck{Γ:Gho}{w:World}{a:Res}{A X R:List Res}(h:Wd Γ (a::(A++(X++R))) w):Wd Γ (A++((X++[a])++R)) w:=h.perm (by
 rw[←List.append_assoc,List.append_assoc X,←List.append_assoc];exact List.perm_middle.symm)
theorem Copy_any{Γ:Gho}{S:List Res}{w:World}{u:Value}{H:HwT}[hh:HwR Γ u H](hs:HwLen H)(hw:Wd Γ S w) :
  Calls Tryz.prog 13 #[u] w fun e w'=>∃u',e=.returned u'∧Wd Γ (Res.hw u' H::S) w':=by
 obtain⟨a1,n1,c1,a2,n2,c2,a3,n3,c3,a4,n4,c4,a5,n5,c5,cs,rfl,hcs,hok,hsz,r1,r2,r3,r4,r5⟩:=hh.h;obtain⟨hn1,hm1,hx1⟩:=rep_facts r1
 obtain⟨hn2,hm2,hx2⟩:=rep_facts r2
 obtain⟨hn3,hm3,hx3⟩:=rep_facts r3
 obtain⟨hn4,hm4,hx4⟩:=rep_facts r4
 obtain⟨hn5,hm5,hx5⟩:=rep_facts r5
 simp only[List.length_map]at hn1 hn2 hn3 hn4 hn5
 have hcl:cs.length=H.Caches.length:=by rw[←hcs];simp
 obtain⟨l1,l2,l3,l4,l5,l6⟩:=hs;refine calls_of_WC Tryz.func13 rfl rfl ?_
 repeat first|refine byW ?_|refine byV ?_;intro w hw
 refine lBox ?_;intro b1 w hw;refine lAlloc ?_;intro b2 w hw;repeat first|refine byW ?_|refine byV ?_;intro w hw
 have hw:Wd Γ (.blk b2 (.cells hwZ.toArray 30)::.blk b1 (hwC H a1 n1 c1 a2 n2 c2 a3 n3 c3 a4 n4 c4 a5 n5 c5)::S) w:=hw
 have hw:=hw.ps [1]
 have hw:Wd Γ (.blk b1 (hwC H a1 n1 c1 a2 n2 c2 a3 n3 c3 a4 n4 c4 a5 n5 c5)::.blk b2 (.cells hwZ.toArray 30)::S) w:=hw
 repeat first|refine byW ?_|refine byV ?_;intro w hw
 refine lAlloc ?_;intro b3 w hw;refine lStore ?_;intro w hw;have hw:Wd Γ (.own (.slice none 0 0) 37 4 []::.blk b3 (hwC H a1 n1 c1 a2 n2 c2 a3 n3 c3 a4 n4 c4 a5 n5 c5)::.blk b1 (hwC H a1 n1 c1 a2 n2 c2 a3 n3 c3 a4 n4 c4 a5 n5 c5)::.blk b2 (.cells hwZ.toArray 30)::S) w:=Wd.addNil hw
 repeat first|refine byW ?_|refine byV ?_;intro w hw
 refine lApp (i:=0) (rows2:=H.Cores.map enc) ?_ (r1.rd hw) (h1:=encs_one _) (hm:=by simp;omega)
 intro v1 w hw;obtain⟨A1,N1,C1,rfl,-,-,-⟩:=hw.own_shape (i:=0) rfl
 have hw:Wd Γ (.own (.slice A1 N1 C1) 37 4 (H.Cores.map enc)::.blk b3 (hwC H a1 n1 c1 a2 n2 c2 a3 n3 c3 a4 n4 c4 a5 n5 c5)::.blk b1 (hwC H a1 n1 c1 a2 n2 c2 a3 n3 c3 a4 n4 c4 a5 n5 c5)::.blk b2 (.cells hwZ.toArray 30)::S) w:=hw
 repeat first|refine byW ?_|refine byV ?_;intro w hw
 refine lStore (i:=1) ?_
 intro w hw;have hw:Wd Γ (.own (.slice none 0 0) 79 3 []::.own (.slice A1 N1 C1) 37 4 (H.Cores.map enc)::.blk b3 (hwC H A1 N1 C1 a2 n2 c2 a3 n3 c3 a4 n4 c4 a5 n5 c5)::.blk b1 (hwC H a1 n1 c1 a2 n2 c2 a3 n3 c3 a4 n4 c4 a5 n5 c5)::.blk b2 (.cells hwZ.toArray 30)::S) w:=Wd.addNil hw
 repeat first|refine byW ?_|refine byV ?_;intro w hw
 refine lApp (i:=0) (rows2:=H.Links.map enc) ?_ (r3.rd hw) (h1:=encs_one _) (hm:=by simp;omega)
 intro v3 w hw;obtain⟨A3,N3,C3,rfl,-,-,-⟩:=hw.own_shape (i:=0) rfl
 have hw:Wd Γ (.own (.slice A3 N3 C3) 79 3 (H.Links.map enc)::.own (.slice A1 N1 C1) 37 4 (H.Cores.map enc)::.blk b3 (hwC H A1 N1 C1 a2 n2 c2 a3 n3 c3 a4 n4 c4 a5 n5 c5)::.blk b1 (hwC H a1 n1 c1 a2 n2 c2 a3 n3 c3 a4 n4 c4 a5 n5 c5)::.blk b2 (.cells hwZ.toArray 30)::S) w:=hw
 repeat first|refine byW ?_|refine byV ?_;intro w hw
 refine lStore (i:=2) ?_
 intro w hw;have hw:Wd Γ (.own (.slice none 0 0) 83 5 []::.own (.slice A3 N3 C3) 79 3 (H.Links.map enc)::.own (.slice A1 N1 C1) 37 4 (H.Cores.map enc)::.blk b3 (hwC H A1 N1 C1 a2 n2 c2 A3 N3 C3 a4 n4 c4 a5 n5 c5)::.blk b1 (hwC H a1 n1 c1 a2 n2 c2 a3 n3 c3 a4 n4 c4 a5 n5 c5)::.blk b2 (.cells hwZ.toArray 30)::S) w:=Wd.addNil hw
 repeat first|refine byW ?_|refine byV ?_;intro w hw
 refine lApp (i:=0) (rows2:=H.Mems.map enc) ?_ (r4.rd hw) (h1:=encs_one _) (hm:=by simp;omega)
 intro v4 w hw;obtain⟨A4,N4,C4,rfl,-,-,-⟩:=hw.own_shape (i:=0) rfl
 have hw:Wd Γ (.own (.slice A4 N4 C4) 83 5 (H.Mems.map enc)::.own (.slice A3 N3 C3) 79 3 (H.Links.map enc)::.own (.slice A1 N1 C1) 37 4 (H.Cores.map enc)::.blk b3 (hwC H A1 N1 C1 a2 n2 c2 A3 N3 C3 a4 n4 c4 a5 n5 c5)::.blk b1 (hwC H a1 n1 c1 a2 n2 c2 a3 n3 c3 a4 n4 c4 a5 n5 c5)::.blk b2 (.cells hwZ.toArray 30)::S) w:=hw
 repeat first|refine byW ?_|refine byV ?_;intro w hw
 refine lStore (i:=3) ?_
 intro w hw;have hw:Wd Γ (.own (.slice none 0 0) 85 5 []::.own (.slice A4 N4 C4) 83 5 (H.Mems.map enc)::.own (.slice A3 N3 C3) 79 3 (H.Links.map enc)::.own (.slice A1 N1 C1) 37 4 (H.Cores.map enc)::.blk b3 (hwC H A1 N1 C1 a2 n2 c2 A3 N3 C3 A4 N4 C4 a5 n5 c5)::.blk b1 (hwC H a1 n1 c1 a2 n2 c2 a3 n3 c3 a4 n4 c4 a5 n5 c5)::.blk b2 (.cells hwZ.toArray 30)::S) w:=Wd.addNil hw
 repeat first|refine byW ?_|refine byV ?_;intro w hw
 refine lApp (i:=0) (rows2:=H.Devs.map enc) ?_ (r5.rd hw) (h1:=encs_one _) (hm:=by simp;omega)
 intro v5 w hw;obtain⟨A5,N5,C5,rfl,-,-,-⟩:=hw.own_shape (i:=0) rfl
 have hw:Wd Γ (.own (.slice A5 N5 C5) 85 5 (H.Devs.map enc)::.own (.slice A4 N4 C4) 83 5 (H.Mems.map enc)::.own (.slice A3 N3 C3) 79 3 (H.Links.map enc)::.own (.slice A1 N1 C1) 37 4 (H.Cores.map enc)::.blk b3 (hwC H A1 N1 C1 a2 n2 c2 A3 N3 C3 A4 N4 C4 a5 n5 c5)::.blk b1 (hwC H a1 n1 c1 a2 n2 c2 a3 n3 c3 a4 n4 c4 a5 n5 c5)::.blk b2 (.cells hwZ.toArray 30)::S) w:=hw
 repeat first|refine byW ?_|refine byV ?_;intro w hw
 refine lStore (i:=4) ?_
 intro w hw;repeat first|refine byW ?_|refine byV ?_;intro w hw
 refine lStore (i:=4) ?_
 intro w hw;have hw:Wd Γ (.own (.slice A5 N5 C5) 85 5 (H.Devs.map enc)::.own (.slice A4 N4 C4) 83 5 (H.Mems.map enc)::.own (.slice A3 N3 C3) 79 3 (H.Links.map enc)::.own (.slice A1 N1 C1) 37 4 (H.Cores.map enc)::.blk b3 (hwC H A1 N1 C1 none 0 0 A3 N3 C3 A4 N4 C4 A5 N5 C5)::.blk b1 (hwC H a1 n1 c1 a2 n2 c2 a3 n3 c3 a4 n4 c4 a5 n5 c5)::.blk b2 (.cells hwZ.toArray 30)::S) w:=hw
 obtain⟨R,hR⟩:∃R:List Res,R=.own (.slice A1 N1 C1) 37 4 (H.Cores.map enc)::.own (.slice A3 N3 C3) 79 3 (H.Links.map enc)::.own (.slice A4 N4 C4) 83 5 (H.Mems.map enc)::.own (.slice A5 N5 C5) 85 5 (H.Devs.map enc)::S:=⟨_,rfl⟩
 have hw:Wd Γ (.own (.slice none 0 0) 89 5 ((([]:List CacheH)).map cC)::.blk b1 (hwC H a1 n1 c1 a2 n2 c2 a3 n3 c3 a4 n4 c4 a5 n5 c5)::.blk b2 (.cells hwZ.toArray 30)::.blk b3 (hwC H A1 N1 C1 none 0 0 A3 N3 C3 A4 N4 C4 A5 N5 C5)::R) w:=by
  rw[hR];exact Wd.addNil (hw.ps [1,2,3,4,6,6])
 repeat first|refine byW ?_|refine byV ?_;intro w hw
 have hw:Wd Γ (.own (.slice none 0 0) 89 5 (([]:List CacheH).map cC)::.blk b1 (hwC H a1 n1 c1 a2 n2 c2 a3 n3 c3 a4 n4 c4 a5 n5 c5)::.blk b2 (.cells hwZ.toArray 30)::.blk b3 (hwC H A1 N1 C1 none 0 0 A3 N3 C3 A4 N4 C4 A5 N5 C5)::(([]:List CacheH).map ownC++R)) w:=hw
 refine W_loop (fun μ ρ w=>∃(k:Nat) (q:Option Addr) (m d:Nat) (xs:List CacheH),μ+k=n2∧xs.map CacheH.T=(cs.take k).map CacheH.T∧Has ρ [(1,.pointer (some ⟨b1,0,none⟩)),(2,.pointer (some ⟨b2,0,none⟩)),(3,.pointer (some ⟨b3,0,none⟩)),(4,.int .i64 k)]∧Wd Γ (.own (.slice q m d) 89 5 (xs.map cC)::.blk b1 (hwC H a1 n1 c1 a2 n2 c2 a3 n3 c3 a4 n4 c4 a5 n5 c5)::.blk b2 (.cells hwZ.toArray 30)::.blk b3 (hwC H A1 N1 C1 q m d A3 N3 C3 A4 N4 C4 A5 N5 C5)::(xs.map ownC++R)) w) n2 ⟨0,none,0,0,[],by omega,rfl,⟨rfl,rfl,rfl,rfl,trivial⟩,hw⟩ ?_
 clear hw;rintro μ ρ w ⟨k,q,m,d,xs,hk,hxs,hρ,hw⟩
 have hm:=own_len (i:=0) hw rfl
 have hxl:xs.length=k:=by have:=congrArg List.length hxs;simp at this;omega
 simp only[List.length_map]at hm
 rw[hρ.eq];repeat first|refine byW ?_|refine byV ?_;intro w hw
 refine W_cond rfl (fun h=>?_) (fun h=>?_)
 ·have hkn:k<n2:=by have:=of_decide_eq_true h;omega
  obtain⟨x,hx⟩:=get_lt (l:=cs) (k:=k) (by omega)
  have hcx:=hok x (List.mem_of_getElem? hx)
  obtain⟨hxn,hxm,hxc⟩:=hcx.facts;unfold COk at hcx;have hx6:=l6 x.T (by rw[←hcs];exact List.mem_map.2 ⟨x,List.mem_of_getElem? hx,rfl⟩)
  have hx6:x.Cores.length≤1000000:=hx6
  repeat first|refine byW ?_|refine byV ?_;intro w hw
  refine lAlloc ?_;intro b5 w hw;refine lStore ?_;intro w hw;have hw:Wd Γ (.blk b5 (.cells (cC x).toArray 89)::.own (.slice q m d) 89 5 (xs.map cC)::.blk b1 (hwC H a1 n1 c1 a2 n2 c2 a3 n3 c3 a4 n4 c4 a5 n5 c5)::.blk b2 (.cells hwZ.toArray 30)::.blk b3 (hwC H A1 N1 C1 q m d A3 N3 C3 A4 N4 C4 A5 N5 C5)::(xs.map ownC++R)) w:=hw
  repeat first|refine byW ?_|refine byV ?_;intro w hw
  have hw:Wd Γ (.own (.slice none 0 0) 3 1 []::.blk b5 (.cells (cC x).toArray 89)::.own (.slice q m d) 89 5 (xs.map cC)::.blk b1 (hwC H a1 n1 c1 a2 n2 c2 a3 n3 c3 a4 n4 c4 a5 n5 c5)::.blk b2 (.cells hwZ.toArray 30)::.blk b3 (hwC H A1 N1 C1 q m d A3 N3 C3 A4 N4 C4 A5 N5 C5)::(xs.map ownC++R)) w:=Wd.addNil hw
  refine lApp (i:=0) (rows2:=intRows x.Cores) ?_ (hcx.rd hw) (h1:=ints_one _) (hm:=by simp[intRows];omega)
  intro v9 w hw;obtain⟨Q,M,D,rfl,-,-,-⟩:=hw.own_shape (i:=0) rfl
  obtain⟨y,hy⟩:∃y:CacheH,y=⟨x.Name,x.Level,x.Line,x.Size,Q,M,D,x.Cores⟩:=⟨_,rfl⟩
  have hyT:y.T=x.T:=by rw[hy];rfl
  have hw:Wd Γ (ownC y::.blk b5 (.cells (cC x).toArray 89)::.own (.slice q m d) 89 5 (xs.map cC)::.blk b1 (hwC H a1 n1 c1 a2 n2 c2 a3 n3 c3 a4 n4 c4 a5 n5 c5)::.blk b2 (.cells hwZ.toArray 30)::.blk b3 (hwC H A1 N1 C1 q m d A3 N3 C3 A4 N4 C4 A5 N5 C5)::(xs.map ownC++R)) w:=by rw[hy];exact hw
  repeat first|refine byW ?_|refine byV ?_;intro w hw
  refine lStore (i:=1) ?_
  intro w hw;have hw:Wd Γ (ownC y::.blk b5 (.cells (cC y).toArray 89)::.own (.slice q m d) 89 5 (xs.map cC)::.blk b1 (hwC H a1 n1 c1 a2 n2 c2 a3 n3 c3 a4 n4 c4 a5 n5 c5)::.blk b2 (.cells hwZ.toArray 30)::.blk b3 (hwC H A1 N1 C1 q m d A3 N3 C3 A4 N4 C4 A5 N5 C5)::(xs.map ownC++R)) w:=by rw[hy]at hw ⊢;exact hw
  repeat first|refine byW ?_|refine byV ?_;intro w hw
  refine lBuildSlice [cC y] ?_
  intro ab w hw;refine lApp (i:=3) (rows2:=[cC y]) ?_ (Wd.own_rd (i:=0) hw rfl)
  intro v' w hw;obtain⟨q',m',d',rfl,-,-,-⟩:=hw.own_shape (i:=3) rfl
  repeat first|refine byW ?_|refine byV ?_;intro w hw
  have hw:=(hw.drop).dropAt 1
  have hw:Wd Γ (ownC y::.own (.slice q' m' d') 89 5 (xs.map cC++[cC y])::.blk b1 (hwC H a1 n1 c1 a2 n2 c2 a3 n3 c3 a4 n4 c4 a5 n5 c5)::.blk b2 (.cells hwZ.toArray 30)::.blk b3 (hwC H A1 N1 C1 q m d A3 N3 C3 A4 N4 C4 A5 N5 C5)::(xs.map ownC++R)) w:=hw
  refine lStore (i:=4) ?_
  intro w hw;have hw:Wd Γ (.own (.slice q' m' d') 89 5 ((xs++[y]).map cC)::.blk b1 (hwC H a1 n1 c1 a2 n2 c2 a3 n3 c3 a4 n4 c4 a5 n5 c5)::.blk b2 (.cells hwZ.toArray 30)::.blk b3 (hwC H A1 N1 C1 q' m' d' A3 N3 C3 A4 N4 C4 A5 N5 C5)::((xs++[y]).map ownC++R)) w:=by
   rw[List.map_append,List.map_append];exact wd_tuck (A:=[.own (.slice q' m' d') 89 5 (xs.map cC++[cC y]),.blk b1 _,.blk b2 _,.blk b3 _]) hw
  repeat first|refine byW ?_|refine byV ?_;intro w hw
  refine⟨μ-1,by omega,k+1,_,_,_,_,by omega,?_,⟨rfl,rfl,rfl,rfl,trivial⟩,hw⟩
  rw[List.map_append,hxs,take_succ_of hx,List.map_append];simp[hyT]
 ·have hkn:¬k<n2:=by have:=of_decide_eq_false h;omega
  rw[List.take_of_length_le (by omega),hcs]at hxs
  repeat first|refine byW ?_|refine byV ?_;intro w hw
  refine lStore (i:=2) ?_
  intro w hw;have hw:Wd Γ (.own (.slice q m d) 89 5 (xs.map cC)::.blk b1 (hwC H a1 n1 c1 a2 n2 c2 a3 n3 c3 a4 n4 c4 a5 n5 c5)::.blk b2 (hwC H A1 N1 C1 q m d A3 N3 C3 A4 N4 C4 A5 N5 C5)::.blk b3 (hwC H A1 N1 C1 q m d A3 N3 C3 A4 N4 C4 A5 N5 C5)::(xs.map ownC++R)) w:=hw
  repeat first|refine byW ?_|refine byV ?_;intro w hw
  refine⟨[.agg #[.string H.Name,.slice A1 N1 C1,.slice q m d,.slice A3 N3 C3,.slice A4 N4 C4,.slice A5 N5 C5]],⟨resC (i:=2) hw rfl rfl rfl,trivial⟩,_,rfl,?_⟩
  have hw:=hw.ds [1,1,1]
  rw[hR]at hw;refine Wd.closeEx (X:=fun p:{p:HwV // Value.agg #[.string H.Name,.slice A1 N1 C1,.slice q m d,.slice A3 N3 C3,.slice A4 N4 C4,.slice A5 N5 C5]=.agg #[.string H.Name,p.v1,p.v2,p.v3,p.v4,p.v5]∧p.cs.map CacheH.T=H.Caches}=>p.1.L H) ⟨⟨.slice A1 N1 C1,.slice q m d,.slice A3 N3 C3,.slice A4 N4 C4,.slice A5 N5 C5,xs⟩,rfl,hxs⟩ ?_
  have hw:Wd Γ ((.own (.slice q m d) 89 5 (xs.map cC)::xs.map ownC)++([.own (.slice A1 N1 C1) 37 4 (H.Cores.map enc),.own (.slice A3 N3 C3) 79 3 (H.Links.map enc),.own (.slice A4 N4 C4) 83 5 (H.Mems.map enc),.own (.slice A5 N5 C5) 85 5 (H.Devs.map enc)]++S)) w:=hw
  exact hw.swapApp.ps [4,1]
section
variable {P:Program}{n:Nat}{ops:List Oper}{Γ:Gho}{K:List Res}{wr tc stab:List (List Nat)}{Q:Fr→World→Prop}{i:Nat}{rest:List Oper}{ρ:Fr}{M:Nat→Fr→List Res}{T ty:TypeId}{pos:String}{es:Array Edge}{x:Operand}
end
structure ValidP(H:HwT):Prop where
 n:namesB H=true
 c:countsB H=true
 r:coresRB H=true
 g:regionsRB H=true
 a:alignRB H=true
 u:uniqueB H=true
 k:knownB H=true
 h:hierB H=true
 d:disjB H=true
 o:connB H=true
theorem valid_iff{H:HwT}:validS H=0↔ValidP H:=by
 constructor
 ·intro h;unfold validS at h;repeat' split at h
  all_goals first|(exact absurd h (by decide))|skip
  rename_i h1 h2 h3 h4 h5 h6 h7 h8 h9
  simp only[Bool.not_eq_false,Bool.and_eq_true]at h1 h2 h3 h4 h5 h6 h7 h8 h9
  exact⟨h1,h2,h3.1,h3.2,h4,h5,h6,h7,h8,h9⟩
 ·rintro⟨h1,h2,h3,h4,h5,h6,h7,h8,h9,h10⟩;simp[validS,h1,h2,h3,h4,h5,h6,h7,h8,h9,h10]
end Go.Proofs.YtfoggcgogafocaaGreat
end
section
open Go Mk
namespace Go.Proofs.YtfoggcgogafocaaGreat
set_option maxHeartbeats 4000000
theorem vp_core{H:HwT}(v:ValidP H){c:CoreT}(hc:c∈H.Cores):(0≤c.ID∧c.ID<32)∧(c.Width=32∨c.Width=39)∧(1≤c.Speed∧c.Speed≤1000000)∧0≤c.Node∧c.Node<64:=by
 have h:=v.r
 unfold coresRB at h;simp only[Bool.and_eq_true,List.all_eq_true]at h
 have h:=h.1 c hc
 unfold coreRB isNodeB at h;simp only[Bool.and_eq_true,Bool.or_eq_true,decide_eq_true_eq]at h
 omega
theorem vp_cache{H:HwT}(v:ValidP H){c:CacheT}(hc:c∈H.Caches):(1≤c.Level∧c.Level≤4)∧(16≤c.Line∧c.Line≤256)∧c.Cores.Nodup∧∀i∈c.Cores,i∈H.Cores.map (·.ID):=by
 have h:=v.r
 unfold coresRB at h;simp only[Bool.and_eq_true,List.all_eq_true]at h
 have h:=h.2.1 c hc
 unfold cacheRB at h;simp only[Bool.and_eq_true,decide_eq_true_eq]at h
 have h5:=v.u
 unfold uniqueB at h5;simp only[Bool.and_eq_true,List.all_eq_true,decide_eq_true_eq]at h5
 have h6:=v.k
 unfold knownB at h6;rw[List.all_eq_true]at h6;have h6:=h6 c hc
 rw[List.all_eq_true]at h6;refine⟨by omega,by omega,h5.1 c hc,fun i hi=>?_⟩
 have:=h6 i hi
 rw[List.any_eq_true]at this;obtain⟨x,hx,he⟩:=this;exact List.mem_map.2 ⟨x,hx,of_decide_eq_true he⟩
theorem vp_link{H:HwT}(v:ValidP H){l:LinkT}(hl:l∈H.Links):(0≤l.A∧l.A<64)∧(0≤l.B∧l.B<64)∧1≤l.Latency∧l.Latency≤1000000:=by
 have h:=v.r
 unfold coresRB at h;simp only[Bool.and_eq_true,List.all_eq_true]at h
 have h:=h.2.2 l hl
 unfold linkRB isNodeB isLatB at h;simp only[Bool.and_eq_true,decide_eq_true_eq]at h
 omega
theorem vp_mem{H:HwT}(v:ValidP H){m:MemT}(hm:m∈H.Mems):(0≤m.Node∧m.Node<64)∧1≤m.Latency∧m.Latency≤1000000:=by
 have h:=v.g
 unfold regionsRB at h;simp only[Bool.and_eq_true,List.all_eq_true]at h
 have h:=h.1 m hm
 unfold memRB isNodeB isLatB at h;simp only[Bool.and_eq_true,decide_eq_true_eq]at h
 omega
theorem vp_dev{H:HwT}(v:ValidP H){d:DevT}(hd:d∈H.Devs):(0≤d.Node∧d.Node<64)∧0≤d.IRQ∧d.IRQ<256:=by
 have h:=v.g
 unfold regionsRB at h;simp only[Bool.and_eq_true,List.all_eq_true]at h
 have h:=h.2 d hd
 unfold devRB isNodeB at h;simp only[Bool.and_eq_true,decide_eq_true_eq]at h
 omega
theorem vp_shares{H:HwT}(v:ValidP H){c:CacheT}(hc:c∈H.Caches):c.Cores.length≤32:=by
 obtain⟨-,-,h1,h2⟩:=vp_cache v hc
 have h3:=(counts_le v.c).2.1
 have:=Go.Proofs.YtfoggcgogafocaaGreat.nodup_le _ _ h1 h2
 rw[List.length_map]at this;omega
theorem fm_len{α β:Type}{f:α→List β}{m:Nat}:∀ {l:List α},(∀x∈l,(f x).length≤m)→(l.flatMap f).length≤l.length*m
 | [],_=>by simp
 | x::l,h=>by
  rw[List.flatMap_cons,List.length_append,List.length_cons,Nat.succ_mul];have h1:=h x (by simp)
  have h2:=fm_len (f:=f) (m:=m) (l:=l) fun y hy=>h y (by simp[hy])
  omega
theorem hw_few{H:HwT}(v:ValidP H):(hwFacts H).length≤2497:=by
 obtain⟨-,h1,h2,h3,h4,h5⟩:=counts_le v.c
 have h6:(H.Caches.flatMap cacheFs).length≤H.Caches.length*33:=fm_len fun c hc=>by
  have:=vp_shares v hc
  unfold cacheFs;simp
  omega
 simp only[hwFacts,hwB4,hwB3,hwB2,hwB1,hwB0,List.length_append,List.length_map,List.length_singleton]
 omega
theorem vp_names{H:HwT}(v:ValidP H):H.Name.size≤24∧(∀c∈H.Caches,c.Name.size≤24)∧(∀c∈H.Mems,c.Name.size≤24)∧∀c∈H.Devs,c.Name.size≤24:=by
 have h:=v.n
 unfold namesB headB at h;simp only[Bool.and_eq_true,List.all_eq_true,decide_eq_true_eq]at h
 have k:∀ {s:ByteArray},nameS s=true→s.size≤24:=fun {s} h=>by
  unfold nameS at h;simp only[Bool.and_eq_true,decide_eq_true_eq]at h
  exact h.2
 exact⟨h.1.1.1.1.2,fun c hc=>k (h.1.1.2 c hc),fun c hc=>k (h.1.2 c hc),fun c hc=>k (h.2 c hc)⟩
theorem ok_iF{i:Int}(h:-9223372036854775808≤i∧i≤9223372036854775807):ValOk (iF i):=⟨h,by show (⟨#[]⟩:ByteArray).size≤100000;decide⟩
theorem ok_sF(i:Int):ValOk (sF i):=ok_iF (by simp[IntKind.wrap,IntKind.bits,IntKind.signed];omega)
theorem ok_wF{s:ByteArray}(h:s.size≤24):ValOk (wF s):=⟨by show (-9223372036854775808:Int)≤0∧(0:Int)≤9223372036854775807;decide,by show s.size≤100000;omega⟩
theorem hw_ok{H:HwT}(v:ValidP H):∀f∈hwFacts H,FactOk f:=by
 obtain⟨n0,n1,n2,n3⟩:=vp_names v
 intro f h;simp only[hwFacts,hwB4,hwB3,hwB2,hwB1,hwB0,List.mem_append,List.mem_map,List.mem_flatMap,List.mem_singleton]at h
 have key:∀ {r:ByteArray} {l:List Val},r.size≤100000→l.length≤100000→(∀v∈l,ValOk v)→FactOk (r,l):=fun a b c=>⟨b,a,c⟩
 rcases h with ((((h|⟨c,hc,h⟩)|⟨c,hc,h⟩)|⟨c,hc,h⟩)|⟨c,hc,h⟩)|⟨c,hc,h⟩
 ·rw[h];exact key (by decide) (by show 1≤100000;decide) fun x hx=>by rw[List.mem_singleton.1 hx];exact ok_wF n0
 ·obtain⟨a1,a2,a3,a4⟩:=vp_core v hc
  rw[←h];refine key (by decide) (by show 4≤100000;decide) fun x hx=>?_
  simp only[List.mem_cons,List.not_mem_nil,or_false]at hx
  rcases hx with rfl|rfl|rfl|rfl <;> exact ok_iF (by omega)
 ·obtain⟨a1,a2,a3,a4⟩:=vp_cache v hc
  unfold cacheFs at h;rcases List.mem_cons.1 h with h|h
  ·rw[h];refine key (by decide) (by show 4≤100000;decide) fun x hx=>?_
   simp only[List.mem_cons,List.not_mem_nil,or_false]at hx
   rcases hx with rfl|rfl|rfl|rfl
   ·exact ok_wF (n1 c hc)
   ·exact ok_iF (by omega)
   ·exact ok_sF _
   ·exact ok_iF (by omega)
  ·obtain⟨i,hi,rfl⟩:=List.mem_map.1 h
   obtain⟨x,hx,he⟩:=List.mem_map.1 (a4 i hi)
   have:=(vp_core v hx).1
   refine key (by decide) (by show 2≤100000;decide) fun y hy=>?_
   simp only[List.mem_cons,List.not_mem_nil,or_false]at hy
   rcases hy with rfl|rfl
   ·exact ok_wF (n1 c hc)
   ·exact ok_iF (by omega)
 ·obtain⟨a1,a2,a3⟩:=vp_link v hc
  rw[←h];refine key (by decide) (by show 3≤100000;decide) fun x hx=>?_
  simp only[List.mem_cons,List.not_mem_nil,or_false]at hx
  rcases hx with rfl|rfl|rfl
  ·exact ok_iF (by split <;> omega)
  ·exact ok_iF (by split <;> omega)
  ·exact ok_iF (by omega)
 ·obtain⟨a1,a2⟩:=vp_mem v hc
  rw[←h];refine key (by decide) (by show 5≤100000;decide) fun x hx=>?_
  simp only[List.mem_cons,List.not_mem_nil,or_false]at hx
  rcases hx with rfl|rfl|rfl|rfl|rfl
  ·exact ok_wF (n2 c hc)
  ·exact ok_sF _
  ·exact ok_sF _
  ·exact ok_iF (by omega)
  ·exact ok_iF (by omega)
 ·obtain⟨a1,a2⟩:=vp_dev v hc
  rw[←h];refine key (by decide) (by show 5≤100000;decide) fun x hx=>?_
  simp only[List.mem_cons,List.not_mem_nil,or_false]at hx
  rcases hx with rfl|rfl|rfl|rfl|rfl
  ·exact ok_wF (n3 c hc)
  ·exact ok_iF (by omega)
  ·exact ok_iF (by omega)
  ·exact ok_sF _
  ·exact ok_sF _
theorem iF_inj{a b:Int}(h:iF a=iF b):a=b:=by injection h
theorem wF_inj{a b:ByteArray}(h:wF a=wF b):a=b:=by injection h
theorem nodup_by{α β γ:Type}{f:α→β}{k:α→γ}(hk:∀a b,f a=f b→k a=k b){l:List α}(h:(l.map k).Nodup):(l.map f).Nodup:=by
 rw[List.Nodup,List.pairwise_map]at h ⊢
 exact h.imp fun {a b} hne he=>hne (hk a b he)
theorem rel1{H:HwT}{f:Fact}(h:f∈hwB1 H):f.1=machB∨f.1=coreB:=by
 unfold hwB1 hwB0 at h;rcases List.mem_append.1 h with h|h
 ·rw[List.mem_singleton.1 h];exact .inl rfl
 ·obtain⟨c,_,rfl⟩:=List.mem_map.1 h
  exact .inr rfl
theorem relC{c:CacheT}{f:Fact}(h:f∈cacheFs c):(f.1=cacheB∨f.1=sharesB)∧f.2[0]? = some (wF c.Name):=by
 unfold cacheFs at h;rcases List.mem_cons.1 h with rfl|h
 ·exact⟨.inl rfl,rfl⟩
 ·obtain⟨i,_,rfl⟩:=List.mem_map.1 h
  exact⟨.inr rfl,rfl⟩
theorem rel2{H:HwT}{f:Fact}(h:f∈hwB2 H):f.1=machB∨f.1=coreB∨f.1=cacheB∨f.1=sharesB:=by
 unfold hwB2 at h;rcases List.mem_append.1 h with h|h
 ·rcases rel1 h with h|h
  ·exact .inl h
  ·exact .inr (.inl h)
 ·obtain⟨c,_,h⟩:=List.mem_flatMap.1 h
  exact .inr (.inr (relC h).1)
theorem rel3{H:HwT}{f:Fact}(h:f∈hwB3 H):f.1=machB∨f.1=coreB∨f.1=cacheB∨f.1=sharesB∨f.1=linkB:=by
 unfold hwB3 at h;rcases List.mem_append.1 h with h|h
 ·rcases rel2 h with h|h|h|h <;> simp[h]
 ·obtain⟨c,_,rfl⟩:=List.mem_map.1 h
  simp[linkF]
theorem rel4{H:HwT}{f:Fact}(h:f∈hwB4 H):f.1=machB∨f.1=coreB∨f.1=cacheB∨f.1=sharesB∨f.1=linkB∨f.1=memoryB:=by
 unfold hwB4 at h;rcases List.mem_append.1 h with h|h
 ·rcases rel3 h with h|h|h|h|h <;> simp[h]
 ·obtain⟨c,_,rfl⟩:=List.mem_map.1 h
  simp[memF]
theorem hw_nodup{H:HwT}(v:ValidP H):(hwFacts H).Nodup:=by
 have hu:=v.u
 unfold uniqueB at hu;simp only[Bool.and_eq_true,List.all_eq_true,decide_eq_true_eq]at hu
 obtain⟨u0,⟨⟨⟨⟨u1,u2⟩,u3⟩,u4⟩,u5⟩,u6⟩:=hu;have d12:machB≠coreB:=by decide +kernel
 have d13:machB≠cacheB:=by decide +kernel
 have d14:machB≠sharesB:=by decide +kernel
 have d15:machB≠linkB:=by decide +kernel
 have d16:machB≠memoryB:=by decide +kernel
 have d17:machB≠deviceB:=by decide +kernel
 have d23:coreB≠cacheB:=by decide +kernel
 have d24:coreB≠sharesB:=by decide +kernel
 have d25:coreB≠linkB:=by decide +kernel
 have d26:coreB≠memoryB:=by decide +kernel
 have d27:coreB≠deviceB:=by decide +kernel
 have d34:cacheB≠sharesB:=by decide +kernel
 have d35:cacheB≠linkB:=by decide +kernel
 have d36:cacheB≠memoryB:=by decide +kernel
 have d37:cacheB≠deviceB:=by decide +kernel
 have d45:sharesB≠linkB:=by decide +kernel
 have d46:sharesB≠memoryB:=by decide +kernel
 have d47:sharesB≠deviceB:=by decide +kernel
 have d56:linkB≠memoryB:=by decide +kernel
 have d57:linkB≠deviceB:=by decide +kernel
 have d67:memoryB≠deviceB:=by decide +kernel
 have hcore:(H.Cores.map coreF).Nodup:=nodup_by (k:=(·.ID)) (fun a b h=>by
  have:=congrArg (fun f:Fact=>f.2[0]?) h
  exact iF_inj (Option.some.inj this)) u1
 have hlink:(H.Links.map linkF).Nodup:=nodup_by (k:=linkKey) (fun a b h=>by
  have h0:=iF_inj (Option.some.inj (congrArg (fun f:Fact=>f.2[0]?) h))
  have h1:=iF_inj (Option.some.inj (congrArg (fun f:Fact=>f.2[1]?) h))
  unfold linkKey;rw[h0,h1]) u6
 have hmem:(H.Mems.map memF).Nodup:=nodup_by (k:=(·.Name)) (fun a b h=>wF_inj (Option.some.inj (congrArg (fun f:Fact=>f.2[0]?) h))) u3
 have hdev:(H.Devs.map devF).Nodup:=nodup_by (k:=(·.Name)) (fun a b h=>wF_inj (Option.some.inj (congrArg (fun f:Fact=>f.2[0]?) h))) u4
 have hca:(H.Caches.flatMap cacheFs).Nodup:=by
  rw[List.Nodup,List.pairwise_flatMap];refine⟨fun c hc=>?_,?_⟩
  ·unfold cacheFs;rw[List.pairwise_cons];refine⟨fun f hf he=>?_,?_⟩
   ·obtain⟨i,_,rfl⟩:=List.mem_map.1 hf
    exact d34 (congrArg Prod.fst he)
   ·rw[List.pairwise_map];refine(u0 c hc:c.Cores.Pairwise (·≠·)).imp fun {a b} hne he=>hne ?_
    exact iF_inj (Option.some.inj (congrArg (fun f:Fact=>f.2[1]?) he))
  ·have:=List.pairwise_map.1 u2
   refine this.imp fun {a b} hne x hx y hy he=>hne ?_
   have h1:=(relC hx).2
   rw[he,(relC hy).2]at h1;exact(wF_inj (Option.some.inj h1)).symm
 have h1:(hwB1 H).Nodup:=by
  unfold hwB1 hwB0;refine List.nodup_append.2 ⟨by simp,hcore,fun a ha b hb he=>?_⟩
  obtain⟨c,_,rfl⟩:=List.mem_map.1 hb
  rw[List.mem_singleton.1 ha]at he;exact d12 (congrArg Prod.fst he)
 have h2:(hwB2 H).Nodup:=by
  unfold hwB2;refine List.nodup_append.2 ⟨h1,hca,fun a ha b hb he=>?_⟩
  obtain⟨c,_,hb⟩:=List.mem_flatMap.1 hb
  have hb:=(relC hb).1
  rw[←he]at hb;rcases rel1 ha with e|e <;> rcases hb with e2|e2 <;> rw[e]at e2 <;> first|exact d13 e2|exact d14 e2|exact d23 e2|exact d24 e2
 have h3:(hwB3 H).Nodup:=by
  unfold hwB3;refine List.nodup_append.2 ⟨h2,hlink,fun a ha b hb he=>?_⟩
  obtain⟨c,_,rfl⟩:=List.mem_map.1 hb
  have e2:a.1=linkB:=congrArg Prod.fst he
  rcases rel2 ha with e|e|e|e <;> rw[e]at e2 <;> first|exact d15 e2|exact d25 e2|exact d35 e2|exact d45 e2
 have h4:(hwB4 H).Nodup:=by
  unfold hwB4;refine List.nodup_append.2 ⟨h3,hmem,fun a ha b hb he=>?_⟩
  obtain⟨c,_,rfl⟩:=List.mem_map.1 hb
  have e2:a.1=memoryB:=congrArg Prod.fst he
  rcases rel3 ha with e|e|e|e|e <;> rw[e]at e2 <;> first|exact d16 e2|exact d26 e2|exact d36 e2|exact d46 e2|exact d56 e2
 unfold hwFacts;refine List.nodup_append.2 ⟨h4,hdev,fun a ha b hb he=>?_⟩
 obtain⟨c,_,rfl⟩:=List.mem_map.1 hb
 have e2:a.1=deviceB:=congrArg Prod.fst he
 rcases rel4 ha with e|e|e|e|e|e <;> rw[e]at e2 <;> first|exact d17 e2|exact d27 e2|exact d37 e2|exact d47 e2|exact d57 e2|exact d67 e2
theorem setS_perm{l:List Fact}(h:l.Nodup):(setS l).Perm l:=by
 have hs:=setA_of cFact_ord l
 exact(List.perm_ext_iff_of_nodup (asc_nodup cFact_ord hs.asc) h).2 hs.mem
end Go.Proofs.YtfoggcgogafocaaGreat
end
section
open Go Mk
namespace Go.Proofs.YtfoggcgogafocaaGreat
set_option maxHeartbeats 16000000
def distB:ByteArray:=⟨#[100,105,115,116,97,110,99,101]⟩
noncomputable def distF(H:HwT)(a b:Int):Fact:=(distB,[iF a,iF b,iF (dstI (nbrL H.Links) a b)])
noncomputable def distG(H:HwT)(X:List Int):List Fact:=X.flatMap fun a=>X.map (distF H a)
noncomputable def rtF(H:HwT):List Fact:=setS (hwFacts H++distG H (usedN H))
theorem distG_mem{H:HwT}{X:List Int}{f:Fact}:f∈distG H X↔∃a∈X,∃b∈X,f=distF H a b:=by
 unfold distG;rw[List.mem_flatMap];constructor
 ·rintro⟨a,ha,h⟩;obtain⟨b,hb,rfl⟩:=List.mem_map.1 h
  exact⟨a,ha,b,hb,rfl⟩
 ·rintro⟨a,ha,b,hb,rfl⟩;exact⟨a,ha,List.mem_map.2 ⟨b,hb,rfl⟩⟩
theorem rtF_of{H:HwT}{D:List Fact}(h:∀f,f∈D↔f∈hwFacts H∨∃a∈usedN H,∃b∈usedN H,f=distF H a b):setS D=rtF H:=by
 unfold rtF setS;refine setA_congr cFact_ord fun f=>?_
 rw[h,List.mem_append,distG_mem]
theorem vp_used{H:HwT}(v:ValidP H):∀n∈usedN H,0≤n∧n<64:=(nodes_in v.r v.g).1
theorem used_at{H:HwT}(hN:∀n∈usedN H,0≤n∧n<64){k:Nat}(hk:k<64):(markN R64 (usedN H))[k]? = some (decide ((k:Int)∈usedN H)):=by
 have hl:(markN R64 (usedN H)).length=64:=by rw[markN_len];simp
 obtain⟨b,hb⟩:=get_lt (l:=markN R64 (usedN H)) (k:=k) (by omega)
 rw[hb];cases b with
 | true=>
  rcases mark_true _ _ _ hb with h1|⟨n,hn,he⟩
  ·rw[List.getElem?_replicate]at h1;split at h1 <;> simp at h1
  ·have:=hN n hn
   rw[decide_eq_true (by rw[show (k:Int)=n by omega];exact hn)]
 | false=>
  have:=(markN_get _ _ _ hb).2
  rw[decide_eq_false fun hm=>this _ hm (by omega)]
attribute [local irreducible] Calls cFact validS matL hwFacts dstI
theorem FromHw_bad{Γ:Gho}{S:List Res}{w:World}{u:Value}{H:HwT}[hh:HwR Γ u H][hwd:WideH H](h0:validS H≠0)(hw:Wd Γ S w) :
  Calls Tryz.prog 7 #[u] w fun e w'=>e=.returned (.tuple #[.slice none 0 0,.int .i64 (validS H)])∧Wd Γ S w':=by
 have pV:=pg_RValidate (hh:=hh) (hwd:=hwd)
 obtain⟨a1,n1,c1,a2,n2,c2,a3,n3,c3,a4,n4,c4,a5,n5,c5,cs',rfl,hcs,hok',hsz,r1,r2,r3,r4,r5⟩:=hh.h;refine calls_of_W Tryz.func7 rfl rfl ?_
 repeat first|refine byW ?_|refine byV ?_;intro w hw
 refine lBox ?_;intro b1 w hw;have hw:Wd Γ (.blk b1 (hwC H a1 n1 c1 a2 n2 c2 a3 n3 c3 a4 n4 c4 a5 n5 c5)::S) w:=hw
 repeat first|refine byW ?_|refine byV ?_;intro w hw
 refine W_cond rfl (fun h=>?_) (fun h=>absurd (by have:=of_decide_eq_false h;omega) h0)
 repeat first|refine byW ?_|refine byV ?_;intro w hw
 exact⟨_,rfl,rfl,hw.drop⟩
noncomputable def dP(H:HwT)(a b:Nat):List Fact:=((List.range a).flatMap fun i:Nat=>(List.range 64).flatMap fun j:Nat=>if (i:Int)∈usedN H∧(j:Int)∈usedN H then [distF H i j] else [])++(List.range b).flatMap fun j:Nat=>if (a:Int)∈usedN H∧(j:Int)∈usedN H then [distF H a j] else []
theorem dP_step{H:HwT}{a b:Nat}:dP H a (b+1)=dP H a b++(if (a:Int)∈usedN H∧(b:Int)∈usedN H then [distF H a b] else []):=by
 unfold dP;rw[List.range_succ (n:=b),List.flatMap_append,List.append_assoc];simp
theorem dP_next{H:HwT}{a:Nat}:dP H a 64=dP H (a+1) 0:=by
 unfold dP;rw[List.range_succ (n:=a),List.flatMap_append];simp
theorem dP_mem{H:HwT}(hN:∀n∈usedN H,0≤n∧n<64){f:Fact}:f∈dP H 64 0↔∃a∈usedN H,∃b∈usedN H,f=distF H a b:=by
 unfold dP;simp only[List.range_zero,List.flatMap_nil,List.append_nil,List.mem_flatMap,List.mem_range]
 constructor
 ·rintro⟨i,hi,j,hj,h⟩;split at h
  ·rename_i hc
   exact⟨i,hc.1,j,hc.2,List.mem_singleton.1 h⟩
  ·cases h
 ·rintro⟨a,ha,b,hb,rfl⟩;have h1:=hN a ha
  have h2:=hN b hb
  have e1:((a.toNat:Nat):Int)=a:=by omega
  have e2:((b.toNat:Nat):Int)=b:=by omega
  refine⟨a.toNat,by omega,b.toNat,by omega,?_⟩
  rw[e1,e2,if_pos ⟨ha,hb⟩];exact List.mem_singleton.2 rfl
theorem dP_len{H:HwT}{a b:Nat}:(dP H a b).length≤a*64+b:=by
 have h1:∀i:Nat,((List.range 64).flatMap fun j:Nat=>if (i:Int)∈usedN H∧(j:Int)∈usedN H then [distF H i j] else []).length≤64:=fun i=>by
  have:=fm_len (m:=1) (f:=fun j:Nat=>if (i:Int)∈usedN H∧(j:Int)∈usedN H then [distF H i j] else []) (l:=List.range 64) fun j _=>by split <;> simp
  simpa using this
 have h2:=fm_len (m:=64) (f:=fun i:Nat=>(List.range 64).flatMap fun j:Nat=>if (i:Int)∈usedN H∧(j:Int)∈usedN H then [distF H i j] else []) (l:=List.range a) fun i _=>h1 i
 have h3:=fm_len (m:=1) (f:=fun j:Nat=>if (a:Int)∈usedN H∧(j:Int)∈usedN H then [distF H a j] else []) (l:=List.range b) fun j _=>by split <;> simp
 unfold dP;rw[List.length_append];rw[List.length_range]at h2 h3
 omega
theorem putAll{cs:Array Value}{vs:List Value}(h:vs.length=cs.size):putCells cs 0 vs=vs.toArray:=by
 unfold putCells;simp[h]
set_option maxRecDepth 8000 in
theorem RFacts_any{Γ:Gho}{S:List Res}{w:World}{u:Value}{H:HwT}[hh:HwR Γ u H][hwd:WideH H](hw:Wd Γ S w) :
  Calls Tryz.prog 19 #[u] w fun e w'=>∃Γ' v fs,Γ.le Γ'∧e=.returned (.tuple #[v,.int .i64 (validS H)])∧facts fs=(if validS H=0 then rtF H else [])∧(∀f∈fs,FOk Γ' f)∧Wd Γ' (.own v 67 2 (fs.map cF)::S) w':=by
 have hh':=hh
 obtain⟨a1,n1,c1,a2,n2,c2,a3,n3,c3,a4,n4,c4,a5,n5,c5,cs',rfl,hcs,hok',hsz,r1,r2,r3,r4,r5⟩:=hh.h;refine calls_of_W Tryz.func19 rfl rfl ?_
 repeat first|refine byW ?_|refine byV ?_;intro w hw
 refine lBox ?_;intro b1 w hw;have hw:Wd Γ (.blk b1 (hwC H a1 n1 c1 a2 n2 c2 a3 n3 c3 a4 n4 c4 a5 n5 c5)::S) w:=hw
 repeat first|refine byW ?_|refine byV ?_;intro w hw
 by_cases h0:validS H=0
 rotate_left
 ·refine lCall ((FromHw_bad (hh:=hh') h0 hw).mono fun e w hq=>?_)
  clear hw;obtain⟨rfl,hw⟩:=hq;refine⟨_,rfl,?_⟩;repeat first|refine byW ?_|refine byV ?_;intro w hw
  refine W_cond rfl (fun h=>?_) (fun h=>absurd (by have:=of_decide_eq_false h;omega) h0)
  repeat first|refine byW ?_|refine byV ?_;intro w hw
  refine⟨_,rfl,Γ,.slice none 0 0,[],.refl _,rfl,by rw[if_neg h0];rfl,fun f hf=>(by cases hf),Wd.addNil hw.drop⟩
 have hV:=valid_iff.1 h0
 have hfew:=hw_few hV
 have hN:=vp_used hV
 refine lCall ((FromHw_any (hh:=hh') (by omega) h0 hw).mono fun e w hq=>?_)
 clear hw;obtain⟨Γ1,v0,fs0,hle1,rfl,hfs0,hfo0,hw⟩:=hq;refine⟨_,rfl,?_⟩;rw[h0];repeat first|refine byW ?_|refine byV ?_;intro w hw
 refine W_cond rfl (fun h=>by cases h) (fun _=>?_)
 have hR1:=hh'.mono hle1
 have pM:PG Tryz.prog Γ1 44 [.agg #[.string H.Name,.slice a1 n1 c1,.slice a2 n2 c2,.slice a3 n3 c3,.slice a4 n4 c4,.slice a5 n5 c5]] (.agg (matL (dstM H)).toArray):=⟨fun S w hw=>Matrix_any (hh:=hR1) h0 hw⟩
 obtain⟨U,hU⟩:∃U,U=markN R64 (usedN H):=⟨_,rfl⟩
 have hUl:U.length=64:=by rw[hU,markN_len];simp
 have hUa:∀k:Nat,k<64→U[k]? = some (decide ((k:Int)∈usedN H)):=fun k hk=>by rw[hU];exact used_at hN hk
 have pU:PG Tryz.prog Γ1 53 [.agg #[.string H.Name,.slice a1 n1 c1,.slice a2 n2 c2,.slice a3 n3 c3,.slice a4 n4 c4,.slice a5 n5 c5]] (.agg (U.map Value.bool).toArray):=⟨fun S w hw=>by
  rw[hU];exact Used_any (H:=H) (s:=H.Name) (r1.mono hle1).rdS (r4.mono hle1).rdS (r5.mono hle1).rdS hN hw⟩
 obtain⟨fs,hfsd⟩:∃fs,fs=setF fs0:=⟨_,rfl⟩
 rw[←hfsd]at hw;have hfs:facts fs=setS (hwFacts H)++dP H 0 0:=by
  rw[hfsd,setF_set,hfs0];show _=_++[]
  rw[List.append_nil]
 have hfo:∀f∈fs,FOk Γ1 f:=fun f hf=>hfo0 f (setF_mem (by rw[←hfsd];exact hf))
 have hfew0:(setS (hwFacts H)).length≤2497:=Nat.le_trans (by unfold setS;exact setA_len) hfew
 clear hfo0 hfs0 hfsd;obtain⟨ag,ng,cg,rfl,-,-,-⟩:=hw.own_shape (i:=0) rfl
 repeat first|refine byW ?_|refine byV ?_;intro w hw
 refine W_mixE 2 [[],[],[],[],[0],[1],[0],[1]] [[],[],[],[],[0],[1],[0],[1]] [[6],[7]] ?_ (hw:=hw)
 clear hw;refine byM ?_;refine mAlloc (c:=0) ?_
 refine mAlloc (c:=1) ?_
 refine mStoreAt (c:=0) (vs:=matL (dstM H)) ?_ (hM:=(setC_other (by decide)).trans setC_self) (hv:=by simp[Value.cells]) (hl:=matL_len _) (h1:=by rw[List.all_eq_true];exact matL_one _) (ho:=by rw[List.size_toArray,List.length_replicate];exact Nat.le_refl _)
 refine mStoreAt (c:=1) (vs:=U.map Value.bool) ?_ (hM:=(setC_other (by decide)).trans setC_self) (hv:=by simp[Value.cells]) (hl:=by simp[hUl]) (h1:=by simp[Value.oneCell']) (ho:=by simp)
 refine mEnd fun w g hw=>?_
 have hw:Wd Γ1 ((.own (.slice ag ng cg) 67 2 (fs.map cF)::.blk b1 (hwC H a1 n1 c1 a2 n2 c2 a3 n3 c3 a4 n4 c4 a5 n5 c5)::S)++([atP (g 6) fun bb=>[.blk bb (.cells (putCells (List.replicate 4096 (Value.int .i64 0)).toArray 0 (matL (dstM H))) 116)]]++([atP (g 7) fun bb=>[.blk bb (.cells (putCells ((List.replicate 64 false).map Value.bool).toArray 0 (U.map Value.bool)) 127)]]++[]))) w:=hw
 rw[show putCells (List.replicate 4096 (Value.int .i64 0)).toArray 0 (matL (dstM H))=(matL (dstM H)).toArray from putAll (by rw[matL_len,List.size_toArray,List.length_replicate]),show putCells ((List.replicate 64 false).map Value.bool).toArray 0 (U.map Value.bool)=(U.map Value.bool).toArray from putAll (by simp[hUl])]at hw
 have hw:=hw.flip
 have hw:Wd Γ1 (atP (g 6) (fun bb=>[.blk bb (.cells (matL (dstM H)).toArray 116)])::atP (g 7) (fun bb=>[.blk bb (.cells (U.map Value.bool).toArray 127)])::.own (.slice ag ng cg) 67 2 (fs.map cF)::.blk b1 (hwC H a1 n1 c1 a2 n2 c2 a3 n3 c3 a4 n4 c4 a5 n5 c5)::S) w:=hw
 obtain⟨b6,h6,hw⟩:=hw.openAt;have hw:Wd Γ1 (.blk b6 (.cells (matL (dstM H)).toArray 116)::atP (g 7) (fun bb=>[.blk bb (.cells (U.map Value.bool).toArray 127)])::.own (.slice ag ng cg) 67 2 (fs.map cF)::.blk b1 (hwC H a1 n1 c1 a2 n2 c2 a3 n3 c3 a4 n4 c4 a5 n5 c5)::S) w:=hw
 obtain⟨b7,h7,hw⟩:=(hw.ps [1]).openAt
 have hw:Wd Γ1 (.own (.slice ag ng cg) 67 2 (fs.map cF)::.blk b7 (.cells (U.map Value.bool).toArray 127)::.blk b6 (.cells (matL (dstM H)).toArray 116)::.blk b1 (hwC H a1 n1 c1 a2 n2 c2 a3 n3 c3 a4 n4 c4 a5 n5 c5)::S) w:=hw.ps [2]
 refine W_has (l:=[(1,.pointer (some ⟨b1,0,none⟩)),(4,.slice ag ng cg),(6,.pointer (some ⟨b6,0,none⟩)),(7,.pointer (some ⟨b7,0,none⟩))]) ⟨rfl,rfl,h6,h7,trivial⟩ fun ρ hρ=>?_
 rw[hρ.eq];clear hρ h6 h7 pM pU;repeat first|refine byW ?_|refine byV ?_;intro w hw
 refine W_loop (fun μ ρ w=>∃(a:Nat) (gv:Value) (Γ':Gho) (fs:List FactH),μ+a=64∧Has ρ [(1,.pointer (some ⟨b1,0,none⟩)),(4,gv),(6,.pointer (some ⟨b6,0,none⟩)),(7,.pointer (some ⟨b7,0,none⟩)),(8,.int .i64 a)]∧Γ1.le Γ'∧(∀f∈fs,FOk Γ' f)∧facts fs=setS (hwFacts H)++dP H a 0∧Wd Γ' (.own gv 67 2 (fs.map cF)::.blk b7 (.cells (U.map Value.bool).toArray 127)::.blk b6 (.cells (matL (dstM H)).toArray 116)::.blk b1 (hwC H a1 n1 c1 a2 n2 c2 a3 n3 c3 a4 n4 c4 a5 n5 c5)::S) w) 64 ⟨0,_,Γ1,fs,by omega,⟨rfl,rfl,rfl,rfl,rfl,trivial⟩,Gho.le.refl _,hfo,hfs,hw⟩ ?_
 clear hw hfo hfs;rintro μ ρ w ⟨a,gv,Γ',fs,ha,hρ,hle,hfo,hfs,hw⟩
 rw[hρ.eq];clear hρ;repeat first|refine byW ?_|refine byV ?_;intro w hw
 refine W_cond rfl (fun h=>?_) (fun h=>?_)
 ·have ha64:a<64:=by have:=of_decide_eq_true h;omega
  clear h;repeat first|refine byW ?_|refine byV ?_;intro w hw
  refine W_loop (fun μ2 ρ w=>∃(b:Nat) (gv:Value) (Γ':Gho) (fs:List FactH),μ2+b=64∧Has ρ [(1,.pointer (some ⟨b1,0,none⟩)),(4,gv),(6,.pointer (some ⟨b6,0,none⟩)),(7,.pointer (some ⟨b7,0,none⟩)),(8,.int .i64 a),(9,.int .i64 b)]∧Γ1.le Γ'∧(∀f∈fs,FOk Γ' f)∧facts fs=setS (hwFacts H)++dP H a b∧Wd Γ' (.own gv 67 2 (fs.map cF)::.blk b7 (.cells (U.map Value.bool).toArray 127)::.blk b6 (.cells (matL (dstM H)).toArray 116)::.blk b1 (hwC H a1 n1 c1 a2 n2 c2 a3 n3 c3 a4 n4 c4 a5 n5 c5)::S) w) 64 ⟨0,gv,Γ',fs,by omega,⟨rfl,rfl,rfl,rfl,rfl,rfl,trivial⟩,hle,hfo,hfs,hw⟩ ?_
  clear hw hfo hfs hle;rintro μ2 ρ w ⟨b,gv,Γ',fs,hb,hρ,hle,hfo,hfs,hw⟩
  rw[hρ.eq];clear hρ;obtain⟨ag,ng,cg,rfl,hng,-,-⟩:=hw.own_shape (i:=0) rfl
  have hfl:fs.length≤10000:=by
   have h1:(facts fs).length=fs.length:=List.length_map ..
   have h2:=dP_len (H:=H) (a:=a) (b:=b)
   rw[hfs,List.length_append]at h1;omega
  rw[List.length_map]at hng;repeat first|refine byW ?_|refine byV ?_;intro w hw
  refine W_cond rfl (fun h=>?_) (fun h=>?_)
  ·have hb64:b<64:=by have:=of_decide_eq_true h;omega
   clear h;have gA:=getBool (hUa a ha64)
   have gB:=getBool (hUa b hb64)
   have gM:=getM (dstM H) (a:=(a:Int)) (b:=(b:Int)) (by unfold nIn;omega) (by unfold nIn;omega)
   have hstep:=dP_step (H:=H) (a:=a) (b:=b)
   repeat first|refine byW ?_|refine byV ?_;intro w hw
   refine lY (v:=.bool (decide ((a:Int)∈usedN H))) ?_ (hy:=y_l1b (i:=1) hw rfl rfl gA)
   repeat first|refine byW ?_|refine byV ?_;intro w hw
   refine lG (v:=.bool (decide ((b:Int)∈usedN H))) ?_ (hv:=fun hc=>y_l1b (i:=1) hw (gvT hc rfl) rfl gB)
   repeat first|refine byW ?_|refine byV ?_;intro w hw
   refine W_cond rfl (fun h=>?_) (fun h=>?_)
   ·have h:(decide ((a:Int)∈usedN H)&&decide ((b:Int)∈usedN H))=true:=h
    rw[Bool.and_eq_true,decide_eq_true_eq,decide_eq_true_eq]at h;rw[if_pos h]at hstep;refine W_mixQ [.blk b6 (.cells (matL (dstM H)).toArray 116)] (.own (.slice ag ng cg) 67 2 (fs.map cF)::.blk b7 (.cells (U.map Value.bool).toArray 127)::.blk b1 (hwC H a1 n1 c1 a2 n2 c2 a3 n3 c3 a4 n4 c4 a5 n5 c5)::S) [49,50,51,52] 4 (.slice ag ng cg) [[],[],[],[],[],[],[],[],[],[],[],[0],[0],[0],[0],[0,1]] [[1],[],[],[],[],[],[],[],[],[],[],[0],[0],[0],[0],[0,1]] (hw.ps [2]) ?_
    refine mMoveR (dd:=4) ?_
    refine byM ?_;refine mY (v:=.int .i64 (dstM H a b)) ?_ (hy:=fun Y w g hw=>y_l1b (i:=0) hw rfl rfl gM)
    refine byM ?_;refine mStepY (v:=undef) (T':=Value) (fun t g=>g 49=t) (fun t=>.own t 41 3 (([iF a,iF b,iF (dstM H a b)]:List Val).map enc)::(.own (.slice ag ng cg) 67 2 (fs.map cF)::.blk b7 (.cells (U.map Value.bool).toArray 127)::.blk b1 (hwC H a1 n1 c1 a2 n2 c2 a3 n3 c3 a4 n4 c4 a5 n5 c5)::S)) (fun t g w Y _ hw=>s_buildSlice (rws:=([iF a,iF b,iF (dstM H a b)]:List Val).map enc) hw rfl rfl rfl (fun r hr=>by obtain⟨v,_,rfl⟩:=List.mem_map.1 hr;rfl) (by decide) fun q w' hw'=>⟨_,rfl,(fun h=>by cases h),hw'⟩) ?_
    refine mCallY (φ:=fun (t:Value) g=>g 49=t) (R:=fun t=>.own t 41 3 (([iF a,iF b,iF (dstM H a b)]:List Val).map enc)::(.own (.slice ag ng cg) 67 2 (fs.map cF)::.blk b7 (.cells (U.map Value.bool).toArray 127)::.blk b1 (hwC H a1 n1 c1 a2 n2 c2 a3 n3 c3 a4 n4 c4 a5 n5 c5)::S)) (v:=undef) (T':=FactH) (fun t g=>g 50=.agg (cF t).toArray∧t.fact=distF H a b) (fun t=>.own t.hdr 41 3 (t.Args.map enc)::(.own (.slice ag ng cg) 67 2 (fs.map cF)::.blk b7 (.cells (U.map Value.bool).toArray 127)::.blk b1 (hwC H a1 n1 c1 a2 n2 c2 a3 n3 c3 a4 n4 c4 a5 n5 c5)::S)) (fun t _=>[.string distB,t]) (fun t g w Y ht hw=>?_) ?_ (ha:=fun t g ht=>EvL.cons rfl (EvL.cons ht EvL.nil))
    ·refine(Fact_any Γ' _ w t distB [iF a,iF b,iF (dstM H a b)] (RdS.own (i:=0) hw rfl) (by simp) hw).mono ?_
     rintro e w ⟨f,rfl,hf,hw⟩
     exact⟨_,rfl,f,⟨rfl,hf⟩,(fun h=>by cases h),hw.dropAt 1⟩
    refine mStepY (φ:=fun (t:FactH) g=>g 50=.agg (cF t).toArray∧t.fact=distF H a b) (R:=fun t=>.own t.hdr 41 3 (t.Args.map enc)::(.own (.slice ag ng cg) 67 2 (fs.map cF)::.blk b7 (.cells (U.map Value.bool).toArray 127)::.blk b1 (hwC H a1 n1 c1 a2 n2 c2 a3 n3 c3 a4 n4 c4 a5 n5 c5)::S)) (v:=undef) (T':=Value×FactH) (fun t g=>g 51=t.1∧t.2.fact=distF H a b) (fun t=>.own t.1 67 2 [cF t.2]::.own t.2.hdr 41 3 (t.2.Args.map enc)::(.own (.slice ag ng cg) 67 2 (fs.map cF)::.blk b7 (.cells (U.map Value.bool).toArray 127)::.blk b1 (hwC H a1 n1 c1 a2 n2 c2 a3 n3 c3 a4 n4 c4 a5 n5 c5)::S)) (fun t g w Y ht hw=>s_buildSlice (rws:=[cF t]) (cells:=cF t) hw ?_ (by simp) rfl (by simp[cF]) (by decide) fun q w' hw'=>⟨(_,t),⟨rfl,ht.2⟩,(fun h=>by cases h),hw'⟩) ?_
    ·have h1:g 50=.agg (cF t).toArray:=ht.1
     show fillL _ _ [(0,g 50)]=_
     rw[h1];rfl
    refine mStepY (φ:=fun (t:Value×FactH) g=>g 51=t.1∧t.2.fact=distF H a b) (R:=fun t=>.own t.1 67 2 [cF t.2]::.own t.2.hdr 41 3 (t.2.Args.map enc)::(.own (.slice ag ng cg) 67 2 (fs.map cF)::.blk b7 (.cells (U.map Value.bool).toArray 127)::.blk b1 (hwC H a1 n1 c1 a2 n2 c2 a3 n3 c3 a4 n4 c4 a5 n5 c5)::S)) (v:=undef) (T':=Value×FactH) (fun t g=>g 52=t.1∧t.2.fact=distF H a b) (fun t=>.own t.1 67 2 (fs.map cF++[cF t.2])::.own t.2.hdr 41 3 (t.2.Args.map enc)::.blk b7 (.cells (U.map Value.bool).toArray 127)::.blk b1 (hwC H a1 n1 c1 a2 n2 c2 a3 n3 c3 a4 n4 c4 a5 n5 c5)::S) (fun t g w Y ht hw=>?_) ?_
    ·obtain⟨t1,f⟩:=t;obtain⟨a9,n9,c9,rfl,hn9,-,-⟩:=hw.own_shape (i:=0) rfl
     simp at hn9
     exact s_append (i:=2) (rows2:=[cF f]) hw rfl ht.1 rfl (Wd.own_rd (i:=0) hw rfl) (by simp;omega) (cFs_one [f]) (by omega) (by omega) fun v' w' hw'=>⟨(v',f),⟨rfl,ht.2⟩,(fun h=>by cases h),hw'.drop.ps [1]⟩
    refine mAssY (φ:=fun (t:Value×FactH) g=>g 52=t.1∧t.2.fact=distF H a b) (dx:=52) (dd:=4) (fun t g=>g 4=t.1∧t.2.fact=distF H a b) (fun t g ht=>ht) ?_
    refine mEndQ (φ:=fun (t:Value×FactH) g=>g 4=t.1∧t.2.fact=distF H a b) fun t w g ht hw=>?_
    obtain⟨t1,f⟩:=t;obtain⟨Γ2,hle2,hokf,hw⟩:=(hw.ps [1]).freeze
    refine W_has (l:=[(1,.pointer (some ⟨b1,0,none⟩)),(6,.pointer (some ⟨b6,0,none⟩)),(7,.pointer (some ⟨b7,0,none⟩)),(8,.int .i64 a),(9,.int .i64 b),(4,t1)]) ⟨rfl,rfl,rfl,rfl,rfl,ht.1,trivial⟩ fun ρ hρ=>?_
    have hff:f.fact=distF H a b:=ht.2
    rw[hρ.eq];clear hρ ht;rw[show fs.map cF++[cF f]=(fs++[f]).map cF from by simp]at hw
    have hok2:∀x∈fs++[f],FOk Γ2 x:=fun x hx=>(List.mem_append.1 hx).elim (fun h=>(hfo x h).mono hle2) fun h=>by rw[List.mem_singleton.1 h];exact hokf
    have hwq:Wd Γ2 ((.own t1 67 2 ((fs++[f]).map cF)::.blk b7 (.cells (U.map Value.bool).toArray 127)::.blk b1 (hwC H a1 n1 c1 a2 n2 c2 a3 n3 c3 a4 n4 c4 a5 n5 c5)::S)++[.blk b6 (.cells (matL (dstM H)).toArray 116)]) w:=hw
    have hw:Wd Γ2 (.blk b6 (.cells (matL (dstM H)).toArray 116)::.own t1 67 2 ((fs++[f]).map cF)::.blk b7 (.cells (U.map Value.bool).toArray 127)::.blk b1 (hwC H a1 n1 c1 a2 n2 c2 a3 n3 c3 a4 n4 c4 a5 n5 c5)::S) w:=hwq.perm List.perm_append_comm
    clear hwq;have hw:Wd Γ2 (.own t1 67 2 ((fs++[f]).map cF)::.blk b7 (.cells (U.map Value.bool).toArray 127)::.blk b6 (.cells (matL (dstM H)).toArray 116)::.blk b1 (hwC H a1 n1 c1 a2 n2 c2 a3 n3 c3 a4 n4 c4 a5 n5 c5)::S) w:=hw.ps [2,2]
    repeat first|refine byW ?_|refine byV ?_;intro w hw
    refine⟨μ2-1,by omega,b+1,t1,Γ2,fs++[f],by omega,⟨rfl,rfl,rfl,rfl,rfl,rfl,trivial⟩,hle.trans hle2,hok2,?_,hw⟩
    have h1:facts (fs++[f])=facts fs++[f.fact]:=by unfold facts;rw[List.map_append];rfl
    rw[h1,hfs,hff,hstep,←List.append_assoc]
   ·have h:(decide ((a:Int)∈usedN H)&&decide ((b:Int)∈usedN H))=false:=h
    rw[if_neg (fun⟨h1,h2⟩=>by rw[decide_eq_true h1,decide_eq_true h2]at h;cases h),List.append_nil]at hstep
    repeat first|refine byW ?_|refine byV ?_;intro w hw
    exact⟨μ2-1,by omega,b+1,_,Γ',fs,by omega,⟨rfl,rfl,rfl,rfl,rfl,rfl,trivial⟩,hle,hfo,by rw[hstep];exact hfs,hw⟩
  ·have hb64:b=64:=by have:=of_decide_eq_false h;omega
   clear h;subst hb64;rw[dP_next]at hfs;repeat first|refine byW ?_|refine byV ?_;intro w hw
   exact⟨μ-1,by omega,a+1,_,Γ',fs,by omega,⟨rfl,rfl,rfl,rfl,rfl,trivial⟩,hle,hfo,hfs,hw⟩
 ·have ha64:a=64:=by have:=of_decide_eq_false h;omega
  clear h;subst ha64;obtain⟨ag,ng,cg,rfl,hng,-,-⟩:=hw.own_shape (i:=0) rfl
  rw[List.length_map]at hng;have hfl:fs.length≤10000:=by
   have h1:(facts fs).length=fs.length:=List.length_map ..
   have h2:=dP_len (H:=H) (a:=64) (b:=0)
   rw[hfs,List.length_append]at h1;omega
  repeat first|refine byW ?_|refine byV ?_;intro w hw
  refine lCall (vs:=[.slice ag ng cg]) ?_
  refine(SetR_any fs hfo (by omega) (RdS.own (i:=0) hw rfl) hw).mono ?_
  clear hw;rintro e w ⟨v',rfl,hw⟩
  refine⟨_,rfl,?_⟩;repeat first|refine byW ?_|refine byV ?_;intro w hw
  refine⟨_,rfl,Γ',v',setF fs,hle1.trans hle,rfl,?_,fun f hf=>hfo f (setF_mem hf),hw.ds [1,1,1,1]⟩
  rw[if_pos rfl,setF_set,hfs];refine rtF_of fun f=>?_
  rw[List.mem_append,dP_mem hN];unfold setS;rw[setA_mem cFact_ord]
end Go.Proofs.YtfoggcgogafocaaGreat
end
section
open Go
namespace Mk
def iRows(xs:List Int):List (List Value):=xs.map fun x=>[Value.int .i64 x]
section
variable {P:Program}{Γ:Gho}{S:List Res}{w:World}{E i:Nat}
theorem grow_none(w:World):Go.Sort.grow w #[]=w:=by
 unfold Go.Sort.grow;simp
theorem Sort_int{ρ:Go.Shelf.Ren}(L:Go.Proofs.Lays.n189 P ρ)(xs:List Int)(v:Value)(hw:Wd Γ S w)(hi:S[i]? = some (.own v E 1 (iRows xs)))(hlen:xs.length<4611686018427387904) :
  Calls P (ρ.f 189) #[v] w fun e w'=>e=.returned (.tuple #[])∧Wd Γ (S.set i (.own v E 1 (iRows (xs.mergeSort fun x y=>decide (x≤y))))) w':=by
 obtain⟨a,n,c,rfl,e2,e3,e4,e5⟩:=own_block hw hi
 have hn:n=xs.length:=by simpa[iRows] using e2
 by_cases h0:n=0
 ·have hx:xs=[]:=List.eq_nil_of_length_eq_zero (by omega)
  subst h0;refine(Go.calls_of_every_depth fun D=>Go.Proofs.AnyS.slices_Sort_int_none_alone L D a c w).mono ?_
  rintro e w' ⟨he,rfl⟩
  refine⟨he,?_⟩
  rw[hx]at hi ⊢
  have hset:S.set i (.own (.slice a 0 c) E 1 (iRows (([]:List Int).mergeSort fun x y=>decide (x≤y))))=S:=by
   obtain⟨hil,hie⟩:=List.getElem?_eq_some_iff.1 hi
   rw[List.mergeSort_nil,←hie];exact List.set_getElem_self hil
  rw[hset];exact hw
 ·have hc:0<c:=by omega
  rcases e5 with e5|⟨g,cur,rfl,hg,hcur,hcs,htk⟩
  ·omega
  obtain⟨hH,hgl⟩:=own_holdsK (enc:=fun x:Int=>[Value.int .i64 x]) (k:=1) (fun _=>rfl) hw hi hc
  have hH1:Go.Sort.Holds (Value.int .i64) w g 0 xs.toArray:=fun j hj=>by
   have:=hH j (by simpa using hj)
   rw[flatK_one]at this;have hj:j<xs.length:=by simpa using hj
   simpa[hj] using this
  have:=Go.calls_of_every_depth fun D=>Go.Proofs.AnyS.slices_Sort_int_alone L D g 0 c xs w hH1 hgl hlen
  rw[←hn]at this;refine this.mono ?_
  rintro e w' ⟨he,n',os,rfl⟩
  refine⟨he,?_⟩
  have h1:Go.Sort.grow (Go.Sort.putRow (Value.int .i64) (Go.Sort.ahead w n') g 0 (xs.mergeSort fun x y=>decide (x≤y)).toArray) os=Go.Proofs.sortWorldK (fun x:Int=>[Value.int .i64 x]) 1 w g 0 n' (xs.mergeSort fun x y=>decide (x≤y)).toArray os:=sortWorld_K1 w g n' _ os
  rw[h1];exact own_sortWorld (enc:=fun x:Int=>[Value.int .i64 x]) (k:=1) (fun _=>rfl) hw hi hc (xs.mergeSort fun x y=>decide (x≤y)).toArray (by simp) n' os
end
attribute [local irreducible] Calls
abbrev mVg(P:Program)(n:Nat)(ops:List Oper)(Γ:Gho)(K:List Res)(wr tc stab:List (List Nat)):MEnv:=⟨P,n,ops,Γ,K,wr,tc,stab,false⟩
section
variable {P:Program}{n:Nat}{ops:List Oper}{Γ:Gho}{K X:List Res}{wr tc stab:List (List Nat)}{N:List Nat}{Q:Fr→World→Prop}{i:Nat}{rest:List Oper}{ρ:Fr}{w:World}{M:Nat→Fr→List Res}{v:Value}{T T':Type}{o:Oper}
theorem gM{x:Nat}(m:Fr→List Res)(hs:∀Γ' Y w g,Γ.le Γ'→Wd Γ' (K++(cellsAt tc stab i M g++Y)) w→Step P o (ovr stab.flatten g ρ) w fun u w'=>∃Γ'',Γ'.le Γ''∧Wd Γ'' (K++(cellsAt tc stab i (setC M x m) (putO g o.dst u)++Y)) w'∧(freeD stab o.dst=false→u=v))
  (h:MSw (mVg P n ops Γ K wr tc stab) Q (i+1) rest ⟨putO ρ o.dst v,setC M x m⟩) (hw0:wr.getD i []=[x]:=by exact rfl) (hg:o.guard=none:=by exact rfl):MSw (mVg P n ops Γ K wr tc stab) Q i (o::rest) ⟨ρ,M⟩:=by
 have hn:Mt.nxt (mVg P n ops Γ K wr tc stab) i ⟨ρ,M⟩ ⟨v,fun _=>m⟩=setC M x m:=by
  funext y;simp only[Mt.nxt,MEnv.w,hw0];rfl
 refine⟨⟨v,fun _=>m⟩,⟨fun Γ' Y w g hr hw=>?_⟩,?_⟩
 ·have hle:Γ.le Γ':=hr
  rw[hn];refine⟨fun _=>(hs Γ' Y w g hle hw).mono fun u w' ⟨Γ'',h0,h1,h2⟩=>⟨Γ'',h0,h1,h2⟩,fun hf=>?_⟩
  rw[wantF_none hg]at hf;cases hf
 ·simp only[Mt.next,hn];exact h
end
end Mk
end
section
open Go
namespace Mk
section
variable {P:Program}{Γ:Gho}{S:List Res}{w:World}{E n c g i:Nat}{α:Type}[Inhabited α]{f:α→Value}
end
section
variable {P:Program}{n:Nat}{Q:List Deferred→Exit→Fr→World→Prop}{D:List Deferred}{ρ:Fr}{w:World}
end
section
variable {P:Program}
attribute [local semireducible] W
end
end Mk
end
section
open Go
namespace Mk
section
variable {P:Program}{n:Nat}{Q:List Deferred→Exit→Fr→World→Prop}{D:List Deferred}{ρ:Fr}{w:World}
variable {Γ:Gho}{K S:List Res}
section
attribute [local semireducible] Qw
end
end
end Mk
namespace Mk
section
variable {P:Program}{ρ:Fr}{w:World}{K:Value→World→Prop}{d:Option Tmp}{T ty:TypeId}{pos:String}{es:Array Edge}{g:Option (Nat×Bool)}{x y z:Operand}
attribute [local semireducible] Step
end
end Mk
end
section
open Go
namespace Mk
attribute [local irreducible] Calls
section
variable {P:Program}{n:Nat}{ops:List Oper}{Γ:Gho}{K:List Res}{wr tc stab:List (List Nat)}{Q:Fr→World→Prop}{i:Nat}{rest:List Oper}{ρ:Fr}{M:Nat→Fr→List Res}{T:Type}
variable {ty:TypeId}{pos:String}{es:Array Edge}
end
section
variable {P:Program}{n:Nat}{opa:Array Oper}{QQ:Exit→Fr→World→Prop}{ρ:Fr}{w:World}{rest:List Oper}{Γ:Gho}{S:List Res}
variable {d:Option Tmp}{ty:TypeId}{pos:String}{es:Array Edge}{f j dj:Nat}{want c:Bool}{args:List Operand}{tys:Array TypeId}{vs:List Value}{v:Value}
attribute [local semireducible] gv
end
end Mk
end
section
open Go Mk
namespace Go.Proofs.YtfoggcgogafocaaGreat
section
variable {P:Program}{d:Option Tmp}{ty:TypeId}{pos:String}{es:Array Edge}{g:Option (Nat×Bool)}{ρ:Fr}{w:World}{T U V:TypeId}{v z:Value}{xx:Operand}
theorem y_isT[hc:TCo P U](hx:ev ρ xx=.iface U v):Mk.Yields P ⟨d,.typeAssert xx T U true,ty,pos,es,g⟩ ρ w (.tuple #[v,.bool true]):=by
 have h:=hc.h
 unfold concT at h;unfold Mk.Yields;cases hu:P.underlying U with
 | none=>simp[hu]at h
 | some t=>
  cases t <;> first|(simp[hu]at h;done)|simp[execOp,hx,Instr.typeAssert,run_underlying hu,Sem.run_bind,Sem.run_pure,Result.andThen]
theorem y_isF[hc:TCo P U][hz:TZV P U z](hx:ev ρ xx=.iface V v)(hne:Nat.beq V U=false):Mk.Yields P ⟨d,.typeAssert xx T U true,ty,pos,es,g⟩ ρ w (.tuple #[z,.bool false]):=by
 have h:=hc.h
 have hne:¬V=U:=fun e=>by rw[e]at hne;simp at hne
 unfold concT at h;unfold Mk.Yields;cases hu:P.underlying U with
 | none=>simp[hu]at h
 | some t=>
  cases t <;> first|(simp[hu]at h;done)|simp[execOp,hx,Instr.typeAssert,run_underlying hu,Sem.run_bind,Sem.run_pure,Result.andThen,hne,run_zeroValue hz.h]
end
end Go.Proofs.YtfoggcgogafocaaGreat
end
