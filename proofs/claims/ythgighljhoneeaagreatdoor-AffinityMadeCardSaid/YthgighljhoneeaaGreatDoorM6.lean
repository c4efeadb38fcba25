/- Texts of this proof, one behind another. -/
import Derived.Test.YthgighljhoneeaaGreatDoorM5
import Derived.Test.YthgighljhoneeaaGreatDoorM3
import Derived.Test.YthgighljhoneeaaGreatDoorM4
set_option linter.unusedVariables false
set_option linter.unusedSimpArgs false
section
open Go Mk
namespace Go.Proofs.YthgighljhoneeaaGreatDoor
set_option maxHeartbeats 16000000
attribute [local irreducible] Calls
theorem pc_mul64 {k:Int} (hk:0≤k∧k < 4294967296):PC Tryz.prog 173 [.int .u64 1,.int .u64 k] (.tuple #[.int .u64 0,.int .u64 k]):=⟨fun w=>by
 have e1:bitsZ .and .u64 1 4294967295=1:=by decide +kernel
 have e2:(1:Int).fdiv (2 ^ (min (32:Int).toNat IntKind.u64.bits))=0:=by decide +kernel
 have e3:bitsZ .and .u64 k 4294967295=k:=by
  rw [bitsU ⟨by omega,by omega⟩ ⟨by omega,by omega⟩]
  have h:=Nat.and_two_pow_sub_one_eq_mod k.toNat 32
  rw [show (4294967295:Int).toNat=2 ^ 32 - 1 from rfl,h]
  have:k.toNat % 2 ^ 32=k.toNat:=Nat.mod_eq_of_lt (by omega)
  rw [this];omega
 have e4:∀ z:Int,0≤z→z < 4294967296→z.fdiv (2 ^ (min (32:Int).toNat IntKind.u64.bits))=0:=fun z h1 h2=>by
  show z.fdiv 4294967296=0
  rw [Int.fdiv_eq_ediv_of_nonneg _ (by omega)];omega
 have e5:bitsZ .and .u64 0 4294967295=0:=by decide +kernel
 have e6:IntKind.u64.wrap k=k:=wrapU (by omega) (by omega)
 have e7:IntKind.u64.wrap 0=0:=rfl
 have e8:=e4 k hk.1 hk.2
 have e9:=e4 0 (by omega) (by omega)
 refine calls_of_W Tryz.func173 rfl rfl ?_
 obtain ⟨Γ,hw⟩:∃ Γ,Wd Γ [] w:=⟨_,allG_wd w⟩
 repeat (first | refine byW ?_ | (refine byV ?_;intro w hw))
 refine ⟨_,rfl,?_,rfl⟩
 refine congrArg Ending.returned (congrArg Value.tuple ?_)
 show #[Value.int IntKind.u64 _,Value.int IntKind.u64 (IntKind.u64.wrap (1 * k))] = #[Value.int IntKind.u64 0,Value.int IntKind.u64 k]
 simp only [e1,e2,e3,e8,Int.zero_mul,Int.mul_zero,Int.one_mul,e6,e7,e9,e5,Int.add_zero]⟩
theorem pc_mul {k:Int} (hk:0≤k∧k < 4294967296):PC Tryz.prog 161 [.int .u64 1,.int .u64 k] (.tuple #[.int .u64 0,.int .u64 k]):=⟨fun w=>by
 haveI:=pc_mul64 hk
 refine calls_of_W Tryz.func161 rfl rfl ?_
 obtain ⟨Γ,hw⟩:∃ Γ,Wd Γ [] w:=⟨_,allG_wd w⟩
 repeat (first | refine byW ?_ | (refine byV ?_;intro w hw))
 refine W_cond_false rfl ?_
 repeat (first | refine byW ?_ | (refine byV ?_;intro w hw))
 exact ⟨_,rfl,rfl,rfl⟩⟩
theorem repeat_any {Γ:Gho} {S:List Res} {w:World} {a:Option Addr} {c k:Nat} {x:Int} (hk:1≤k∧k≤1000) (hw:Wd Γ (.own (.slice a 1 c) 3 1 (intRows [x])::S) w) :
  Calls Tryz.prog 135 #[.slice a 1 c,.int .i64 (k:Nat)] w fun e w'=>∃ a':Addr,e=.returned (.slice (some a') k k)∧Wd Γ (.own (.slice (some a') k k) 3 1 (intRows (List.replicate k x))::.own (.slice a 1 c) 3 1 (intRows [x])::S) w':=by
 have e1:IntKind.u64.wrap (k:Int)=k:=wrapU (by omega) (by omega)
 have e2:IntKind.i64.wrap (k:Int)=k:=wrap_i64 (by omega) (by omega)
 haveI:PC Tryz.prog 161 [.int .u64 (IntKind.u64.wrap ((1:Nat):Int)),.int .u64 (IntKind.u64.wrap (k:Int))] (.tuple #[.int .u64 0,.int .u64 k]):=by
  rw [e1];exact pc_mul ⟨by omega,by omega⟩
 refine calls_of_W Tryz.func135 rfl rfl ?_
 repeat (first | refine byW ?_ | (refine byV ?_;intro w hw))
 refine W_cond_false (by show Value.bool (decide ((k:Int) < 0))=_;rw [decide_eq_false (by omega)]) ?_
 repeat (first | refine byW ?_ | (refine byV ?_;intro w hw))
 refine W_cond rfl (fun h=>?_) (fun h=>?_)
 ·exfalso
  have h:(9223372036854775807:Int) < k:=by simpa using h
  omega
 clear h
 repeat (first | refine byW ?_ | (refine byV ?_;intro w hw))
 refine lMakeSlice (len:=k) ?_ (hx:=by show Value.int .i64 (IntKind.i64.wrap (k:Int))=_;rw [e2]) (hy:=by show Value.int .i64 (IntKind.i64.wrap (k:Int))=_;rw [e2])
 intro a7 w hw
 have hw:Wd Γ (.own (.slice (some a7) k k) 3 1 (iRows (List.replicate k 0))::.own (.slice a 1 c) 3 1 (iRows [x])::S) w:=by
  have:iRows (List.replicate k 0)=List.replicate k [.int .i64 0]:=by simp [iRows]
  rw [this];exact hw
 repeat (first | refine byW ?_ | (refine byV ?_;intro w hw))
 refine lCopyI (i:=0) (l:=0) (m:=k) (c:=k) (n2:=1) (a:=some a7) (xs:=List.replicate k 0) (ys:=[x]) (c2:=c) ?_ (hw.own_rd (i:=1) rfl) rfl (by omega) (by omega) rfl (by rw [cutA_zero];rfl) rfl hw
 intro w hw
 have hm1:min 1 (k - 0)=1:=by omega
 rw [hm1] at hw ⊢
 have hw:Wd Γ (.own (.slice (some a7) k k) 3 1 (iRows (List.replicate 1 x++List.replicate (k - 1) 0))::.own (.slice a 1 c) 3 1 (iRows [x])::S) w:=by
  have:(List.replicate k (0:Int)).take 0++[x].take (k - 0)++(List.replicate k 0).drop (0+1)=List.replicate 1 x++List.replicate (k - 1) 0:=by
   rw [List.take_zero,List.nil_append,List.take_of_length_le (by simp;omega),List.drop_replicate];rfl
  rw [this] at hw;exact hw
 repeat (first | refine byW ?_ | (refine byV ?_;intro w hw))
 refine W_loop (fun μ ρ w=>∃ j:Nat,μ+j=k∧1≤j∧Has ρ [(7,.slice (some a7) k k),(8,.int .i64 j)]∧Wd Γ (.own (.slice (some a7) k k) 3 1 (iRows (List.replicate j x++List.replicate (k - j) 0))::.own (.slice a 1 c) 3 1 (iRows [x])::S) w) (k - 1) ⟨1,by omega,by omega,⟨rfl,rfl,trivial⟩,hw⟩ ?_
 clear hw
 rintro μ ρ w ⟨j,hj,hj1,hρ,hw⟩
 rw [hρ.eq]
 clear hρ
 repeat (first | refine byW ?_ | (refine byV ?_;intro w hw))
 refine W_cond rfl (fun h=>?_) (fun h=>?_)
 ·have hjk:j < k:=by have:=of_decide_eq_true h;omega
  clear h
  have ht:min j (k - j)≤k - j∧1≤min j (k - j):=by omega
  have hnew:(List.replicate j x++List.replicate (k - j) 0).take j++(List.replicate j x).take (k - j)++(List.replicate j x++List.replicate (k - j) 0).drop (j+min j (k - j))=List.replicate (j+min j (k - j)) x++List.replicate (k - (j+min j (k - j))) 0:=by
   rw [List.take_left' (by simp),List.take_replicate,List.drop_append,List.drop_replicate,List.drop_replicate,List.length_replicate]
   rw [show j - (j+min j (k - j))=0 by omega,List.replicate_zero,List.nil_append,Nat.min_comm (k - j) j]
   rw [show k - j - (j+min j (k - j) - j)=k - (j+min j (k - j)) by omega,← List.replicate_append_replicate]
  generalize hte:min j (k - j)=t at *
  repeat (first | refine byW ?_ | (refine byV ?_;intro w hw))
  refine W_mix1 [] _ [[],[],[],[],[],[],[],[0],[],[]] [[],[],[],[],[],[],[],[0],[],[]] hw ?_
  repeat (first | refine mY ?_ | refine mP ?_ | refine mPg ?_)
  refine mS (c:=0) (v:=.int .i64 (t:Nat)) (F:=fun _=>.own (.slice (some a7) k k) 3 1 (iRows (List.replicate j x++List.replicate (k - j) 0))::.own (.slice a 1 c) 3 1 (iRows [x])::S) (fun _=>.own (.slice (some a7) k k) 3 1 (iRows (List.replicate (j+t) x++List.replicate (k - (j+t)) 0))::.own (.slice a 1 c) 3 1 (iRows [x])::S) (fun g w Y hw=>?_) ?_ (hM:=rfl)
  ·have hrd:=(hw.own_rd (i:=0) rfl).take j
   have:(iRows (List.replicate j x++List.replicate (k - j) 0)).take j=iRows (List.replicate j x):=by
    unfold iRows;rw [← List.map_take,List.take_left' (by simp)]
   rw [this] at hrd
   refine s_copyI (i:=0) (l:=j) (m:=k) (c:=k) (n2:=j) (c2:=k) (xs:=List.replicate j x++List.replicate (k - j) 0) (ys:=List.replicate j x) hw rfl rfl rfl hjk hrd (by simp) (by omega) (fun w' hw'=>⟨fun _=>by rw [hte],?_⟩)
   rw [hte,hnew] at hw'
   exact hw'
  repeat (first | refine mY ?_ | refine mP ?_ | refine mPg ?_)
  refine mEnd0 ?_
  clear hw
  intro w hw
  have hw:Wd Γ ((.own (.slice (some a7) k k) 3 1 (iRows (List.replicate (j+t) x++List.replicate (k - (j+t)) 0))::.own (.slice a 1 c) 3 1 (iRows [x])::S)++[]) w:=hw
  rw [List.append_nil] at hw
  repeat (first | refine byW ?_ | (refine byV ?_;intro w hw))
  exact ⟨μ - t,by omega,j+t,by omega,by omega,⟨rfl,by show Value.int .i64 ((j:Int)+(t:Nat))=_;rw [← Int.natCast_add],trivial⟩,hw⟩
 ·have hjk:j=k:=by have:=of_decide_eq_false h;omega
  subst hjk
  rw [Nat.sub_self,List.replicate_zero,List.append_nil] at hw
  repeat (first | refine byW ?_ | (refine byV ?_;intro w hw))
  exact ⟨_,rfl,a7,rfl,hw⟩
end Go.Proofs.YthgighljhoneeaaGreatDoor
end
section
open Go Mk
namespace Go.Proofs.YthgighljhoneeaaGreatDoor
set_option maxHeartbeats 16000000
attribute [local irreducible] Calls
def rowN (N:Nat) (c:Nat→Int):List Int:=(List.range N).map c
def mat (k N:Nat) (C:Nat→Nat→Int):List (List Int):=(List.range k).map fun u=>rowN N (C u)
def updN (C:Nat→Nat→Int) (u v:Nat) (z:Int):Nat→Nat→Int:=fun a b=>if a=u∧b=v then z else C a b
theorem rowN_len (N:Nat) (c:Nat→Int):(rowN N c).length=N:=by simp [rowN]
theorem rowN_get {N:Nat} {c:Nat→Int} {v:Nat} (h:v < N):(rowN N c)[v]? = some (c v):=by unfold rowN;rw [List.getElem?_map,List.getElem?_range h];rfl
theorem rowN_set {N:Nat} {C:Nat→Nat→Int} {u v:Nat} {z:Int}:(rowN N (C u)).set v z=rowN N (updN C u v z u):=by
 refine List.ext_getElem? fun i=>?_
 rw [List.getElem?_set]
 by_cases h:i < N
 ·rw [rowN_get h,rowN_get h,rowN_len]
  unfold updN
  by_cases e:v=i
  ·rw [if_pos e,if_pos (by omega),if_pos ⟨rfl,e.symm⟩]
  ·rw [if_neg e,if_neg (fun hh=>e hh.2.symm)]
 ·rw [List.getElem?_eq_none (by rw [rowN_len];omega),List.getElem?_eq_none (by rw [rowN_len];omega),rowN_len]
  split
  ·rw [if_neg (by omega)]
  ·rfl
theorem rowN_congr {N:Nat} {c c':Nat→Int} (h:∀ v,v < N→c v=c' v):rowN N c=rowN N c':=List.map_congr_left fun v hv=>h v (by simpa using hv)
theorem mat_len (k N:Nat) (C:Nat→Nat→Int):(mat k N C).length=k:=by simp [mat]
theorem mat_get {k N u:Nat} {C:Nat→Nat→Int} (h:u < k):(mat k N C)[u]? = some (rowN N (C u)):=by unfold mat;rw [List.getElem?_map,List.getElem?_range h];rfl
theorem mat_set {k N u v:Nat} {C:Nat→Nat→Int} {z:Int}:(mat k N C).set u (rowN N (updN C u v z u))=mat k N (updN C u v z):=by
 refine List.ext_getElem? fun i=>?_
 rw [List.getElem?_set]
 by_cases h:i < k
 ·rw [mat_get h,mat_get h,mat_len]
  by_cases e:u=i
  ·subst e;rw [if_pos rfl,if_pos h]
  ·rw [if_neg e]
   congr 1
   exact rowN_congr fun v _=>by unfold updN;rw [if_neg (fun hh=>e hh.1.symm)]
 ·rw [List.getElem?_eq_none (by rw [mat_len];omega),List.getElem?_eq_none (by rw [mat_len];omega),mat_len]
  split
  ·rw [if_neg (by omega)]
  ·rfl
theorem mat_congr {k N:Nat} {C C':Nat→Nat→Int} (h:∀ u v,u < k→v < N→C u v=C' u v):mat k N C=mat k N C':=List.map_congr_left fun u hu=>rowN_congr fun v hv=>h u v (by simpa using hu) hv
theorem mat_succ {k N:Nat} {C:Nat→Nat→Int}:mat (k+1) N C=mat k N C++[rowN N (C k)]:=by unfold mat;rw [List.range_succ];simp
def innM (hs:List Value) (M:List (List Int)):List (Value × List (List Value)):=(hs.zip M).map fun p=>(p.1,intRows p.2)
def hdrs (hs:List Value):List (List Value):=hs.map fun h=>[h]
theorem innM_get {hs:List Value} {M:List (List Int)} {k:Nat} {h:Value} {r:List Int} (h1:hs[k]? = some h) (h2:M[k]? = some r):(innM hs M)[k]? = some (h,intRows r):=by
 unfold innM
 rw [List.getElem?_map,zip_get h1 h2];rfl
theorem innM_set {hs:List Value} {M:List (List Int)} {k:Nat} {h:Value} {r:List Int} (h1:hs[k]? = some h):(innM hs M).set k (h,intRows r)=innM hs (M.set k r):=by
 have:=zip_set (f:=fun p:Value × List Int=>(p.1,intRows p.2)) (xs:=hs) (ys:=M) (k:=k) (x:=h) (y:=r)
 rw [set_same h1] at this
 exact this
theorem innM_snoc {hs:List Value} {M:List (List Int)} {h:Value} {r:List Int} (hl:hs.length=M.length):innM (hs++[h]) (M++[r])=innM hs M++[(h,intRows r)]:=by
 unfold innM;rw [List.zip_append hl,List.map_append];rfl
theorem hdrs_get {hs:List Value} {k:Nat} {h:Value} (h1:hs[k]? = some h):(hdrs hs)[k]? = some [h]:=by unfold hdrs;rw [List.getElem?_map,h1];rfl
structure MatF (Γ:Gho) (v:Value) (M:List (List Int)):Prop where
 ex:∃ hs,hs.length=M.length∧RepS Γ v 1 (hdrs hs)∧∀ (u:Nat) (h:Value) (r:List Int),hs[u]? = some h→M[u]? = some r→RepS Γ h 1 (intRows r)
theorem MatF.mono {Γ Γ':Gho} {v:Value} {M:List (List Int)} (h:MatF Γ v M) (hl:Γ.le Γ'):MatF Γ' v M:=by
 obtain ⟨hs,h1,h2,h3⟩:=h.ex
 exact ⟨hs,h1,h2.mono hl,fun u a r q1 q2=>(h3 u a r q1 q2).mono hl⟩
theorem MatF.row {Γ:Gho} {a:Option Addr} {n c:Nat} {M:List (List Int)} (h:MatF Γ (.slice a n c) M):n=M.length∧∀ (u:Nat) (r:List Int),M[u]? = some r→∃ (a':Option Addr) (n' c':Nat),n'=r.length∧RepS Γ (.slice a' n' c') 1 (intRows r)∧∀ (S:List Res) (w:World),Wd Γ S w→Rd w a 1 ([]:List (List Value))∨∃ hs,Rd w a 1 (hdrs hs)∧(hdrs hs)[u]? = some [.slice a' n' c']:=by
 obtain ⟨hs,h1,h2,h3⟩:=h.ex
 obtain ⟨q1, -, -⟩:=rep_facts h2
 refine ⟨by rw [q1];unfold hdrs;simpa using h1,fun u r hr=>?_⟩
 obtain ⟨hv,hhv⟩:=get_lt (l:=hs) (k:=u) (by have:=(List.getElem?_eq_some_iff.1 hr).1;omega)
 have h4:=h3 u hv r hhv hr
 obtain ⟨a',n',c',rfl,hn, -, -⟩:=h4.shape
 exact ⟨a',n',c',by simpa [intRows] using hn,h4,fun S w hw=>.inr ⟨hs,h2.rd hw,hdrs_get hhv⟩⟩
theorem MatF.at {Γ:Gho} {a:Option Addr} {n c:Nat} {M:List (List Int)} (h:MatF Γ (.slice a n c) M) {u:Nat} {r:List Int} (hr:M[u]? = some r):∃ (a':Option Addr) (n' c':Nat) (hs:List Value),n'=r.length∧RepS Γ (.slice a' n' c') 1 (intRows r)∧RepS Γ (.slice a n c) 1 (hdrs hs)∧(hdrs hs)[u]? = some [.slice a' n' c']:=by
 obtain ⟨hs,h1,h2,h3⟩:=h.ex
 obtain ⟨hv,hhv⟩:=get_lt (l:=hs) (k:=u) (by have:=(List.getElem?_eq_some_iff.1 hr).1;omega)
 have h4:=h3 u hv r hhv hr
 obtain ⟨a',n',c',rfl,hn, -, -⟩:=h4.shape
 exact ⟨a',n',c',hs,by simpa [intRows] using hn,h4,h2,hdrs_get hhv⟩
theorem mat_freeze {Γ:Gho} {S:List Res} {w:World} {v:Value} {hs:List Value} {M:List (List Int)} (hl:hs.length=M.length) (hw:Wd Γ (.own v 29 1 (hdrs hs)::(inn 3 1 (innM hs M)++S)) w) :
  ∃ Γ',Γ.le Γ'∧MatF Γ' v M∧Wd Γ' S w:=by
 obtain ⟨Γ1,e1,rp,hw⟩:=hw.freeze
 unfold inn at hw
 obtain ⟨Γ2,e2,hb,hw⟩:=freeze_list (f:=fun p:Value × List (List Value)=>p.1) (g:=fun p=>p.2) (innM hs M) hw
 exact ⟨Γ2,e1.trans e2,⟨hs,hl,rp.mono e2,fun u h r h1 h2=>hb _ (List.mem_of_getElem? (innM_get h1 h2))⟩,hw⟩
structure GP (n cap first:Nat) (a:Nat→Int→Int) (x:List Int) (d v:Nat) (W V:Nat→Nat→Int):Prop where
 real:∀ u v,u≤n→v≤n→W u v < farV →
  (u < n∧v=n∧x.count (u:Int) < cap∧W u v=0∧V u v = -1)∨(u=n∧v < n∧0 < x.count (v:Int)∧W u v=0∧V u v = -1) ∨
  (u < n∧v < n∧u≠v∧∃ d:Nat,first≤d∧d < x.length∧V u v=d∧atI x d=u∧W u v=a d v - a d u)
 dev:∀ d' u z:Nat,first≤d'→(d' < d∨(d'=d∧z < v))→d' < x.length→atI x d'=(u:Int)→u < n→z < n→u≠z→W u z≤a d' z - a d' u
 out:∀ u,u < n→x.count (u:Int) < cap→W u n≤0
 inn:∀ v,v < n→0 < x.count (v:Int)→W n v≤0
section
variable {n cap first d v:Nat} {a:Nat→Int→Int} {x:List Int} {W V:Nat→Nat→Int}
theorem GP.done (h:GP n cap first a x x.length 0 W V):GOk n cap first a x W V:=⟨h.real,fun d u v h1 h2=>h.dev d u v h1 (.inl h2) h2,h.out,h.inn⟩
theorem GP.row (h:GP n cap first a x d n W V):GP n cap first a x (d+1) 0 W V:=
 ⟨h.real,fun d' u z h1 h2 h3 h4 h5 h6 h7=>h.dev d' u z h1 (by omega) h3 h4 h5 h6 h7,h.out,h.inn⟩
theorem GP.pass (h:GP n cap first a x d 0 W V) (hx:atI x d < 0):GP n cap first a x (d+1) 0 W V:=
 ⟨h.real,fun d' u z h1 h2 h3 h4 h5 h6 h7=>h.dev d' u z h1 (by
  by_cases e:d'=d
  ·subst e;omega
  ·omega) h3 h4 h5 h6 h7,h.out,h.inn⟩
theorem GP.skip {u:Nat} (h:GP n cap first a x d v W V) (hx:atI x d=(u:Int)) (hc:¬ (u≠v∧a d v - a d u < W u v)):GP n cap first a x d (v+1) W V:=
 ⟨h.real,fun d' u' z h1 h2 h3 h4 h5 h6 h7=>by
  by_cases e:d'=d∧z=v
  ·obtain ⟨rfl,rfl⟩:=e
   have:u'=u:=by omega
   subst this;omega
  ·exact h.dev d' u' z h1 (by omega) h3 h4 h5 h6 h7,h.out,h.inn⟩
theorem GP.take {u:Nat} (h:GP n cap first a x d v W V) (hf:first≤d) (hd:d < x.length) (hx:atI x d=(u:Int)) (hu:u < n) (hv:v < n) (hc:u≠v∧a d v - a d u < W u v) :
  GP n cap first a x d (v+1) (updN W u v (a d v - a d u)) (updN V u v d):=by
 refine ⟨fun p q hp hq hw=>?_,fun d' p z h1 h2 h3 h4 h5 h6 h7=>?_,fun p hp hh=>?_,fun p hp hh=>?_⟩
 ·by_cases e:p=u∧q=v
  ·obtain ⟨rfl,rfl⟩:=e
   exact .inr (.inr ⟨hu,hv,hc.1,d,hf,hd,by unfold updN;rw [if_pos ⟨rfl,rfl⟩],hx,by unfold updN;rw [if_pos ⟨rfl,rfl⟩]⟩)
  ·have e1:updN W u v (a d v - a d u) p q=W p q:=by unfold updN;rw [if_neg e]
   have e2:updN V u v d p q=V p q:=by unfold updN;rw [if_neg e]
   rw [e1] at hw
   rw [e1,e2]
   exact h.real p q hp hq hw
 ·unfold updN
  by_cases e:p=u∧z=v
  ·rw [if_pos e]
   obtain ⟨rfl,rfl⟩:=e
   by_cases e2:d'=d
   ·subst e2;omega
   ·have:=h.dev d' p z h1 (by omega) h3 h4 h5 h6 h7;omega
  ·rw [if_neg e]
   by_cases e3:d'=d∧z=v
   ·obtain ⟨rfl,rfl⟩:=e3
    have:p=u:=by omega
    exact absurd ⟨this,rfl⟩ e
   ·exact h.dev d' p z h1 (by omega) h3 h4 h5 h6 h7
 ·unfold updN;rw [if_neg (by omega)];exact h.out p hp hh
 ·unfold updN;rw [if_neg (by omega)];exact h.inn p hp hh
def freeC (n cap:Nat) (x:List Int) (u v:Nat):Int:=if (u < n∧v=n∧x.count (u:Int) < cap)∨(u=n∧v < n∧0 < x.count (v:Int)) then 0 else farV
theorem GP.start:GP n cap first a x first 0 (freeC n cap x) fun _ _=>-1:=by
 refine ⟨fun u v hu hv hw=>?_,fun d' u z h1 h2=>by omega,fun u hu hc=>?_,fun v hv hc=>?_⟩
 ·unfold freeC at hw ⊢
  by_cases e:(u < n∧v=n∧x.count (u:Int) < cap)∨(u=n∧v < n∧0 < x.count (v:Int))
  ·rw [if_pos e]
   rcases e with ⟨h1,h2,h3⟩ | ⟨h1,h2,h3⟩
   ·exact .inl ⟨h1,h2,h3,rfl,rfl⟩
   ·exact .inr (.inl ⟨h1,h2,h3,rfl,rfl⟩)
  ·rw [if_neg e] at hw;exact absurd hw (Int.lt_irrefl _)
 ·unfold freeC;rw [if_pos (.inl ⟨hu,rfl,hc⟩)];exact Int.le_refl _
 ·unfold freeC;rw [if_pos (.inr ⟨rfl,hv,hc⟩)];exact Int.le_refl _
end
end Go.Proofs.YthgighljhoneeaaGreatDoor
end
section
open Go Mk
namespace Go.Proofs.YthgighljhoneeaaGreatDoor
set_option maxHeartbeats 64000000
attribute [local irreducible] Calls
structure AsgF (Γ:Gho) (bA n cap:Nat) (A:List (List Int)) (x:List Int):Prop where
 ex:∃ (va:Option Addr) (vn vc:Nat) (xa:Option Addr) (xn xc:Nat) (la:Option Addr) (ln lc:Nat),ImB Γ bA #[.slice va vn vc,.int .i64 cap,.slice xa xn xc,.slice la ln lc] 105∧MatF Γ (.slice va vn vc) A∧RepS Γ (.slice xa xn xc) 1 (intRows x)∧RepS Γ (.slice la ln lc) 1 (intRows (rowN n fun u=>(x.count (u:Int):Int)))
def aF (A:List (List Int)) (i:Nat) (z:Int):Int:=(A.getD i []).getD z.toNat 0
structure CostM (n:Nat) (A:List (List Int)):Prop where
 row:∀ r∈A,r.length=n
 rng:∀ r∈A,∀ z∈r,0≤z∧z≤1000000000
theorem CostM.get {n:Nat} {A:List (List Int)} (h:CostM n A) {i:Nat} (hi:i < A.length):∃ r,A[i]? = some r∧r.length=n∧∀ z:Nat,z < n→r[z]? = some (aF A i z)∧0≤aF A i z∧aF A i z≤1000000000:=by
 have hm:=List.getElem_mem hi
 refine ⟨A[i],List.getElem?_eq_getElem hi,h.row _ hm,fun z hz=>?_⟩
 have hl:=h.row _ hm
 have he:aF A i z=A[i][z]'(by omega):=by
  unfold aF
  simp only [List.getD_eq_getElem?_getD,List.getElem?_eq_getElem hi,Option.getD_some,Int.toNat_natCast,List.getElem?_eq_getElem (show z < A[i].length by omega)]
 rw [he]
 exact ⟨List.getElem?_eq_getElem _,h.rng _ hm _ (List.getElem_mem _)⟩
def cstC (n cap:Nat) (x:List Int) (u v:Nat):Nat→Nat→Int:=fun a b=>if a < u∨(a=u∧b < v) then freeC n cap x a b else farV
theorem cst_row {n cap u:Nat} {x:List Int}:mat u (n+1) (freeC n cap x)++[rowN (n+1) fun _=>farV]=mat (u+1) (n+1) (cstC n cap x u 0):=by
 rw [mat_succ]
 congr 1
 ·exact mat_congr fun a b ha hb=>by unfold cstC;rw [if_pos (.inl ha)]
 ·congr 1
  exact rowN_congr fun b hb=>by unfold cstC;rw [if_neg (by omega)]
theorem cst_end {n cap u:Nat} {x:List Int}:mat (u+1) (n+1) (cstC n cap x u (n+1))=mat (u+1) (n+1) (freeC n cap x):=mat_congr fun a b ha hb=>by unfold cstC;rw [if_pos (by omega)]
theorem cst_pass {n cap u v:Nat} {x:List Int} (h:freeC n cap x u v=farV):mat (u+1) (n+1) (cstC n cap x u v)=mat (u+1) (n+1) (cstC n cap x u (v+1)):=mat_congr fun a b ha hb=>by
 unfold cstC
 by_cases e:a < u∨(a=u∧b < v)
 ·rw [if_pos e,if_pos (show a < u∨(a=u∧b < v+1) by omega)]
 ·rw [if_neg e]
  by_cases e2:a=u∧b=v
  ·rw [if_pos (show a < u∨(a=u∧b < v+1) by omega),e2.1,e2.2,h]
  ·rw [if_neg (show ¬ (a < u∨(a=u∧b < v+1)) by omega)]
theorem cst_zero {n cap u v:Nat} {x:List Int} (h:freeC n cap x u v=0):mat (u+1) (n+1) (updN (cstC n cap x u v) u v 0)=mat (u+1) (n+1) (cstC n cap x u (v+1)):=mat_congr fun a b ha hb=>by
 unfold updN cstC
 by_cases e2:a=u∧b=v
 ·rw [if_pos e2,if_pos (show a < u∨(a=u∧b < v+1) by omega),e2.1,e2.2,h]
 ·rw [if_neg e2]
  by_cases e:a < u∨(a=u∧b < v)
  ·rw [if_pos e,if_pos (show a < u∨(a=u∧b < v+1) by omega)]
  ·rw [if_neg e,if_neg (show ¬ (a < u∨(a=u∧b < v+1)) by omega)]
theorem rep_row {k:Nat} {z:Int}:List.replicate k z=rowN k fun _=>z:=by
 refine List.ext_getElem? fun i=>?_
 rw [List.getElem?_replicate]
 by_cases h:i < k
 ·rw [if_pos h,rowN_get h]
 ·rw [if_neg h,List.getElem?_eq_none (by rw [rowN_len];omega)]
theorem inn_snoc {Γ:Gho} {A S:List Res} {w:World} {hs:List Value} {M:List (List Int)} {h:Value} {r:List Int} (hl:hs.length=M.length) (hw:Wd Γ (.own h 3 1 (intRows r)::(A++(inn 3 1 (innM hs M)++S))) w) :
  Wd Γ (A++(inn 3 1 (innM (hs++[h]) (M++[r]))++S)) w:=by
 rw [innM_snoc hl]
 unfold inn at hw ⊢
 rw [List.map_append]
 refine hw.rot.perm (List.Perm.append_left A ?_)
 rw [List.append_assoc]
 exact List.perm_middle.symm
theorem row_open {Γ:Gho} {A S:List Res} {w:World} {hs:List Value} {k N u:Nat} {C:Nat→Nat→Int} {h:Value} (hl:hs[u]? = some h) (hu:u < k) (hw:Wd Γ (A++(inn 3 1 (innM hs (mat k N C))++S)) w) :
  Wd Γ (.own h 3 1 (intRows (rowN N (C u)))::(A++(inn 3 1 ((innM hs (mat k N C)).eraseIdx u)++S))) w:=inn_openA (innM_get hl (mat_get hu)) hw
theorem row_close {Γ:Gho} {A S:List Res} {w:World} {hs:List Value} {k N u v:Nat} {z:Int} {C:Nat→Nat→Int} {h:Value} (hl:hs[u]? = some h) (hu:u < k) (hk:hs.length=k)
  (hw:Wd Γ (.own h 3 1 ((intRows (rowN N (C u))).set v [.int .i64 z])::(A++(inn 3 1 ((innM hs (mat k N C)).eraseIdx u)++S))) w):Wd Γ (A++(inn 3 1 (innM hs (mat k N (updN C u v z)))++S)) w:=by
 have e:(intRows (rowN N (C u))).set v [.int .i64 z]=intRows (rowN N (updN C u v z u)):=by
  rw [← rowN_set]
  unfold intRows
  rw [List.map_set]
 rw [e] at hw
 have hlt:u < (innM hs (mat k N C)).length:=(List.getElem?_eq_some_iff.1 (innM_get hl (mat_get hu))).1
 have:=inn_closeA (q:=(h,intRows (rowN N (updN C u v z u)))) hlt hw
 rw [innM_set hl,mat_set] at this
 exact this
theorem row_back {Γ:Gho} {A S:List Res} {w:World} {hs:List Value} {k N u:Nat} {C:Nat→Nat→Int} {h:Value} (hl:hs[u]? = some h) (hu:u < k)
  (hw:Wd Γ (.own h 3 1 (intRows (rowN N (C u)))::(A++(inn 3 1 ((innM hs (mat k N C)).eraseIdx u)++S))) w):Wd Γ (A++(inn 3 1 (innM hs (mat k N C))++S)) w:=by
 have hg:=innM_get hl (mat_get (N:=N) (C:=C) hu)
 have:=inn_closeA (q:=(h,intRows (rowN N (C u)))) (List.getElem?_eq_some_iff.1 hg).1 hw
 rw [set_same hg] at this
 exact this
set_option maxRecDepth 8000 in
theorem graph_core {Γ:Gho} {bA n cap first:Nat} {A:List (List Int)} {x:List Int} (hF:AsgF Γ bA n cap A x) (hn:n≤64) (hC:CostM n A) (hAl:A.length=x.length) (hx:∀ v∈x, -1≤v∧v < n) (hl:x.length≤1000) (hfi:first≤x.length) {S:List Res} {w:World} (hw:Wd Γ S w) :
  Calls Tryz.prog 84 #[.pointer (some ⟨bA,0,none⟩),.int .i64 (first:Nat)] w fun e w'=>∃ (dv cv:Value) (hd hc:List Value) (W V:Nat→Nat→Int),e=.returned (.agg #[dv,cv])∧hd.length=n+1∧hc.length=n+1∧GP n cap first (aF A) x x.length 0 W V ∧
   Wd Γ (.own dv 29 1 (hdrs hd)::.own cv 29 1 (hdrs hc)::(inn 3 1 (innM hc (mat (n+1) (n+1) W))++(inn 3 1 (innM hd (mat (n+1) (n+1) V))++S))) w':=by
 obtain ⟨va,vn,vc,xa,xn,xc,la,ln,lc,hB,hM,rx,rl⟩:=hF.ex
 obtain ⟨hxn,hxc,hxm⟩:=rep_facts rx
 obtain ⟨hln,hlc,hlm⟩:=rep_facts rl
 simp only [intRows,List.length_map,rowN_len] at hxn hln
 have hcl:∀ u:Nat,u < n→(intRows (rowN n fun u=>(x.count (u:Int):Int)))[u]? = some [.int .i64 (x.count (u:Int):Nat)]:=fun u hu=>by simp [intRows,rowN_get hu]
 refine calls_of_WC Tryz.func84 rfl rfl ?_
 repeat (first | refine byW ?_ | (refine byV ?_;intro w hw))
 refine lAlloc ?_
 intro b4 w hw
 repeat (first | refine byW ?_ | (refine byV ?_;intro w hw))
 refine lY (v:=.slice la ln lc) ?_ (hy:=y_l1m hw rfl rfl)
 repeat (first | refine byW ?_ | (refine byV ?_;intro w hw))
 refine lAlloc ?_
 intro b6 w hw
 have hw:=Wd.addNil (a:=none) (E:=29) (sz:=1) hw
 have hw:=Wd.addNil (a:=none) (E:=29) (sz:=1) hw
 have hw:Wd Γ (.blk b6 (.cells #[.slice none 0 0,.slice none 0 0] 129)::.own (.slice none 0 0) 29 1 (hdrs [])::.own (.slice none 0 0) 29 1 (hdrs [])::.blk b4 (.cells #[.slice none 0 0,.slice none 0 0] 129)::(inn 3 1 (innM [] (mat 0 (n+1) (freeC n cap x)))++(inn 3 1 (innM [] (mat 0 (n+1) (fun _ _=>-1)))++S))) w:=hw.ps [1,1,2]
 have hln:=hln.symm
 subst hln
 repeat (first | refine byW ?_ | (refine byV ?_;intro w hw))
 refine W_loop (fun μ ρ w=>∃ (u:Nat) (dv cv:Value) (hd hc:List Value),μ+u=n+1∧hd.length=u∧hc.length=u∧Has ρ [(0,.pointer (some ⟨bA,0,none⟩)),(1,.int .i64 first),(4,.pointer (some ⟨b4,0,none⟩)),(5,.int .i64 n),(6,.pointer (some ⟨b6,0,none⟩)),(19,.int .i64 ((n:Int)+1)),(20,.int .i64 u)]∧Wd Γ (.blk b6 (.cells #[dv,cv] 129)::.own (dv) 29 1 (hdrs hd)::.own (cv) 29 1 (hdrs hc)::.blk b4 (.cells #[.slice none 0 0,.slice none 0 0] 129)::(inn 3 1 (innM hc (mat u (n+1) (freeC n cap x)))++(inn 3 1 (innM hd (mat u (n+1) (fun _ _=>-1)))++S))) w) (n+1) ⟨0,.slice none 0 0,.slice none 0 0,[],[],by omega,rfl,rfl,⟨rfl,rfl,rfl,rfl,rfl,rfl,rfl,trivial⟩,hw⟩ ?_
 clear hw
 rintro μ ρ w ⟨u,dv,cv,hd,hc,hμ,hhd,hhc,hρ,hw⟩
 rw [hρ.eq]
 clear hρ
 obtain ⟨da,dn,dc,rfl,hdn,hdc, -⟩:=hw.own_shape (i:=1) rfl
 obtain ⟨ca,cn,cc,rfl,hcn,hcc, -⟩:=hw.own_shape (i:=2) rfl
 simp only [hdrs,List.length_map] at hdn hcn
 repeat (first | refine byW ?_ | (refine byV ?_;intro w hw))
 refine W_cond rfl (fun h=>?_) (fun h=>?_)
 ·have hun:u < n+1:=by have:=of_decide_eq_true h;omega
  clear h
  repeat (first | refine byW ?_ | (refine byV ?_;intro w hw))
  obtain ⟨T,hT⟩:∃ T,T=(inn 3 1 (innM hc (mat u (n+1) (freeC n cap x)))++(inn 3 1 (innM hd (mat u (n+1) (fun _ _=>-1)))++S)):=⟨_,rfl⟩
  rw [← hT] at hw
  refine W_mixed [] [fun _=>[],fun _=>.blk b6 (.cells #[.slice da dn dc,.slice ca cn cc] 129)::.own (.slice da dn dc) 29 1 (hdrs hd)::.own (.slice ca cn cc) 29 1 (hdrs hc)::.blk b4 (.cells #[.slice none 0 0,.slice none 0 0] 129)::T] [[],[],[0],[],[],[0],[0],[0,1],[],[0]] [[],[1],[0],[],[],[0],[0],[0,1],[],[0]] [[25,28,29,30],[]] (by have:=hw;simpa [List.range,List.range.loop,ML] using this) ?_
  repeat (first | refine mY ?_ | refine mP ?_ | refine mPg ?_)
  refine mS (c:=0) (v:=undef) (F:=fun _=>[]) (fun g=>[.own (g 25) 3 1 (intRows [-1])]) (fun g w Y hw=>s_buildSlice (rws:=intRows [-1]) hw rfl rfl rfl (by simp [intRows]) (by decide) fun a w' hw'=>⟨(fun h=>by cases h),hw'⟩) ?_
  repeat (first | refine mY ?_ | refine mP ?_ | refine mPg ?_)
  refine mCallG (c:=0) (F:=fun g=>[.own (g 25) 3 1 (intRows [-1])]) (fun g=>[.own (g 28) 3 1 (intRows (List.replicate (n+1) (-1)))]) (fun g=>[g 25,.int .i64 ((n:Int)+1)]) (fun g w Y hw=>?_) ?_
  ·have hw:Wd Γ (.own (ovr [25,28,29,30] g noFr 25) 3 1 (intRows [-1])::([]++Y)) w:=hw
   obtain ⟨p1,p2,p3,hg,e1, -, -⟩:=hw.own_shape (i:=0) rfl
   rw [hg] at hw
   have e1:p2=1:=e1
   subst e1
   show Calls _ _ #[ovr [25,28,29,30] g noFr 25,.int .i64 ((n+1:Nat):Int)] w _
   rw [hg]
   refine (repeat_any (k:=n+1) ⟨by omega,by omega⟩ hw).mono fun e w' hq=>?_
   obtain ⟨a',rfl,hw'⟩:=hq
   exact ⟨_,rfl,hw'.ds [1]⟩
  refine mS (c:=0) (v:=undef) (F:=fun g=>[.own (g 28) 3 1 (intRows (List.replicate (n+1) (-1)))]) (fun g=>[.own (g 29) 29 1 (hdrs [g 28]),.own (g 28) 3 1 (intRows (List.replicate (n+1) (-1)))]) (fun g w Y hw=>?_) ?_
  ·have hw:Wd Γ (.own (ovr [25,28,29,30] g noFr 28) 3 1 (intRows (List.replicate (n+1) (-1)))::([]++Y)) w:=hw
   obtain ⟨p1,p2,p3,hg,e1, -, -⟩:=hw.own_shape (i:=0) rfl
   refine s_buildSlice (rws:=hdrs [.slice p1 p2 p3]) hw (by show fillL _ _ [(0,ovr [25,28,29,30] g noFr 28)]=_;rw [hg];rfl) rfl rfl (by simp [hdrs]) (by decide) fun a w' hw'=>⟨(fun h=>by cases h),?_⟩
   show Wd Γ (.own (.slice (some a) 1 1) 29 1 (hdrs [ovr [25,28,29,30] g noFr 28])::.own (ovr [25,28,29,30] g noFr 28) 3 1 (intRows (List.replicate (n+1) (-1)))::([]++Y)) w'
   rw [hg] at hw' ⊢
   exact hw'
  refine mS2 (c:=0) (c2:=1) (v:=undef) (F:=fun g=>[.own (g 29) 29 1 (hdrs [g 28]),.own (g 28) 3 1 (intRows (List.replicate (n+1) (-1)))]) (G:=fun _=>.blk b6 (.cells #[.slice da dn dc,.slice ca cn cc] 129)::.own (.slice da dn dc) 29 1 (hdrs hd)::.own (.slice ca cn cc) 29 1 (hdrs hc)::.blk b4 (.cells #[.slice none 0 0,.slice none 0 0] 129)::T) (fun g=>.own (g 28) 3 1 (intRows (List.replicate (n+1) (-1)))::.blk b6 (.cells #[.slice da dn dc,.slice ca cn cc] 129)::.own (g 30) 29 1 (hdrs hd++hdrs [g 28])::.own (.slice ca cn cc) 29 1 (hdrs hc)::.blk b4 (.cells #[.slice none 0 0,.slice none 0 0] 129)::T) (fun _=>[]) (fun g w Y hw=>?_) ?_
  ·have hw:Wd Γ (.own (ovr [25,28,29,30] g noFr 29) 29 1 (hdrs [ovr [25,28,29,30] g noFr 28])::.own (ovr [25,28,29,30] g noFr 28) 3 1 (intRows (List.replicate (n+1) (-1)))::((.blk b6 (.cells #[.slice da dn dc,.slice ca cn cc] 129)::.own (.slice da dn dc) 29 1 (hdrs hd)::.own (.slice ca cn cc) 29 1 (hdrs hc)::.blk b4 (.cells #[.slice none 0 0,.slice none 0 0] 129)::T)++([]++Y))) w:=hw
   obtain ⟨p1,p2,p3,hg1,e1, -, -⟩:=hw.own_shape (i:=0) rfl
   obtain ⟨q1,q2,q3,hg2, -, -, -⟩:=hw.own_shape (i:=1) rfl
   rw [hg1,hg2] at hw
   have e1:p2=1:=e1
   subst e1
   refine s_append (i:=3) (rows2:=hdrs [.slice q1 q2 q3]) hw rfl hg1 rfl (hw.own_rd (i:=0) rfl) rfl (by simp [hdrs,Value.oneCell']) (by omega) (by omega) fun v' w' hw'=>⟨(fun h=>by cases h),?_⟩
   have hw':=hw'.ds [0]
   show Wd Γ (.own (ovr [25,28,29,30] g noFr 28) 3 1 (intRows (List.replicate (n+1) (-1)))::((.blk b6 (.cells #[.slice da dn dc,.slice ca cn cc] 129)::.own (v') 29 1 (hdrs hd++hdrs [ovr [25,28,29,30] g noFr 28])::.own (.slice ca cn cc) 29 1 (hdrs hc)::.blk b4 (.cells #[.slice none 0 0,.slice none 0 0] 129)::T)++([]++Y))) w'
   rw [hg2]
   exact hw'
  repeat (first | refine mY ?_ | refine mP ?_ | refine mPg ?_)
  refine mS (c:=0) (v:=undef) (F:=fun g=>.own (g 28) 3 1 (intRows (List.replicate (n+1) (-1)))::.blk b6 (.cells #[.slice da dn dc,.slice ca cn cc] 129)::.own (g 30) 29 1 (hdrs hd++hdrs [g 28])::.own (.slice ca cn cc) 29 1 (hdrs hc)::.blk b4 (.cells #[.slice none 0 0,.slice none 0 0] 129)::T) (fun g=>.own (g 28) 3 1 (intRows (List.replicate (n+1) (-1)))::.blk b6 (.cells #[g 30,.slice ca cn cc] 129)::.own (g 30) 29 1 (hdrs hd++hdrs [g 28])::.own (.slice ca cn cc) 29 1 (hdrs hc)::.blk b4 (.cells #[.slice none 0 0,.slice none 0 0] 129)::T) (fun g w Y hw=>?_) ?_
  ·have hw:Wd Γ (.own (ovr [25,28,29,30] g noFr 28) 3 1 (intRows (List.replicate (n+1) (-1)))::((.blk b6 (.cells #[.slice da dn dc,.slice ca cn cc] 129)::.own (ovr [25,28,29,30] g noFr 30) 29 1 (hdrs hd++hdrs [ovr [25,28,29,30] g noFr 28])::.own (.slice ca cn cc) 29 1 (hdrs hc)::.blk b4 (.cells #[.slice none 0 0,.slice none 0 0] 129)::T)++([]++Y))) w:=hw
   obtain ⟨p1,p2,p3,hg, -, -, -⟩:=hw.own_shape (i:=2) rfl
   rw [hg] at hw
   refine s_store (n:=1) (o:=0+0) (vs:=[.slice p1 p2 p3]) (i:=1) (TSz.h (P:=Tryz.prog) (T:=103)) hw rfl hg rfl rfl (by simp [Value.oneCell']) rfl (by simp) fun w' hw'=>⟨fun _=>rfl,?_⟩
   show Wd Γ (.own (ovr [25,28,29,30] g noFr 28) 3 1 (intRows (List.replicate (n+1) (-1)))::((.blk b6 (.cells #[ovr [25,28,29,30] g noFr 30,.slice ca cn cc] 129)::.own (ovr [25,28,29,30] g noFr 30) 29 1 (hdrs hd++hdrs [ovr [25,28,29,30] g noFr 28])::.own (.slice ca cn cc) 29 1 (hdrs hc)::.blk b4 (.cells #[.slice none 0 0,.slice none 0 0] 129)::T)++([]++Y))) w'
   rw [hg]
   exact hw'
  refine mEnd fun w g hw=>?_
  have hw:Wd Γ ((.own (ovr [25,28,29,30] g noFr 28) 3 1 (intRows (List.replicate (n+1) (-1)))::.blk b6 (.cells #[ovr [25,28,29,30] g noFr 30,.slice ca cn cc] 129)::.own (ovr [25,28,29,30] g noFr 30) 29 1 (hdrs hd++hdrs [ovr [25,28,29,30] g noFr 28])::.own (.slice ca cn cc) 29 1 (hdrs hc)::.blk b4 (.cells #[.slice none 0 0,.slice none 0 0] 129)::T)++[]) w:=hw
  generalize ovr [25,28,29,30] g noFr 28=h1 at hw
  generalize ovr [25,28,29,30] g noFr 30=dv2 at hw
  rw [List.append_nil,hT,show hdrs hd++hdrs [h1]=hdrs (hd++[h1]) by simp [hdrs],rep_row] at hw
  obtain ⟨da2,dn2,dc2,hdv2,hdn2,hdc2, -⟩:=hw.own_shape (i:=2) rfl
  subst hdv2
  clear hT
  have hw:Wd Γ (.own h1 3 1 (intRows (rowN (n+1) fun _=>-1))::([.blk b6 (.cells #[.slice da2 dn2 dc2,.slice ca cn cc] 129),.own (.slice da2 dn2 dc2) 29 1 (hdrs (hd++[h1])),.own (.slice ca cn cc) 29 1 (hdrs hc),.blk b4 (.cells #[.slice none 0 0,.slice none 0 0] 129)]++(inn 3 1 (innM hc (mat u (n+1) (freeC n cap x)))++(inn 3 1 (innM hd (mat u (n+1) (fun _ _=>-1)))++S)))) w:=hw
  have hw:=inn_snoc (A:=[.blk b6 (.cells #[.slice da2 dn2 dc2,.slice ca cn cc] 129),.own (.slice da2 dn2 dc2) 29 1 (hdrs (hd++[h1])),.own (.slice ca cn cc) 29 1 (hdrs hc),.blk b4 (.cells #[.slice none 0 0,.slice none 0 0] 129)]++inn 3 1 (innM hc (mat u (n+1) (freeC n cap x)))) (hs:=hd) (M:=mat u (n+1) (fun _ _=>-1)) (S:=S) (by rw [mat_len];exact hhd) (by simpa using hw)
  rw [← mat_succ] at hw
  have hhd2:(hd++[h1]).length=u+1:=by simp [hhd]
  generalize hd++[h1]=hd2 at *
  have hw:Wd Γ (.blk b6 (.cells #[.slice da2 dn2 dc2,.slice ca cn cc] 129)::.own (.slice da2 dn2 dc2) 29 1 (hdrs hd2)::.own (.slice ca cn cc) 29 1 (hdrs hc)::.blk b4 (.cells #[.slice none 0 0,.slice none 0 0] 129)::(inn 3 1 (innM hc (mat u (n+1) (freeC n cap x)))++(inn 3 1 (innM hd2 (mat (u+1) (n+1) (fun _ _=>-1)))++S))) w:=by rw [List.append_assoc] at hw;exact hw
  repeat (first | refine byW ?_ | (refine byV ?_;intro w hw))
  obtain ⟨TT,hT⟩:∃ T,T=(inn 3 1 (innM hc (mat u (n+1) (freeC n cap x)))++(inn 3 1 (innM hd2 (mat (u+1) (n+1) (fun _ _=>-1)))++S)):=⟨_,rfl⟩
  rw [← hT] at hw
  refine W_mixed [] [fun _=>[],fun _=>.blk b6 (.cells #[.slice da2 dn2 dc2,.slice ca cn cc] 129)::.own (.slice da2 dn2 dc2) 29 1 (hdrs hd2)::.own (.slice ca cn cc) 29 1 (hdrs hc)::.blk b4 (.cells #[.slice none 0 0,.slice none 0 0] 129)::TT] [[],[],[0],[],[],[0],[0],[0,1],[],[0]] [[],[1],[0],[],[],[0],[0],[0,1],[],[0]] [[34,37,38,39],[]] (by have:=hw;simpa [List.range,List.range.loop,ML] using this) ?_
  repeat (first | refine mY ?_ | refine mP ?_ | refine mPg ?_)
  refine mS (c:=0) (v:=undef) (F:=fun _=>[]) (fun g=>[.own (g 34) 3 1 (intRows [1152921504606846976])]) (fun g w Y hw=>s_buildSlice (rws:=intRows [1152921504606846976]) hw rfl rfl rfl (by simp [intRows]) (by decide) fun a w' hw'=>⟨(fun h=>by cases h),hw'⟩) ?_
  repeat (first | refine mY ?_ | refine mP ?_ | refine mPg ?_)
  refine mCallG (c:=0) (F:=fun g=>[.own (g 34) 3 1 (intRows [1152921504606846976])]) (fun g=>[.own (g 37) 3 1 (intRows (List.replicate (n+1) (1152921504606846976)))]) (fun g=>[g 34,.int .i64 ((n:Int)+1)]) (fun g w Y hw=>?_) ?_
  ·have hw:Wd Γ (.own (ovr [34,37,38,39] g noFr 34) 3 1 (intRows [1152921504606846976])::([]++Y)) w:=hw
   obtain ⟨p1,p2,p3,hg,e1, -, -⟩:=hw.own_shape (i:=0) rfl
   rw [hg] at hw
   have e1:p2=1:=e1
   subst e1
   show Calls _ _ #[ovr [34,37,38,39] g noFr 34,.int .i64 ((n+1:Nat):Int)] w _
   rw [hg]
   refine (repeat_any (k:=n+1) ⟨by omega,by omega⟩ hw).mono fun e w' hq=>?_
   obtain ⟨a',rfl,hw'⟩:=hq
   exact ⟨_,rfl,hw'.ds [1]⟩
  refine mS (c:=0) (v:=undef) (F:=fun g=>[.own (g 37) 3 1 (intRows (List.replicate (n+1) (1152921504606846976)))]) (fun g=>[.own (g 38) 29 1 (hdrs [g 37]),.own (g 37) 3 1 (intRows (List.replicate (n+1) (1152921504606846976)))]) (fun g w Y hw=>?_) ?_
  ·have hw:Wd Γ (.own (ovr [34,37,38,39] g noFr 37) 3 1 (intRows (List.replicate (n+1) (1152921504606846976)))::([]++Y)) w:=hw
   obtain ⟨p1,p2,p3,hg,e1, -, -⟩:=hw.own_shape (i:=0) rfl
   refine s_buildSlice (rws:=hdrs [.slice p1 p2 p3]) hw (by show fillL _ _ [(0,ovr [34,37,38,39] g noFr 37)]=_;rw [hg];rfl) rfl rfl (by simp [hdrs]) (by decide) fun a w' hw'=>⟨(fun h=>by cases h),?_⟩
   show Wd Γ (.own (.slice (some a) 1 1) 29 1 (hdrs [ovr [34,37,38,39] g noFr 37])::.own (ovr [34,37,38,39] g noFr 37) 3 1 (intRows (List.replicate (n+1) (1152921504606846976)))::([]++Y)) w'
   rw [hg] at hw' ⊢
   exact hw'
  refine mS2 (c:=0) (c2:=1) (v:=undef) (F:=fun g=>[.own (g 38) 29 1 (hdrs [g 37]),.own (g 37) 3 1 (intRows (List.replicate (n+1) (1152921504606846976)))]) (G:=fun _=>.blk b6 (.cells #[.slice da2 dn2 dc2,.slice ca cn cc] 129)::.own (.slice da2 dn2 dc2) 29 1 (hdrs hd2)::.own (.slice ca cn cc) 29 1 (hdrs hc)::.blk b4 (.cells #[.slice none 0 0,.slice none 0 0] 129)::TT) (fun g=>.own (g 37) 3 1 (intRows (List.replicate (n+1) (1152921504606846976)))::.blk b6 (.cells #[.slice da2 dn2 dc2,.slice ca cn cc] 129)::.own (.slice da2 dn2 dc2) 29 1 (hdrs hd2)::.own (g 39) 29 1 (hdrs hc++hdrs [g 37])::.blk b4 (.cells #[.slice none 0 0,.slice none 0 0] 129)::TT) (fun _=>[]) (fun g w Y hw=>?_) ?_
  ·have hw:Wd Γ (.own (ovr [34,37,38,39] g noFr 38) 29 1 (hdrs [ovr [34,37,38,39] g noFr 37])::.own (ovr [34,37,38,39] g noFr 37) 3 1 (intRows (List.replicate (n+1) (1152921504606846976)))::((.blk b6 (.cells #[.slice da2 dn2 dc2,.slice ca cn cc] 129)::.own (.slice da2 dn2 dc2) 29 1 (hdrs hd2)::.own (.slice ca cn cc) 29 1 (hdrs hc)::.blk b4 (.cells #[.slice none 0 0,.slice none 0 0] 129)::TT)++([]++Y))) w:=hw
   obtain ⟨p1,p2,p3,hg1,e1, -, -⟩:=hw.own_shape (i:=0) rfl
   obtain ⟨q1,q2,q3,hg2, -, -, -⟩:=hw.own_shape (i:=1) rfl
   rw [hg1,hg2] at hw
   have e1:p2=1:=e1
   subst e1
   refine s_append (i:=4) (rows2:=hdrs [.slice q1 q2 q3]) hw rfl hg1 rfl (hw.own_rd (i:=0) rfl) rfl (by simp [hdrs,Value.oneCell']) (by omega) (by omega) fun v' w' hw'=>⟨(fun h=>by cases h),?_⟩
   have hw':=hw'.ds [0]
   show Wd Γ (.own (ovr [34,37,38,39] g noFr 37) 3 1 (intRows (List.replicate (n+1) (1152921504606846976)))::((.blk b6 (.cells #[.slice da2 dn2 dc2,.slice ca cn cc] 129)::.own (.slice da2 dn2 dc2) 29 1 (hdrs hd2)::.own (v') 29 1 (hdrs hc++hdrs [ovr [34,37,38,39] g noFr 37])::.blk b4 (.cells #[.slice none 0 0,.slice none 0 0] 129)::TT)++([]++Y))) w'
   rw [hg2]
   exact hw'
  repeat (first | refine mY ?_ | refine mP ?_ | refine mPg ?_)
  refine mS (c:=0) (v:=undef) (F:=fun g=>.own (g 37) 3 1 (intRows (List.replicate (n+1) (1152921504606846976)))::.blk b6 (.cells #[.slice da2 dn2 dc2,.slice ca cn cc] 129)::.own (.slice da2 dn2 dc2) 29 1 (hdrs hd2)::.own (g 39) 29 1 (hdrs hc++hdrs [g 37])::.blk b4 (.cells #[.slice none 0 0,.slice none 0 0] 129)::TT) (fun g=>.own (g 37) 3 1 (intRows (List.replicate (n+1) (1152921504606846976)))::.blk b6 (.cells #[.slice da2 dn2 dc2,g 39] 129)::.own (.slice da2 dn2 dc2) 29 1 (hdrs hd2)::.own (g 39) 29 1 (hdrs hc++hdrs [g 37])::.blk b4 (.cells #[.slice none 0 0,.slice none 0 0] 129)::TT) (fun g w Y hw=>?_) ?_
  ·have hw:Wd Γ (.own (ovr [34,37,38,39] g noFr 37) 3 1 (intRows (List.replicate (n+1) (1152921504606846976)))::((.blk b6 (.cells #[.slice da2 dn2 dc2,.slice ca cn cc] 129)::.own (.slice da2 dn2 dc2) 29 1 (hdrs hd2)::.own (ovr [34,37,38,39] g noFr 39) 29 1 (hdrs hc++hdrs [ovr [34,37,38,39] g noFr 37])::.blk b4 (.cells #[.slice none 0 0,.slice none 0 0] 129)::TT)++([]++Y))) w:=hw
   obtain ⟨p1,p2,p3,hg, -, -, -⟩:=hw.own_shape (i:=3) rfl
   rw [hg] at hw
   refine s_store (n:=1) (o:=0+1) (vs:=[.slice p1 p2 p3]) (i:=1) (TSz.h (P:=Tryz.prog) (T:=103)) hw rfl hg rfl rfl (by simp [Value.oneCell']) rfl (by simp) fun w' hw'=>⟨fun _=>rfl,?_⟩
   show Wd Γ (.own (ovr [34,37,38,39] g noFr 37) 3 1 (intRows (List.replicate (n+1) (1152921504606846976)))::((.blk b6 (.cells #[.slice da2 dn2 dc2,ovr [34,37,38,39] g noFr 39] 129)::.own (.slice da2 dn2 dc2) 29 1 (hdrs hd2)::.own (ovr [34,37,38,39] g noFr 39) 29 1 (hdrs hc++hdrs [ovr [34,37,38,39] g noFr 37])::.blk b4 (.cells #[.slice none 0 0,.slice none 0 0] 129)::TT)++([]++Y))) w'
   rw [hg]
   exact hw'
  refine mEnd fun w g hw=>?_
  have hw:Wd Γ ((.own (ovr [34,37,38,39] g noFr 37) 3 1 (intRows (List.replicate (n+1) (1152921504606846976)))::.blk b6 (.cells #[.slice da2 dn2 dc2,ovr [34,37,38,39] g noFr 39] 129)::.own (.slice da2 dn2 dc2) 29 1 (hdrs hd2)::.own (ovr [34,37,38,39] g noFr 39) 29 1 (hdrs hc++hdrs [ovr [34,37,38,39] g noFr 37])::.blk b4 (.cells #[.slice none 0 0,.slice none 0 0] 129)::TT)++[]) w:=hw
  generalize ovr [34,37,38,39] g noFr 37=h2 at hw
  generalize ovr [34,37,38,39] g noFr 39=cv2 at hw
  rw [List.append_nil,hT,show hdrs hc++hdrs [h2]=hdrs (hc++[h2]) by simp [hdrs],rep_row] at hw
  obtain ⟨ca2,cn2,cc2,hcv2,hcn2,hcc2, -⟩:=hw.own_shape (i:=3) rfl
  subst hcv2
  clear hT
  have hw:=inn_snoc (A:=[.blk b6 (.cells #[.slice da2 dn2 dc2,.slice ca2 cn2 cc2] 129),.own (.slice da2 dn2 dc2) 29 1 (hdrs hd2),.own (.slice ca2 cn2 cc2) 29 1 (hdrs (hc++[h2])),.blk b4 (.cells #[.slice none 0 0,.slice none 0 0] 129)]) (hs:=hc) (M:=mat u (n+1) (freeC n cap x)) (S:=inn 3 1 (innM hd2 (mat (u+1) (n+1) (fun _ _=>-1)))++S) (by rw [mat_len];exact hhc) hw
  rw [show (fun _:Nat=>(1152921504606846976:Int))=fun _=>farV from rfl,cst_row] at hw
  have hhc2:(hc++[h2]).length=u+1:=by simp [hhc]
  generalize hc++[h2]=hc2 at *
  have hw:Wd Γ (.blk b6 (.cells #[.slice da2 dn2 dc2,.slice ca2 cn2 cc2] 129)::.own (.slice da2 dn2 dc2) 29 1 (hdrs hd2)::.own (.slice ca2 cn2 cc2) 29 1 (hdrs hc2)::.blk b4 (.cells #[.slice none 0 0,.slice none 0 0] 129)::(inn 3 1 (innM hc2 (mat (u+1) (n+1) (cstC n cap x u 0)))++(inn 3 1 (innM hd2 (mat (u+1) (n+1) (fun _ _=>-1)))++S))) w:=hw
  have hdn3:dn2=u+1:=by simpa [hdrs,hhd2] using hdn2
  have hcn3:cn2=u+1:=by simpa [hdrs,hhc2] using hcn2
  repeat (first | refine byW ?_ | (refine byV ?_;intro w hw))
  refine W_loop (fun μ2 ρ w=>∃ v:Nat,μ2+v=n+1∧Has ρ [(0,.pointer (some ⟨bA,0,none⟩)),(1,.int .i64 first),(4,.pointer (some ⟨b4,0,none⟩)),(5,.int .i64 n),(6,.pointer (some ⟨b6,0,none⟩)),(7,.int .i64 u),(19,.int .i64 ((n:Int)+1)),(20,.int .i64 u),(42,.int .i64 ((n:Int)+1)),(43,.int .i64 v)]∧Wd Γ (.blk b6 (.cells #[.slice da2 dn2 dc2,.slice ca2 cn2 cc2] 129)::.own (.slice da2 dn2 dc2) 29 1 (hdrs hd2)::.own (.slice ca2 cn2 cc2) 29 1 (hdrs hc2)::.blk b4 (.cells #[.slice none 0 0,.slice none 0 0] 129)::(inn 3 1 (innM hc2 (mat (u+1) (n+1) (cstC n cap x u v)))++(inn 3 1 (innM hd2 (mat (u+1) (n+1) (fun _ _=>-1)))++S))) w) (n+1) ⟨0,by omega,⟨rfl,rfl,rfl,rfl,rfl,rfl,rfl,rfl,rfl,rfl,trivial⟩,hw⟩ ?_
  clear hw
  rintro μ2 ρ w ⟨v,hμ2,hρ,hw⟩
  rw [hρ.eq]
  clear hρ
  repeat (first | refine byW ?_ | (refine byV ?_;intro w hw))
  refine W_cond rfl (fun h=>?_) (fun h=>?_)
  ·have hvn:v < n+1:=by have:=of_decide_eq_true h;omega
   clear h
   repeat (first | refine byW ?_ | (refine byV ?_;intro w hw))
   refine W_quiet (by kernel_rfl) (by kernel_rfl) hw ?_
   repeat (first | refine Q_nil ?_ | (apply Q_plain;first | (apply Q_go;first | refine qP ?_ | refine qPg ?_) | refine qY ?_) | (apply Q_guarded;first | (apply Q_go;first | refine qPG ?_ | refine qPgG ?_) | refine qG ?_))
   refine qG (v:=.slice la n lc) ?_ (hy:=fun hc w hw=>y_l1m hw (gvT hc rfl) rfl)
   repeat (first | refine Q_nil ?_ | (apply Q_plain;first | (apply Q_go;first | refine qP ?_ | refine qPg ?_) | refine qY ?_) | (apply Q_guarded;first | (apply Q_go;first | refine qPG ?_ | refine qPgG ?_) | refine qG ?_))
   refine qG (v:=.int .i64 (x.count (u:Int):Nat)) ?_ (hy:=fun hc w hw=>y_loadE1 (gvT hc rfl) (rl.rd hw) (hcl u (by simp only [Bool.and_eq_true,decide_eq_true_eq] at hc;omega)))
   repeat (first | refine Q_nil ?_ | (apply Q_plain;first | (apply Q_go;first | refine qP ?_ | refine qPg ?_) | refine qY ?_) | (apply Q_guarded;first | (apply Q_go;first | refine qPG ?_ | refine qPgG ?_) | refine qG ?_))
   refine qG (v:=.int .i64 cap) ?_ (hy:=fun hc w hw=>y_l1m hw (gvT hc rfl) rfl)
   repeat (first | refine Q_nil ?_ | (apply Q_plain;first | (apply Q_go;first | refine qP ?_ | refine qPg ?_) | refine qY ?_) | (apply Q_guarded;first | (apply Q_go;first | refine qPG ?_ | refine qPgG ?_) | refine qG ?_))
   refine qG (v:=.slice la n lc) ?_ (hy:=fun hc w hw=>y_l1m hw (gvT hc rfl) rfl)
   repeat (first | refine Q_nil ?_ | (apply Q_plain;first | (apply Q_go;first | refine qP ?_ | refine qPg ?_) | refine qY ?_) | (apply Q_guarded;first | (apply Q_go;first | refine qPG ?_ | refine qPgG ?_) | refine qG ?_))
   refine qG (v:=.int .i64 (x.count (v:Int):Nat)) ?_ (hy:=fun hc w hw=>y_loadE1 (gvT hc rfl) (rl.rd hw) (hcl v (by simp only [Bool.and_eq_true,decide_eq_true_eq] at hc;omega)))
   repeat (first | refine Q_nil ?_ | (apply Q_plain;first | (apply Q_go;first | refine qP ?_ | refine qPg ?_) | refine qY ?_) | (apply Q_guarded;first | (apply Q_go;first | refine qPG ?_ | refine qPgG ?_) | refine qG ?_))
   intro w hw
   repeat (first | refine byW ?_ | (refine byV ?_;intro w hw))
   refine W_cond rfl (fun h=>?_) (fun h=>?_)
   ·have hfz:freeC n cap x u v=0:=by
     unfold freeC
     simp only [Bool.or_eq_true,Bool.and_eq_true,decide_eq_true_eq] at h
     rw [if_pos (by omega)]
    clear h
    obtain ⟨hh,hhh⟩:=get_lt (l:=hc2) (k:=u) (by omega)
    have hop:=row_open (A:=[.blk b6 (.cells #[.slice da2 dn2 dc2,.slice ca2 cn2 cc2] 129),.own (.slice da2 dn2 dc2) 29 1 (hdrs hd2),.own (.slice ca2 cn2 cc2) 29 1 (hdrs hc2),.blk b4 (.cells #[.slice none 0 0,.slice none 0 0] 129)]) hhh (show u < u+1 by omega) hw
    obtain ⟨ha,hn',hc',rfl,hen, -, -⟩:=hop.own_shape (i:=0) rfl
    simp only [intRows,List.length_map,rowN_len] at hen
    clear hw
    have hw:Wd Γ (.own (.slice ha hn' hc') 3 1 (intRows (rowN (n+1) (cstC n cap x u v u)))::.blk b6 (.cells #[.slice da2 dn2 dc2,.slice ca2 cn2 cc2] 129)::.own (.slice da2 dn2 dc2) 29 1 (hdrs hd2)::.own (.slice ca2 cn2 cc2) 29 1 (hdrs hc2)::.blk b4 (.cells #[.slice none 0 0,.slice none 0 0] 129)::(inn 3 1 ((innM hc2 (mat (u+1) (n+1) (cstC n cap x u v))).eraseIdx u)++(inn 3 1 (innM hd2 (mat (u+1) (n+1) (fun _ _=>-1)))++S))) w:=hop
    clear hop
    repeat (first | refine byW ?_ | (refine byV ?_;intro w hw))
    refine lStoreE (k:=v) (v:=.int .i64 0) ?_
    intro w hw
    have hw:=row_close (A:=[.blk b6 (.cells #[.slice da2 dn2 dc2,.slice ca2 cn2 cc2] 129),.own (.slice da2 dn2 dc2) 29 1 (hdrs hd2),.own (.slice ca2 cn2 cc2) 29 1 (hdrs hc2),.blk b4 (.cells #[.slice none 0 0,.slice none 0 0] 129)]) hhh (show u < u+1 by omega) hhc2 hw
    rw [cst_zero hfz] at hw
    repeat (first | refine byW ?_ | (refine byV ?_;intro w hw))
    exact ⟨n - v,by omega,v+1,by omega,⟨rfl,rfl,rfl,rfl,rfl,rfl,rfl,rfl,rfl,rfl,trivial⟩,hw⟩
   ·have hfz:freeC n cap x u v=farV:=by
     unfold freeC
     simp only [Bool.or_eq_false_iff,Bool.and_eq_false_iff,decide_eq_false_iff_not] at h
     rw [if_neg (by omega)]
    clear h
    rw [cst_pass hfz] at hw
    repeat (first | refine byW ?_ | (refine byV ?_;intro w hw))
    exact ⟨n - v,by omega,v+1,by omega,⟨rfl,rfl,rfl,rfl,rfl,rfl,rfl,rfl,rfl,rfl,trivial⟩,hw⟩
  ·have hv:v=n+1:=by have:=of_decide_eq_false h;omega
   clear h
   repeat (first | refine byW ?_ | (refine byV ?_;intro w hw))
   refine ⟨n - u,by omega,u+1,.slice da2 dn2 dc2,.slice ca2 cn2 cc2,hd2,hc2,by omega,hhd2,hhc2,⟨rfl,rfl,rfl,rfl,rfl,rfl,rfl,trivial⟩,?_⟩
   subst hv
   rw [cst_end] at hw
   exact hw
 ·have hun:u=n+1:=by have:=of_decide_eq_false h;omega
  clear h
  subst hun
  have hdn:dn=n+1:=by omega
  have hcn:cn=n+1:=by omega
  subst hdn hcn
  repeat (first | refine byW ?_ | (refine byV ?_;intro w hw))
  refine W_loop (fun μ2 ρ w=>∃ (d:Nat) (W V:Nat→Nat→Int),μ2+d=x.length∧first≤d∧GP n cap first (aF A) x d 0 W V∧Has ρ [(0,.pointer (some ⟨bA,0,none⟩)),(1,.int .i64 first),(4,.pointer (some ⟨b4,0,none⟩)),(5,.int .i64 n),(6,.pointer (some ⟨b6,0,none⟩)),(9,.int .i64 d)]∧Wd Γ (.blk b6 (.cells #[.slice da (n+1) dc,.slice ca (n+1) cc] 129)::.own (.slice da (n+1) dc) 29 1 (hdrs hd)::.own (.slice ca (n+1) cc) 29 1 (hdrs hc)::.blk b4 (.cells #[.slice none 0 0,.slice none 0 0] 129)::(inn 3 1 (innM hc (mat (n+1) (n+1) W))++(inn 3 1 (innM hd (mat (n+1) (n+1) V))++S))) w) (x.length - first) ⟨first,_,_,by omega,Nat.le_refl _,GP.start,⟨rfl,rfl,rfl,rfl,rfl,rfl,trivial⟩,hw⟩ ?_
  clear hw
  rintro μ2 ρ w ⟨d,W,V,hμ2,hfd,hG,hρ,hw⟩
  rw [hρ.eq]
  clear hρ
  repeat (first | refine byW ?_ | (refine byV ?_;intro w hw))
  refine lY (v:=.slice xa xn xc) ?_ (hy:=y_l1m hw rfl rfl)
  repeat (first | refine byW ?_ | (refine byV ?_;intro w hw))
  refine W_cond rfl (fun h=>?_) (fun h=>?_)
  ·have hdl:d < x.length:=by have:=of_decide_eq_true h;omega
   clear h
   obtain ⟨z,hz⟩:=get_lt (l:=x) (k:=d) hdl
   have hzx:=hx z (List.mem_of_getElem? hz)
   have hza:atI x d=z:=by unfold atI;rw [List.getD_eq_getElem?_getD,hz];rfl
   have hzr:(intRows x)[d]? = some [.int .i64 z]:=by unfold intRows;rw [List.getElem?_map,hz];rfl
   repeat (first | refine byW ?_ | (refine byV ?_;intro w hw))
   refine lY (v:=.slice xa xn xc) ?_ (hy:=y_l1m hw rfl rfl)
   repeat (first | refine byW ?_ | (refine byV ?_;intro w hw))
   refine W_cond rfl (fun h=>?_) (fun h=>?_)
   ·have hz0:z < 0:=of_decide_eq_true h
    clear h
    repeat (first | refine byW ?_ | (refine byV ?_;intro w hw))
    exact ⟨x.length - d - 1,by omega,d+1,W,V,by omega,by omega,hG.pass (by omega),⟨rfl,rfl,rfl,rfl,rfl,rfl,trivial⟩,hw⟩
   have hz0:0≤z:=by have:=of_decide_eq_false h;omega
   clear h
   obtain ⟨u,rfl⟩:∃ u:Nat,z=u:=⟨z.toNat,by omega⟩
   have hun:u < n:=by omega
   obtain ⟨r,hr,hrl,hrc⟩:=hC.get (i:=d) (by omega)
   obtain ⟨ra,rn,rc,hs,hrn,rr,rh,hru⟩:=hM.at hr
   have hvn:=hM.row.1
   have hrn:n=rn:=by omega
   subst hrn
   repeat (first | refine byW ?_ | (refine byV ?_;intro w hw))
   refine lY (v:=.slice va vn vc) ?_ (hy:=y_l1m hw rfl rfl)
   repeat (first | refine byW ?_ | (refine byV ?_;intro w hw))
   refine lY (v:=.slice ra n rc) ?_ (hy:=y_loadE1 rfl (rh.rd hw) hru)
   repeat (first | refine byW ?_ | (refine byV ?_;intro w hw))
   refine W_loop (fun μ3 ρ w=>∃ (j:Nat) (W V:Nat→Nat→Int),μ3+j=n∧GP n cap first (aF A) x d j W V∧Has ρ [(0,.pointer (some ⟨bA,0,none⟩)),(1,.int .i64 first),(4,.pointer (some ⟨b4,0,none⟩)),(5,.int .i64 n),(6,.pointer (some ⟨b6,0,none⟩)),(9,.int .i64 d),(10,.int .i64 u),(122,.slice ra n rc),(123,.int .i64 n),(124,.int .i64 j)]∧Wd Γ (.blk b6 (.cells #[.slice da (n+1) dc,.slice ca (n+1) cc] 129)::.own (.slice da (n+1) dc) 29 1 (hdrs hd)::.own (.slice ca (n+1) cc) 29 1 (hdrs hc)::.blk b4 (.cells #[.slice none 0 0,.slice none 0 0] 129)::(inn 3 1 (innM hc (mat (n+1) (n+1) W))++(inn 3 1 (innM hd (mat (n+1) (n+1) V))++S))) w) n ⟨0,W,V,by omega,hG,⟨rfl,rfl,rfl,rfl,rfl,rfl,rfl,rfl,rfl,rfl,trivial⟩,hw⟩ ?_
   clear hw hG W V
   rintro μ3 ρ w ⟨j,W,V,hμ3,hG,hρ,hw⟩
   rw [hρ.eq]
   clear hρ
   repeat (first | refine byW ?_ | (refine byV ?_;intro w hw))
   refine W_cond rfl (fun h=>?_) (fun h=>?_)
   ·have hjn:j < n:=by have:=of_decide_eq_true h;omega
    clear h
    obtain ⟨hcj,hcj1,hcj2⟩:=hrc j hjn
    obtain ⟨hcu,hcu1,hcu2⟩:=hrc u hun
    obtain ⟨p,hp⟩:∃ p,p=aF A d j:=⟨_,rfl⟩
    obtain ⟨q,hq⟩:∃ q,q=aF A d u:=⟨_,rfl⟩
    rw [← hp] at hcj hcj1 hcj2
    rw [← hq] at hcu hcu1 hcu2
    have hej:(intRows r)[j]? = some [.int .i64 p]:=by unfold intRows;rw [List.getElem?_map,hcj];rfl
    have heu:(intRows r)[u]? = some [.int .i64 q]:=by unfold intRows;rw [List.getElem?_map,hcu];rfl
    have hpq:IntKind.i64.wrap (p - q)=p - q:=wrap_i64 (by omega) (by omega)
    repeat (first | refine byW ?_ | (refine byV ?_;intro w hw))
    have hdv:d < vn:=by omega
    obtain ⟨hh,hhh⟩:=get_lt (l:=hc) (k:=u) (by omega)
    have hop:=row_open (A:=[.blk b6 (.cells #[.slice da (n+1) dc,.slice ca (n+1) cc] 129),.own (.slice da (n+1) dc) 29 1 (hdrs hd),.own (.slice ca (n+1) cc) 29 1 (hdrs hc),.blk b4 (.cells #[.slice none 0 0,.slice none 0 0] 129)]) hhh (show u < n+1 by omega) hw
    obtain ⟨ha,hn',hc',rfl,hen, -, -⟩:=hop.own_shape (i:=0) rfl
    simp only [intRows,List.length_map,rowN_len] at hen
    subst hen
    clear hw
    have hw:Wd Γ (.own (.slice ha (n+1) hc') 3 1 (intRows (rowN (n+1) (W u)))::.blk b6 (.cells #[.slice da (n+1) dc,.slice ca (n+1) cc] 129)::.own (.slice da (n+1) dc) 29 1 (hdrs hd)::.own (.slice ca (n+1) cc) 29 1 (hdrs hc)::.blk b4 (.cells #[.slice none 0 0,.slice none 0 0] 129)::(inn 3 1 ((innM hc (mat (n+1) (n+1) W)).eraseIdx u)++(inn 3 1 (innM hd (mat (n+1) (n+1) V))++S))) w:=hop
    clear hop
    have hwu:(intRows (rowN (n+1) (W u)))[j]? = some [.int .i64 (W u j)]:=by unfold intRows;rw [List.getElem?_map,rowN_get (by omega)];rfl
    refine W_quiet (by kernel_rfl) (by kernel_rfl) hw ?_
    repeat (first | refine Q_nil ?_ | (apply Q_plain;first | (apply Q_go;first | refine qP ?_ | refine qPg ?_) | refine qY ?_) | (apply Q_guarded;first | (apply Q_go;first | refine qPG ?_ | refine qPgG ?_) | refine qG ?_))
    refine qG (v:=.slice va vn vc) ?_ (hy:=fun hg w hw=>y_l1m hw (gvT hg rfl) rfl)
    repeat (first | refine Q_nil ?_ | (apply Q_plain;first | (apply Q_go;first | refine qP ?_ | refine qPg ?_) | refine qY ?_) | (apply Q_guarded;first | (apply Q_go;first | refine qPG ?_ | refine qPgG ?_) | refine qG ?_))
    refine qG (v:=.pointer (some ⟨aB va,aO va+d * 1,none⟩)) ?_ (hy:=fun hg w hw=>y_idxI (i:=(d:Int)) hw rh (gvT hg rfl) (gvT hg rfl) (by omega) (by omega))
    repeat (first | refine Q_nil ?_ | (apply Q_plain;first | (apply Q_go;first | refine qP ?_ | refine qPg ?_) | refine qY ?_) | (apply Q_guarded;first | (apply Q_go;first | refine qPG ?_ | refine qPgG ?_) | refine qG ?_))
    refine qG (v:=.slice ra n rc) ?_ (hy:=fun hg w hw=>y_loadE1 (gvT hg rfl) (rh.rd hw) hru)
    repeat (first | refine Q_nil ?_ | (apply Q_plain;first | (apply Q_go;first | refine qP ?_ | refine qPg ?_) | refine qY ?_) | (apply Q_guarded;first | (apply Q_go;first | refine qPG ?_ | refine qPgG ?_) | refine qG ?_))
    refine qG (v:=.int .i64 (W u j)) ?_ (hy:=fun hg w hw=>y_loadE1 (gvT hg rfl) (hw.own_rd (i:=0) rfl) hwu)
    repeat (first | refine Q_nil ?_ | (apply Q_plain;first | (apply Q_go;first | refine qP ?_ | refine qPg ?_) | refine qY ?_) | (apply Q_guarded;first | (apply Q_go;first | refine qPG ?_ | refine qPgG ?_) | refine qG ?_))
    intro w hw
    repeat (first | refine byW ?_ | (refine byV ?_;intro w hw))
    refine W_cond rfl (fun h=>?_) (fun h=>?_)
    ·simp only [Bool.and_eq_true,decide_eq_true_eq] at h
     have huj:u≠j:=by omega
     have hlt:=h.2
     clear h
     obtain ⟨hh2,hhh2⟩:=get_lt (l:=hd) (k:=u) (by omega)
     obtain ⟨IE,hIE⟩:∃ T,T=inn 3 1 ((innM hc (mat (n+1) (n+1) W)).eraseIdx u):=⟨_,rfl⟩
     obtain ⟨IV,hIV⟩:∃ T,T=inn 3 1 ((innM hd (mat (n+1) (n+1) V)).eraseIdx u):=⟨_,rfl⟩
     rw [← hIE] at hw
     have hop:=row_open (A:=[.own (.slice ha (n+1) hc') 3 1 (intRows (rowN (n+1) (W u))),.blk b6 (.cells #[.slice da (n+1) dc,.slice ca (n+1) cc] 129),.own (.slice da (n+1) dc) 29 1 (hdrs hd),.own (.slice ca (n+1) cc) 29 1 (hdrs hc),.blk b4 (.cells #[.slice none 0 0,.slice none 0 0] 129)]++IE) (S:=S) hhh2 (show u < n+1 by omega) (by rw [List.append_assoc];exact hw)
     rw [← hIV,List.append_assoc] at hop
     obtain ⟨ga,gn,gc,rfl,hgn, -, -⟩:=hop.own_shape (i:=0) rfl
     simp only [intRows,List.length_map,rowN_len] at hgn
     subst hgn
     clear hw
     have hw:Wd Γ ((.blk b6 (.cells #[.slice da (n+1) dc,.slice ca (n+1) cc] 129)::.own (.slice da (n+1) dc) 29 1 (hdrs hd)::.own (.slice ca (n+1) cc) 29 1 (hdrs hc)::.blk b4 (.cells #[.slice none 0 0,.slice none 0 0] 129)::(IE++(IV++S)))++[.own (.slice ga (n+1) gc) 3 1 (intRows (rowN (n+1) (V u))),.own (.slice ha (n+1) hc') 3 1 (intRows (rowN (n+1) (W u)))]) w:=hop.perm (List.perm_append_comm (l₁:=[_,_]))
     clear hop
     refine W_mixed (.blk b6 (.cells #[.slice da (n+1) dc,.slice ca (n+1) cc] 129)::.own (.slice da (n+1) dc) 29 1 (hdrs hd)::.own (.slice ca (n+1) cc) 29 1 (hdrs hc)::.blk b4 (.cells #[.slice none 0 0,.slice none 0 0] 129)::(IE++(IV++S))) [fun _=>[.own (.slice ga (n+1) gc) 3 1 (intRows (rowN (n+1) (V u)))],fun _=>[.own (.slice ha (n+1) hc') 3 1 (intRows (rowN (n+1) (W u)))]] [[],[],[],[],[],[],[],[],[],[],[],[],[],[],[],[],[],[],[],[],[],[],[],[],[],[],[0],[],[1]] [[],[],[],[],[],[],[],[],[],[],[],[],[],[],[],[],[],[],[],[],[],[],[],[],[],[0],[0],[1],[1]] [[],[]] hw ?_
     repeat (first | refine mY ?_ | refine mP ?_ | refine mPg ?_)
     refine mY (v:=.slice va vn vc) ?_ (hy:=fun Y w g hw=>y_l1m hw rfl rfl)
     repeat (first | refine mY ?_ | refine mP ?_ | refine mPg ?_)
     refine mY (v:=.slice ra n rc) ?_ (hy:=fun Y w g hw=>y_loadE1 rfl (rh.rd hw) hru)
     repeat (first | refine mY ?_ | refine mP ?_ | refine mPg ?_)
     refine mY (v:=.pointer (some ⟨aB ga,aO ga+j * 1,none⟩)) ?_ (hy:=fun Y w g hw=>y_idxO (j:=0) (i:=(j:Int)) hw.swapApp rfl rfl rfl (by omega) (by omega))
     refine mS (c:=0) (v:=undef) (F:=fun _=>[.own (.slice ga (n+1) gc) 3 1 (intRows (rowN (n+1) (V u)))]) (fun _=>[.own (.slice ga (n+1) gc) 3 1 ((intRows (rowN (n+1) (V u))).set j [.int .i64 d])]) (fun g w Y hw=>s_storeE (i:=0) (k:=j) (r:=[.int .i64 d]) (TSz.h (P:=Tryz.prog) (T:=3)) hw rfl rfl rfl rfl rfl rfl (by omega) fun w' hw'=>⟨fun _=>rfl,hw'⟩) ?_
     refine mY (v:=.pointer (some ⟨aB ha,aO ha+j * 1,none⟩)) ?_ (hy:=fun Y w g hw=>y_idxO (j:=0) (i:=(j:Int)) hw.swapApp rfl rfl rfl (by omega) (by omega))
     refine mS (c:=1) (v:=undef) (F:=fun _=>[.own (.slice ha (n+1) hc') 3 1 (intRows (rowN (n+1) (W u)))]) (fun _=>[.own (.slice ha (n+1) hc') 3 1 ((intRows (rowN (n+1) (W u))).set j [.int .i64 (p - q)])]) (fun g w Y hw=>s_storeE (i:=0) (k:=j) (r:=[.int .i64 (p - q)]) (TSz.h (P:=Tryz.prog) (T:=3)) hw rfl rfl rfl rfl rfl rfl (by omega) fun w' hw'=>⟨fun _=>rfl,hw'⟩) ?_
     refine mEnd fun w g hw=>?_
     have hw:Wd Γ ((.blk b6 (.cells #[.slice da (n+1) dc,.slice ca (n+1) cc] 129)::.own (.slice da (n+1) dc) 29 1 (hdrs hd)::.own (.slice ca (n+1) cc) 29 1 (hdrs hc)::.blk b4 (.cells #[.slice none 0 0,.slice none 0 0] 129)::(IE++(IV++S)))++[.own (.slice ga (n+1) gc) 3 1 ((intRows (rowN (n+1) (V u))).set j [.int .i64 d]),.own (.slice ha (n+1) hc') 3 1 ((intRows (rowN (n+1) (W u))).set j [.int .i64 (p - q)])]) w:=hw
     have hw:=hw.perm (List.perm_append_comm (l₂:=[_,_]))
     rw [hIV] at hw
     have hw:=row_close (A:=[.own (.slice ha (n+1) hc') 3 1 ((intRows (rowN (n+1) (W u))).set j [.int .i64 (p - q)]),.blk b6 (.cells #[.slice da (n+1) dc,.slice ca (n+1) cc] 129),.own (.slice da (n+1) dc) 29 1 (hdrs hd),.own (.slice ca (n+1) cc) 29 1 (hdrs hc),.blk b4 (.cells #[.slice none 0 0,.slice none 0 0] 129)]++IE) (S:=S) hhh2 (show u < n+1 by omega) hhd (by rw [List.append_assoc];exact hw)
     rw [List.append_assoc,hIE] at hw
     have hw:=row_close (A:=[.blk b6 (.cells #[.slice da (n+1) dc,.slice ca (n+1) cc] 129),.own (.slice da (n+1) dc) 29 1 (hdrs hd),.own (.slice ca (n+1) cc) 29 1 (hdrs hc),.blk b4 (.cells #[.slice none 0 0,.slice none 0 0] 129)]) hhh (show u < n+1 by omega) hhc hw
     repeat (first | refine byW ?_ | (refine byV ?_;intro w hw))
     refine ⟨n - j - 1,by omega,j+1,updN W u j (p - q),updN V u j d,by omega,?_,⟨rfl,rfl,rfl,rfl,rfl,rfl,rfl,rfl,rfl,rfl,trivial⟩,hw⟩
     rw [hp,hq] at hlt ⊢
     exact hG.take hfd hdl hza hun hjn ⟨huj,hlt⟩
    ·have hsk:¬ (u≠j∧p - q < W u j):=by
      simp only [Bool.and_eq_false_iff,decide_eq_false_iff_not] at h
      omega
     clear h
     have hw:=row_back (A:=[.blk b6 (.cells #[.slice da (n+1) dc,.slice ca (n+1) cc] 129),.own (.slice da (n+1) dc) 29 1 (hdrs hd),.own (.slice ca (n+1) cc) 29 1 (hdrs hc),.blk b4 (.cells #[.slice none 0 0,.slice none 0 0] 129)]) hhh (show u < n+1 by omega) hw
     repeat (first | refine byW ?_ | (refine byV ?_;intro w hw))
     refine ⟨n - j - 1,by omega,j+1,W,V,by omega,?_,⟨rfl,rfl,rfl,rfl,rfl,rfl,rfl,rfl,rfl,rfl,trivial⟩,hw⟩
     rw [hp,hq] at hsk
     exact hG.skip hza hsk
   ·have hjn:j=n:=by have:=of_decide_eq_false h;omega
    clear h
    rw [hjn] at hG
    repeat (first | refine byW ?_ | (refine byV ?_;intro w hw))
    exact ⟨x.length - d - 1,by omega,d+1,W,V,by omega,by omega,hG.row,⟨rfl,rfl,rfl,rfl,rfl,rfl,trivial⟩,hw⟩
  ·have hdl:d=x.length:=by have:=of_decide_eq_false h;omega
   clear h
   subst hdl
   repeat (first | refine byW ?_ | (refine byV ?_;intro w hw))
   refine lStore ?_
   intro w hw
   repeat (first | refine byW ?_ | (refine byV ?_;intro w hw))
   exact ⟨[.agg #[.slice da (n+1) dc,.slice ca (n+1) cc]],⟨resC (i:=3) hw rfl rfl rfl,trivial⟩,.slice da (n+1) dc,.slice ca (n+1) cc,hd,hc,W,V,rfl,hhd,hhc,hG,hw.ds [0,2]⟩
end Go.Proofs.YthgighljhoneeaaGreatDoor
end
section
open Go Mk
namespace Go.Proofs.YthgighljhoneeaaGreatDoor
set_option maxHeartbeats 64000000
attribute [local irreducible] Calls
theorem rowN_setN {N v:Nat} {c:Nat→Int} {z:Int}:(rowN N c).set v z=rowN N (setN c v z):=by
 have h:=rowN_set (N:=N) (C:=fun _=>c) (u:=0) (v:=v) (z:=z)
 rw [h]
 exact rowN_congr fun k _=>by unfold updN setN;by_cases e:k=v <;> simp [e]
theorem rowI_set {N v:Nat} {c:Nat→Int} {z:Int}:(intRows (rowN N c)).set v [.int .i64 z]=intRows (rowN N (setN c v z)):=by
 rw [← rowN_setN];unfold intRows;rw [List.map_set]
theorem rowI_get {N v:Nat} {c:Nat→Int} (h:v < N):(intRows (rowN N c))[v]? = some [.int .i64 (c v)]:=by unfold intRows;rw [List.getElem?_map,rowN_get h];rfl
def sumD (n:Nat) (low D:Nat→Int):Nat:=((List.range (n+1)).map fun v=>(D v - low v).toNat).sum
theorem sum_lt_of {l:List Nat} {f g:Nat→Nat} (h:∀ i∈l,f i≤g i) {k:Nat} (hk:k∈l) (hlt:f k < g k):(l.map f).sum < (l.map g).sum:=by
  induction l with
  | nil=>cases hk
  | cons a t ih=>
    simp only [List.map_cons,List.sum_cons]
    have ha:=h a List.mem_cons_self
    have ht:(t.map f).sum≤(t.map g).sum:=by
      clear ih hk hlt ha
      have h:∀ i∈t,f i≤g i:=fun i hi=>h i (List.mem_cons_of_mem _ hi)
      induction t with
      | nil=>exact Nat.le_refl _
      | cons b t ih=>
        simp only [List.map_cons,List.sum_cons]
        have h1:=h b List.mem_cons_self
        have h2:=ih (fun i hi=>by
          rcases List.mem_cons.1 hi with e | e
          · subst e;exact (by assumption:∀ i∈_,f i≤g i) i List.mem_cons_self
          · exact h i (List.mem_cons_of_mem _ e)) (fun i hi=>h i (List.mem_cons_of_mem _ hi))
        omega
    rcases List.mem_cons.1 hk with e | e
    · subst e;omega
    · have:=ih (fun i hi=>h i (List.mem_cons_of_mem _ hi)) e
      omega
theorem sumD_set {n v:Nat} {low D:Nat→Int} {z:Int} (hv:v≤n) (h1:low v≤z) (h2:z < D v):sumD n low (setN D v z) < sumD n low D:=by
 unfold sumD
 refine sum_lt_of (k:=v) (fun i _=>?_) (by simp;omega) ?_
 ·unfold setN;split
  ·rename_i e;subst e;omega
  ·exact Nat.le_refl _
 ·unfold setN;rw [if_pos rfl];omega
structure SW (n:Nat) (W:Nat→Nat→Int) (φ:Nat→Int) (s S0 u v:Nat) (b:Bool) (D R:Nat→Int):Prop where
 pi:PI n W φ s D R
 le:sumD n (fun v=>φ v - φ s) D≤S0
 got:b=true→sumD n (fun v=>φ v - φ s) D < S0
 tri:b=false→∀ p q,p≤n→q≤n→(p < u∨(p=u∧q < v))→D p < farV→W p q < farV→D q≤D p+W p q
section
variable {n s S0 u v:Nat} {W:Nat→Nat→Int} {φ D R:Nat→Int} {b:Bool}
theorem SW.start (h:PI n W φ s D R):SW n W φ s (sumD n (fun v=>φ v - φ s) D) 0 0 false D R:=⟨h,Nat.le_refl _,fun e=>by simp at e,fun _ p q _ _ hh=>by omega⟩
theorem SW.skip (h:SW n W φ s S0 u v b D R) (hc:¬ (D u < farV∧W u v < farV∧D u+W u v < D v)):SW n W φ s S0 u (v+1) b D R:=
 ⟨h.pi,h.le,h.got,fun e p q hp hq hh h1 h2=>by
  by_cases ee:p=u∧q=v
  ·obtain ⟨rfl,rfl⟩:=ee;omega
  ·exact h.tri e p q hp hq (by omega) h1 h2⟩
theorem SW.take (hφ:PotG n W φ) (h:SW n W φ s S0 u v b D R) (hs:s≤n) (hu:u≤n) (hv:v≤n) (h1:D u < farV) (h2:W u v < farV) (h3:D u+W u v < D v) :
  SW n W φ s S0 u (v+1) true (setN D v (D u+W u v)) (setN R v u):=by
 have hr:=h.pi.relax hφ hs hu hv h1 h2 h3
 have hlow:=hr.low v hv (by unfold setN;rw [if_pos rfl];have:=h.pi.far v hv;omega)
 have hl:sumD n (fun v=>φ v - φ s) (setN D v (D u+W u v)) < sumD n (fun v=>φ v - φ s) D:=sumD_set hv (by simpa [setN] using hlow) h3
 have:=h.le
 exact ⟨hr,by omega,fun _=>by omega,fun e=>by cases e⟩
theorem SW.row (h:SW n W φ s S0 u (n+1) b D R):SW n W φ s S0 (u+1) 0 b D R:=
 ⟨h.pi,h.le,h.got,fun e p q hp hq hh h1 h2=>h.tri e p q hp hq (by omega) h1 h2⟩
theorem SW.done (h:SW n W φ s S0 (n+1) 0 b D R):2 * sumD n (fun v=>φ v - φ s) D+b.toNat < 2 * S0+1:=by
 have:=h.le
 cases b with
 | false=>simp;omega
 | true=>have:=h.got rfl;simp;omega
theorem SW.paths (h:SW n W φ s S0 (n+1) 0 false D R):PathsOk n W s D R:=⟨h.pi.src,h.pi.far,fun p q hp hq h1 h2=>h.tri rfl p q hp hq (by omega) h1 h2,h.pi.back⟩
end
set_option maxRecDepth 8000 in
theorem paths_core {Γ:Gho} {n s:Nat} {W:Nat→Nat→Int} {φ:Nat→Int} {da ca:Option Addr} {dn dc cc:Nat} (hM:MatF Γ (.slice ca (n+1) cc) (mat (n+1) (n+1) W)) (hn:n≤64) (hs:s≤n) (hφ:PotG n W φ)
  (hb:∀ v,v≤n→-1152921504606846976≤φ v - φ s) {S:List Res} {w:World} (hw:Wd Γ S w) :
  Calls Tryz.prog 85 #[.agg #[.slice da dn dc,.slice ca (n+1) cc],.int .i64 (s:Nat)] w fun e w'=>∃ (a4 a5:Addr) (D R:Nat→Int),e=.returned (.tuple #[.slice (some a4) (n+1) (n+1),.slice (some a5) (n+1) (n+1)])∧PathsOk n W s D R∧(∀ v,v≤n→D v < farV→φ v - φ s≤D v) ∧
   Wd Γ (.own (.slice (some a5) (n+1) (n+1)) 3 1 (intRows (rowN (n+1) R))::.own (.slice (some a4) (n+1) (n+1)) 3 1 (intRows (rowN (n+1) D))::S) w':=by
 refine calls_of_WC Tryz.func85 rfl rfl ?_
 repeat (first | refine byW ?_ | (refine byV ?_;intro w hw))
 refine lBox ?_
 intro b2 w hw
 have hw:Wd Γ (.blk b2 (.cells #[.slice da dn dc,.slice ca (n+1) cc] 129)::S) w:=hw
 repeat (first | refine byW ?_ | (refine byV ?_;intro w hw))
 refine lBuildSlice (intRows [1152921504606846976]) ?_
 intro a1 w hw
 repeat (first | refine byW ?_ | (refine byV ?_;intro w hw))
 refine lCall ?_
 refine (repeat_any (k:=n+1) ⟨by omega,by omega⟩ hw).mono fun e w hq=>?_
 obtain ⟨a4,rfl,hw⟩:=hq
 refine ⟨_,rfl,?_⟩
 have hw:=hw.ds [1]
 repeat (first | refine byW ?_ | (refine byV ?_;intro w hw))
 refine lBuildSlice (intRows [-1]) ?_
 intro a1 w hw
 repeat (first | refine byW ?_ | (refine byV ?_;intro w hw))
 refine lCall ?_
 refine (repeat_any (k:=n+1) ⟨by omega,by omega⟩ hw).mono fun e w hq=>?_
 obtain ⟨a5,rfl,hw⟩:=hq
 refine ⟨_,rfl,?_⟩
 have hw:=hw.ds [1]
 rw [rep_row,rep_row] at hw
 repeat (first | refine byW ?_ | (refine byV ?_;intro w hw))
 refine lStoreE (k:=s) (v:=.int .i64 0) ?_
 intro w hw
 have hw:Wd Γ (.own (.slice (some a5) (n+1) (n+1)) 3 1 (intRows (rowN (n+1) fun _=>-1))::.own (.slice (some a4) (n+1) (n+1)) 3 1 ((intRows (rowN (n+1) fun _=>1152921504606846976)).set s [.int .i64 0])::.blk b2 (.cells #[.slice da dn dc,.slice ca (n+1) cc] 129)::S) w:=hw
 rw [rowI_set] at hw
 repeat (first | refine byW ?_ | (refine byV ?_;intro w hw))
 refine W_loop (fun μ ρ w=>∃ (b:Bool) (D R:Nat→Int),μ=2 * sumD n (fun v=>φ v - φ s) D+b.toNat∧PI n W φ s D R∧(b=false→PathsOk n W s D R)∧Has ρ [(1,.int .i64 s),(2,.pointer (some ⟨b2,0,none⟩)),(4,.slice (some a4) (n+1) (n+1)),(5,.slice (some a5) (n+1) (n+1)),(6,.int .i64 ((n+1:Nat):Int)),(7,.bool b)]∧Wd Γ (.own (.slice (some a5) (n+1) (n+1)) 3 1 (intRows (rowN (n+1) R))::.own (.slice (some a4) (n+1) (n+1)) 3 1 (intRows (rowN (n+1) D))::.blk b2 (.cells #[.slice da dn dc,.slice ca (n+1) cc] 129)::S) w) _ ⟨true,_,_,rfl,PI.start,fun e=>(by cases e),⟨rfl,rfl,rfl,rfl,rfl,rfl,trivial⟩,hw⟩ ?_
 clear hw
 rintro μ ρ w ⟨b,D,R,hμ,hP,hO,hρ,hw⟩
 rw [hρ.eq]
 clear hρ
 repeat (first | refine byW ?_ | (refine byV ?_;intro w hw))
 refine W_cond rfl (fun h=>?_) (fun h=>?_)
 ·have hb1:b=true:=by simpa using h
  clear h
  subst hb1
  repeat (first | refine byW ?_ | (refine byV ?_;intro w hw))
  refine W_loop (fun μ2 ρ w=>∃ (u:Nat) (b:Bool) (D' R:Nat→Int),μ2+u=n+1∧SW n W φ s (sumD n (fun v=>φ v - φ s) D) u 0 b D' R∧Has ρ [(1,.int .i64 s),(2,.pointer (some ⟨b2,0,none⟩)),(4,.slice (some a4) (n+1) (n+1)),(5,.slice (some a5) (n+1) (n+1)),(6,.int .i64 ((n+1:Nat):Int)),(7,.bool b),(23,.int .i64 ((n+1:Nat):Int)),(24,.int .i64 u)]∧Wd Γ (.own (.slice (some a5) (n+1) (n+1)) 3 1 (intRows (rowN (n+1) R))::.own (.slice (some a4) (n+1) (n+1)) 3 1 (intRows (rowN (n+1) D'))::.blk b2 (.cells #[.slice da dn dc,.slice ca (n+1) cc] 129)::S) w) (n+1) ⟨0,false,D,R,by omega,SW.start hP,⟨rfl,rfl,rfl,rfl,rfl,rfl,rfl,rfl,trivial⟩,hw⟩ ?_
  clear hw
  generalize hS0:sumD n (fun v=>φ v - φ s) D=S0 at *
  clear hP hO hS0 D R
  rintro μ2 ρ w ⟨u,b,D,R,hμ2,hS,hρ,hw⟩
  rw [hρ.eq]
  clear hρ
  repeat (first | refine byW ?_ | (refine byV ?_;intro w hw))
  refine W_cond rfl (fun h=>?_) (fun h=>?_)
  ·have hun:u < n+1:=by have:=of_decide_eq_true h;omega
   clear h
   obtain ⟨ra,rn,rc,hs',hrn,rr,rh,hru⟩:=hM.at (mat_get (C:=W) (N:=n+1) hun)
   rw [rowN_len] at hrn
   have hrn:=hrn.symm
   subst hrn
   repeat (first | refine byW ?_ | (refine byV ?_;intro w hw))
   refine W_loop (fun μ3 ρ w=>∃ (v:Nat) (b:Bool) (D R:Nat→Int),μ3+v=n+1∧SW n W φ s S0 u v b D R∧Has ρ [(1,.int .i64 s),(2,.pointer (some ⟨b2,0,none⟩)),(4,.slice (some a4) (n+1) (n+1)),(5,.slice (some a5) (n+1) (n+1)),(6,.int .i64 ((n+1:Nat):Int)),(7,.bool b),(8,.int .i64 u),(23,.int .i64 ((n+1:Nat):Int)),(24,.int .i64 u),(27,.int .i64 ((n+1:Nat):Int)),(28,.int .i64 v)]∧Wd Γ (.own (.slice (some a5) (n+1) (n+1)) 3 1 (intRows (rowN (n+1) R))::.own (.slice (some a4) (n+1) (n+1)) 3 1 (intRows (rowN (n+1) D))::.blk b2 (.cells #[.slice da dn dc,.slice ca (n+1) cc] 129)::S) w) (n+1) ⟨0,b,D,R,by omega,hS,⟨rfl,rfl,rfl,rfl,rfl,rfl,rfl,rfl,rfl,rfl,rfl,trivial⟩,hw⟩ ?_
   clear hw hS D R b
   rintro μ3 ρ w ⟨v,b,D,R,hμ3,hS,hρ,hw⟩
   rw [hρ.eq]
   clear hρ
   repeat (first | refine byW ?_ | (refine byV ?_;intro w hw))
   refine W_cond rfl (fun h=>?_) (fun h=>?_)
   ·have hvn:v < n+1:=by have:=of_decide_eq_true h;omega
    clear h
    repeat (first | refine byW ?_ | (refine byV ?_;intro w hw))
    have hDu:=rowI_get (c:=D) hun
    have hDv:=rowI_get (c:=D) hvn
    have hWu:(intRows (rowN (n+1) (W u)))[v]? = some [.int .i64 (W u v)]:=rowI_get hvn
    have f1:D u≤1152921504606846976:=hS.pi.far u (by omega)
    have f2:D u < 1152921504606846976→W u v < 1152921504606846976→-1152921504606846976≤D u+W u v:=fun h1 h2=>by
     have:=hφ u v (by omega) (by omega) h2
     have:=hS.pi.low u (by omega) h1
     have:=hb v (by omega)
     omega
    refine W_quiet (by kernel_rfl) (by kernel_rfl) hw ?_
    repeat (first | refine Q_nil ?_ | (apply Q_plain;first | (apply Q_go;first | refine qP ?_ | refine qPg ?_) | refine qY ?_) | (apply Q_guarded;first | (apply Q_go;first | refine qPG ?_ | refine qPgG ?_) | refine qG ?_))
    refine qY (v:=.int .i64 (D u)) ?_ (hy:=fun w hw=>y_loadE1 rfl (hw.own_rd (i:=1) rfl) hDu)
    repeat (first | refine Q_nil ?_ | (apply Q_plain;first | (apply Q_go;first | refine qP ?_ | refine qPg ?_) | refine qY ?_) | (apply Q_guarded;first | (apply Q_go;first | refine qPG ?_ | refine qPgG ?_) | refine qG ?_))
    refine qG (v:=.pointer (some ⟨aB ca,aO ca+u * 1,none⟩)) ?_ (hy:=fun hg w hw=>y_idxI (i:=(u:Int)) hw rh (gvT hg rfl) (gvT hg rfl) (by omega) (by omega))
    repeat (first | refine Q_nil ?_ | (apply Q_plain;first | (apply Q_go;first | refine qP ?_ | refine qPg ?_) | refine qY ?_) | (apply Q_guarded;first | (apply Q_go;first | refine qPG ?_ | refine qPgG ?_) | refine qG ?_))
    refine qG (v:=.slice ra (n+1) rc) ?_ (hy:=fun hg w hw=>y_loadE1 (gvT hg rfl) (rh.rd hw) hru)
    repeat (first | refine Q_nil ?_ | (apply Q_plain;first | (apply Q_go;first | refine qP ?_ | refine qPg ?_) | refine qY ?_) | (apply Q_guarded;first | (apply Q_go;first | refine qPG ?_ | refine qPgG ?_) | refine qG ?_))
    refine qG (v:=.int .i64 (W u v)) ?_ (hy:=fun hg w hw=>y_loadE1 (gvT hg rfl) (rr.rd hw) hWu)
    repeat (first | refine Q_nil ?_ | (apply Q_plain;first | (apply Q_go;first | refine qP ?_ | refine qPg ?_) | refine qY ?_) | (apply Q_guarded;first | (apply Q_go;first | refine qPG ?_ | refine qPgG ?_) | refine qG ?_))
    refine qG (v:=.int .i64 (D u)) ?_ (hy:=fun hg w hw=>y_loadE1 (gvT hg rfl) (hw.own_rd (i:=1) rfl) hDu)
    repeat (first | refine Q_nil ?_ | (apply Q_plain;first | (apply Q_go;first | refine qP ?_ | refine qPg ?_) | refine qY ?_) | (apply Q_guarded;first | (apply Q_go;first | refine qPG ?_ | refine qPgG ?_) | refine qG ?_))
    refine qG (v:=.pointer (some ⟨aB ca,aO ca+u * 1,none⟩)) ?_ (hy:=fun hg w hw=>y_idxI (i:=(u:Int)) hw rh (gvT hg rfl) (gvT hg rfl) (by omega) (by omega))
    repeat (first | refine Q_nil ?_ | (apply Q_plain;first | (apply Q_go;first | refine qP ?_ | refine qPg ?_) | refine qY ?_) | (apply Q_guarded;first | (apply Q_go;first | refine qPG ?_ | refine qPgG ?_) | refine qG ?_))
    refine qG (v:=.slice ra (n+1) rc) ?_ (hy:=fun hg w hw=>y_loadE1 (gvT hg rfl) (rh.rd hw) hru)
    repeat (first | refine Q_nil ?_ | (apply Q_plain;first | (apply Q_go;first | refine qP ?_ | refine qPg ?_) | refine qY ?_) | (apply Q_guarded;first | (apply Q_go;first | refine qPG ?_ | refine qPgG ?_) | refine qG ?_))
    refine qG (v:=.int .i64 (W u v)) ?_ (hy:=fun hg w hw=>y_loadE1 (gvT hg rfl) (rr.rd hw) hWu)
    repeat (first | refine Q_nil ?_ | (apply Q_plain;first | (apply Q_go;first | refine qP ?_ | refine qPg ?_) | refine qY ?_) | (apply Q_guarded;first | (apply Q_go;first | refine qPG ?_ | refine qPgG ?_) | refine qG ?_))
    refine qG (v:=.int .i64 (D v)) ?_ (hy:=fun hg w hw=>y_loadE1 (gvT hg rfl) (hw.own_rd (i:=1) rfl) hDv)
    repeat (first | refine Q_nil ?_ | (apply Q_plain;first | (apply Q_go;first | refine qP ?_ | refine qPg ?_) | refine qY ?_) | (apply Q_guarded;first | (apply Q_go;first | refine qPG ?_ | refine qPgG ?_) | refine qG ?_))
    intro w hw
    repeat (first | refine byW ?_ | (refine byV ?_;intro w hw))
    refine W_cond rfl (fun h=>?_) (fun h=>?_)
    ·simp only [Bool.and_eq_true,decide_eq_true_eq] at h
     obtain ⟨⟨h1,h2⟩,h3⟩:=h
     have hsum:=f2 h1 h2
     have hw2:Wd Γ (.own (.slice (some a4) (n+1) (n+1)) 3 1 (intRows (rowN (n+1) D))::.own (.slice (some a5) (n+1) (n+1)) 3 1 (intRows (rowN (n+1) R))::.blk b2 (.cells #[.slice da dn dc,.slice ca (n+1) cc] 129)::S) w:=hw.ps [1]
     have hw:Wd Γ ((.blk b2 (.cells #[.slice da dn dc,.slice ca (n+1) cc] 129)::S)++[.own (.slice (some a4) (n+1) (n+1)) 3 1 (intRows (rowN (n+1) D)),.own (.slice (some a5) (n+1) (n+1)) 3 1 (intRows (rowN (n+1) R))]) w:=hw2.perm (List.perm_append_comm (l₁:=[_,_]))
     refine W_seq ?_
     refine W_mixed (.blk b2 (.cells #[.slice da dn dc,.slice ca (n+1) cc] 129)::S) [fun _=>[.own (.slice (some a4) (n+1) (n+1)) 3 1 (intRows (rowN (n+1) D))],fun _=>[.own (.slice (some a5) (n+1) (n+1)) 3 1 (intRows (rowN (n+1) R))]] [[],[],[],[],[],[],[],[],[],[],[],[],[],[],[],[],[],[],[],[0],[],[1]] [[],[],[],[],[],[],[0],[0],[],[],[],[],[],[],[],[],[],[],[0],[0],[1],[1]] [[],[]] hw ?_
     repeat (first | refine mY ?_ | refine mP ?_ | refine mPg ?_)
     refine mY (v:=.pointer (some ⟨aB (some a4),aO (some a4)+u * 1,none⟩)) ?_ (hy:=fun Y w g hw=>y_idxO (j:=0) (i:=(u:Int)) hw.swapApp rfl rfl rfl (by omega) (by omega))
     refine mY (v:=.int .i64 (D u)) ?_ (hy:=fun Y w g hw=>y_loadE1 rfl (hw.swapApp.own_rd (i:=0) rfl) hDu)
     repeat (first | refine mY ?_ | refine mP ?_ | refine mPg ?_)
     refine mY (v:=.slice ra (n+1) rc) ?_ (hy:=fun Y w g hw=>y_loadE1 rfl (rh.rd hw) hru)
     repeat (first | refine mY ?_ | refine mP ?_ | refine mPg ?_)
     refine mY (v:=.int .i64 (W u v)) ?_ (hy:=fun Y w g hw=>y_loadE1 rfl (rr.rd hw) hWu)
     repeat (first | refine mY ?_ | refine mP ?_ | refine mPg ?_)
     refine mY (v:=.pointer (some ⟨aB (some a4),aO (some a4)+v * 1,none⟩)) ?_ (hy:=fun Y w g hw=>y_idxO (j:=0) (i:=(v:Int)) hw.swapApp rfl rfl rfl (by omega) (by omega))
     refine mS (c:=0) (v:=undef) (F:=fun _=>[.own (.slice (some a4) (n+1) (n+1)) 3 1 (intRows (rowN (n+1) D))]) (fun _=>[.own (.slice (some a4) (n+1) (n+1)) 3 1 ((intRows (rowN (n+1) D)).set v [.int .i64 (D u+W u v)])]) (fun g w Y hw=>s_storeE (i:=0) (k:=v) (r:=[.int .i64 (D u+W u v)]) (TSz.h (P:=Tryz.prog) (T:=3)) hw rfl rfl rfl rfl rfl rfl (by omega) fun w' hw'=>⟨fun _=>rfl,hw'⟩) ?_
     refine mY (v:=.pointer (some ⟨aB (some a5),aO (some a5)+v * 1,none⟩)) ?_ (hy:=fun Y w g hw=>y_idxO (j:=0) (i:=(v:Int)) hw.swapApp rfl rfl rfl (by omega) (by omega))
     refine mS (c:=1) (v:=undef) (F:=fun _=>[.own (.slice (some a5) (n+1) (n+1)) 3 1 (intRows (rowN (n+1) R))]) (fun _=>[.own (.slice (some a5) (n+1) (n+1)) 3 1 ((intRows (rowN (n+1) R)).set v [.int .i64 u])]) (fun g w Y hw=>s_storeE (i:=0) (k:=v) (r:=[.int .i64 u]) (TSz.h (P:=Tryz.prog) (T:=3)) hw rfl rfl rfl rfl rfl rfl (by omega) fun w' hw'=>⟨fun _=>rfl,hw'⟩) ?_
     refine mEnd fun w g hw=>?_
     have hw:Wd Γ ((.blk b2 (.cells #[.slice da dn dc,.slice ca (n+1) cc] 129)::S)++[.own (.slice (some a4) (n+1) (n+1)) 3 1 ((intRows (rowN (n+1) D)).set v [.int .i64 (D u+W u v)]),.own (.slice (some a5) (n+1) (n+1)) 3 1 ((intRows (rowN (n+1) R)).set v [.int .i64 u])]) w:=hw
     rw [rowI_set,rowI_set] at hw
     have hw:=(hw.perm (List.perm_append_comm (l₂:=[_,_]))).ps [1]
     repeat (first | refine byW ?_ | (refine byV ?_;intro w hw))
     exact ⟨n - v,by omega,v+1,true,setN D v (D u+W u v),setN R v u,by omega,hS.take hφ hs (by omega) (by omega) h1 h2 h3,⟨rfl,rfl,rfl,rfl,rfl,rfl,rfl,rfl,rfl,rfl,rfl,trivial⟩,hw⟩
    ·have hsk:¬ (D u < farV∧W u v < farV∧D u+W u v < D v):=by
      simp only [Bool.and_eq_false_iff,decide_eq_false_iff_not] at h
      unfold farV
      omega
     clear h
     repeat (first | refine byW ?_ | (refine byV ?_;intro w hw))
     exact ⟨n - v,by omega,v+1,b,D,R,by omega,hS.skip hsk,⟨rfl,rfl,rfl,rfl,rfl,rfl,rfl,rfl,rfl,rfl,rfl,trivial⟩,hw⟩
   ·have hvn:v=n+1:=by have:=of_decide_eq_false h;omega
    clear h
    subst hvn
    repeat (first | refine byW ?_ | (refine byV ?_;intro w hw))
    exact ⟨n - u,by omega,u+1,b,D,R,by omega,hS.row,⟨rfl,rfl,rfl,rfl,rfl,rfl,rfl,rfl,trivial⟩,hw⟩
  ·have hun:u=n+1:=by have:=of_decide_eq_false h;omega
   clear h
   subst hun
   repeat (first | refine byW ?_ | (refine byV ?_;intro w hw))
   exact ⟨_,(by rw [hμ];exact hS.done),b,D,R,rfl,hS.pi,fun e=>(by subst e;exact hS.paths),⟨rfl,rfl,rfl,rfl,rfl,rfl,trivial⟩,hw⟩
 ·have hb1:b=false:=by simpa using h
  clear h
  repeat (first | refine byW ?_ | (refine byV ?_;intro w hw))
  exact ⟨[_,_],⟨rfl,rfl,trivial⟩,a4,a5,D,R,rfl,hO hb1,hP.low,hw.ds [2]⟩
end Go.Proofs.YthgighljhoneeaaGreatDoor
end
section
open Go
namespace Mk
section
variable {P:Program} {n:Nat} {opa:Array Oper} {Γ:Gho} {S:List Res} {QQ:Exit→Fr→World→Prop} {K:Value→World→Prop} {ρ:Fr} {w:World} {rest:List Oper}
variable {d:Option Tmp} {T U ty:TypeId} {pos:String} {es:Array Edge} {g:Option (Nat × Bool)} {x y z:Operand}
theorem s_clearI {E by' i m c:Nat} {a:Option Addr} {xs:List Int} [hT:TL P T E 1 by' [.int .i64 0]] (hw:Wd Γ S w) (hi:S[i]? = some (.own (.slice a m c) E 1 (iRows xs))) (hx:ev ρ x=.slice a m c) (h0:0 < m)
  (hk:∀ w',Wd Γ (S.set i (.own (.slice a m c) E 1 (iRows (List.replicate m 0)))) w'→K (.tuple #[]) w'):Step P ⟨d,.call { callee:=.builtin .clear,args:=#[x],argTypes:=#[T] },ty,pos,es,g⟩ ρ w K:=by
 obtain ⟨q,zv,hq,hz,hzc⟩:=zeroOf_info hT.z
 obtain ⟨bs0,hr0⟩:=hw.own_holds hi
 unfold Res.own at hr0
 obtain ⟨q0,a',n',c',e1,e2,e3,e4,e5⟩:=hr0
 cases e1
 have hml:m=xs.length:=by simpa [iRows] using e2
 rcases e5 with ⟨hc,_⟩ | ⟨b,cur,g1,g2,g3,g4,g5⟩
 ·omega
 ·subst g1
  have hzl:(Builtin.zeroCells zv.cells m).toList.length=m:=by
   have:=size_zeroCells zv.cells m
   rw [Array.length_toList,this,hzc];simp
  have hzt:(Builtin.zeroCells zv.cells m).toList=(List.replicate m (0:Int)).map (Value.int .i64):=by
   rw [List.map_replicate]
   refine List.eq_replicate_iff.2 ⟨hzl,fun u hu=>?_⟩
   simp only [Builtin.zeroCells,Array.toList_map,List.mem_map] at hu
   obtain ⟨j,hj,rfl⟩:=hu
   rw [hzc]
   simp [Nat.mod_one]
  have hfit:0+0+(Builtin.zeroCells zv.cells m).toList.length≤cur.size:=by rw [hzl,g4];omega
  have hst:=run_storeCells_at P b 0 E _ 0 cur w g3 hfit (by rw [hzt];intro u hu;obtain ⟨v, -,rfl⟩:=List.mem_map.1 hu;rfl)
  simp only [Nat.add_zero] at hst
  have hzv:(zeroValue E).run P w=.ok zv w:=by simp [zeroValue,typeInfo,hq,hz]
  rw [hzt] at hst hzl
  have hr:(execOp (ev ρ) ⟨d,.call { callee:=.builtin .clear,args:=#[x],argTypes:=#[T] },ty,pos,es,g⟩).run P w=.ok (.value (.tuple #[])) (w.setRow b (cur.toList.take 0++(List.replicate m (0:Int)).map (Value.int .i64)++cur.toList.drop (0+((List.replicate m (0:Int)).map (Value.int .i64)).length)).toArray):=by
   obtain ⟨n1,hn1⟩:∃ n1,m=n1+1:=⟨m - 1,by omega⟩
   subst hn1
   have hcl:(Builtin.clear_ #[T] ty #[.slice (some ⟨b,0,none⟩) (n1+1) c]).run P w=.ok (.tuple #[]) (w.setRow b (cur.toList.take 0++(List.replicate (n1+1) (0:Int)).map (Value.int .i64)++cur.toList.drop (0+((List.replicate (n1+1) (0:Int)).map (Value.int .i64)).length)).toArray):=by
    simp at hst
    simp [Builtin.clear_,run_underlying hT.h,hzv,hzt]
    rw [hst]
    rfl
   simp only [execOp,resolve,invoke,builtin,Sem.run_bind,Sem.run_pure,Result.andThen_ok,List.map_toArray,List.map_cons,List.map_nil,hx,hcl]
  have hfin:=hk _ (hw.upd hi (w':=w.setRow b (cur.toList.take 0++(List.replicate m (0:Int)).map (Value.int .i64)++cur.toList.drop (0+((List.replicate m (0:Int)).map (Value.int .i64)).length)).toArray) ⟨rfl,rfl,rfl,(by first | exact Nat.le_refl _ | exact Nat.le_succ _),by simp⟩ fun bs hr' hnd hlt=>by
   unfold Res.own at hr' ⊢
   obtain ⟨q0',a3,n3,c3,f1,f2,f3,f4,f5⟩:=hr'
   cases f1
   rcases f5 with ⟨hc,_⟩ | ⟨b2,cur2,k1,k2,k3,k4,k5⟩
   ·omega
   ·cases k1
    rw [show hp w b=some (.cells cur E (0,0)) from g3] at k3;cases k3
    refine ⟨bs,⟨?_,_,_,_,rfl,by rw [iRows,List.length_map,List.length_replicate],f3,f4,.inr ⟨b,_,rfl,k2,setRow_heap w b cur _ E _ g3,?_,?_⟩⟩,hnd,fun x hx=>⟨by have:=hlt x hx;simpa using this,.inl hx⟩,fun k' _ hne=>setRow_other w b k' _ (fun e=>hne (by simp [k2,e]))⟩
    ·intro r hr
     obtain ⟨z, -,rfl⟩:=List.mem_map.1 hr
     rfl
    ·simp only [List.size_toArray,List.length_append,List.length_take,List.length_drop,Array.length_toList,List.length_map,List.length_replicate];omega
    ·rw [iRows_flat]
     simp only [List.take_zero,List.nil_append,Nat.mul_one]
     rw [List.take_left' (by simp)])
  unfold Step;rw [hr];exact hfin
theorem lClearI {E by' i m c:Nat} {a:Option Addr} {xs:List Int} [TL P T E 1 by' [.int .i64 0]] (h:∀ w',Wd Γ (S.set i (.own (.slice a m c) E 1 (iRows (List.replicate m 0)))) w'→L P n opa QQ rest (putO ρ d (.tuple #[])) w') (hi:S[i]? = some (.own (.slice a m c) E 1 (iRows xs))) (h0:0 < m) (hw:Wd Γ S w) (hx:ev ρ x=.slice a m c:=by exact rfl) (hd:okDst n d=true:=by exact rfl) :
  L P n opa QQ (⟨d,.call { callee:=.builtin .clear,args:=#[x],argTypes:=#[T] },ty,pos,es,none⟩::rest) ρ w:=L_step rfl hd (s_clearI hw hi hx h0 h)
end
end Mk
end
section
open Go Mk
namespace Go.Proofs.YthgighljhoneeaaGreatDoor
set_option maxHeartbeats 64000000
attribute [local irreducible] Calls
theorem Bk.stop {n s:Nat} {W:Nat→Nat→Int} {D R:Nat→Int} {l:List Nat} (h:Bk n W D R s s l):l=[s]:=by
 cases h with
 | nil=>rfl
 | cons h=>exact absurd rfl h
theorem Bk.step {n s v:Nat} {W:Nat→Nat→Int} {D R:Nat→Int} {l:List Nat} (h:Bk n W D R s v l) (hv:v≠s):∃ u t,l=v::u::t∧u≤n∧v≤n∧R v=u∧W u v < farV∧Bk n W D R s u (u::t):=by
  cases h with
  | nil=>exact absurd rfl hv
  | cons h1 h2 h3 h4 h5 h6 h7 h8=>
    obtain ⟨t,rfl⟩:=h8.head
    exact ⟨_,t,rfl,h2,h3,h4,h5,h8⟩
theorem intsI_set {x:List Int} {v:Nat} {z:Int}:(intRows x).set v [.int .i64 z]=intRows (x.set v z):=by unfold intRows;rw [List.map_set]
theorem intsI_get {x:List Int} {v:Nat} {z:Int} (h:x[v]? = some z):(intRows x)[v]? = some [.int .i64 z]:=by unfold intRows;rw [List.getElem?_map,h];rfl
def cntN (x:List Int) (i u:Nat):Int:=((x.take i).count (u:Int):Nat)
theorem cnt_neg {x:List Int} {i:Nat} {z:Int} (h:x[i]? = some z) (hz:z < 0):cntN x i=cntN x (i+1):=by
 funext u
 unfold cntN
 rw [List.take_add_one,h,List.count_append]
 simp only [Option.toList_some,List.count_singleton]
 rw [if_neg (by simp;omega)];rfl
theorem cnt_pos {x:List Int} {i c:Nat} (h:x[i]? = some (c:Int)):setN (cntN x i) c (cntN x i c+1)=cntN x (i+1):=by
 funext u
 unfold cntN setN
 rw [List.take_add_one,h,List.count_append]
 simp only [Option.toList_some,List.count_singleton]
 by_cases e:u=c
 ·subst e;simp
 ·rw [if_neg e,if_neg (by simp;omega)];rfl
set_option maxRecDepth 8000 in
theorem put_core {Γ:Gho} {bA n d s v0:Nat} {capV:Value} {x:List Int} {l0:List Nat} {W V:Nat→Nat→Int} {D R:Nat→Int} {va xa la da ca pa:Option Addr} {vn vc xn xc lc dc cn cc pc:Nat}
  (hB:ImB Γ bA #[.slice va vn vc,capV,.slice xa xn xc,.slice la n lc] 105) (hM:MatF Γ (.slice da (n+1) dc) (mat (n+1) (n+1) V)) (hR:RepS Γ (.slice pa (n+1) pc) 1 (intRows (rowN (n+1) R)))
  (hg:∀ u v,u≤n→v≤n→W u v < farV→V u v < 0∨V u v < x.length) (hk:Bk n W D R s v0 l0) (hv0:v0≤n) (hd:d < x.length) (hs:s≤n) (hx1:∀ v∈(moveL V l0 x).set d s,v < n) (hl:x.length≤1000) (hn:n≤64) (hxn:xn=x.length)
  {L:Nat→Int} {S:List Res} {w:World} (hw:Wd Γ (.own (.slice la n lc) 3 1 (intRows (rowN n L))::.own (.slice xa xn xc) 3 1 (intRows x)::S) w) :
  Calls Tryz.prog 86 #[.pointer (some ⟨bA,0,none⟩),.int .i64 (d:Nat),.int .i64 (s:Nat),.int .i64 (v0:Nat),.agg #[.slice da (n+1) dc,.slice ca cn cc],.slice pa (n+1) pc] w fun e w'=>e=.returned (.tuple #[]) ∧
   Wd Γ (.own (.slice la n lc) 3 1 (intRows (rowN n fun u=>(((moveL V l0 x).set d s).count (u:Int):Nat)))::.own (.slice xa xn xc) 3 1 (intRows ((moveL V l0 x).set d s))::S) w':=by
 subst hxn
 obtain ⟨x0,hx0⟩:∃ x0,x0=moveL V l0 x:=⟨_,rfl⟩
 rw [← hx0] at hx1 ⊢
 refine calls_of_WC Tryz.func86 rfl rfl ?_
 repeat (first | refine byW ?_ | (refine byV ?_;intro w hw))
 refine lBox ?_
 intro b10 w hw
 have hw:Wd Γ (.blk b10 (.cells #[.slice da (n+1) dc,.slice ca cn cc] 129)::.own (.slice la n lc) 3 1 (intRows (rowN n L))::.own (.slice xa x.length xc) 3 1 (intRows x)::S) w:=hw
 repeat (first | refine byW ?_ | (refine byV ?_;intro w hw))
 refine W_loop (fun μ ρ w=>∃ (v:Nat) (l:List Nat) (x':List Int),μ=l.length∧Bk n W D R s v l∧moveL V l x'=x0∧x'.length=x.length∧Has ρ [(0,.pointer (some ⟨bA,0,none⟩)),(1,.int .i64 d),(2,.int .i64 s),(5,.slice pa (n+1) pc),(10,.pointer (some ⟨b10,0,none⟩)),(12,.int .i64 v)]∧Wd Γ (.blk b10 (.cells #[.slice da (n+1) dc,.slice ca cn cc] 129)::.own (.slice la n lc) 3 1 (intRows (rowN n L))::.own (.slice xa x.length xc) 3 1 (intRows x')::S) w) _ ⟨v0,l0,x,rfl,hk,hx0.symm,rfl,⟨rfl,rfl,rfl,rfl,rfl,rfl,trivial⟩,hw⟩ ?_
 clear hw
 rintro μ ρ w ⟨v,l,x',hμ,hbk,hmv,hxl,hρ,hw⟩
 rw [hρ.eq]
 clear hρ
 repeat (first | refine byW ?_ | (refine byV ?_;intro w hw))
 refine W_cond rfl (fun h=>?_) (fun h=>?_)
 ·have hvs:v≠s:=by
   have h:decide ((v:Int)≠s)=true:=h
   have:=of_decide_eq_true h
   omega
  clear h
  obtain ⟨u,t,rfl,hun,hvn,hRv,hW,hbk2⟩:=hbk.step hvs
  have hVuv:=hg u v hun hvn hW
  obtain ⟨ra,rn,rc,hs',hrn,rr,rh,hru⟩:=hM.at (mat_get (C:=V) (N:=n+1) (show u < n+1 by omega))
  rw [rowN_len] at hrn
  have hrn:=hrn.symm
  subst hrn
  have hVg:(intRows (rowN (n+1) (V u)))[v]? = some [.int .i64 (V u v)]:=rowI_get (by omega)
  have hRg:(intRows (rowN (n+1) R))[v]? = some [.int .i64 u]:=by rw [← hRv];exact rowI_get (by omega)
  repeat (first | refine byW ?_ | (refine byV ?_;intro w hw))
  refine W_quiet (by kernel_rfl) (by kernel_rfl) hw ?_
  repeat (first | refine Q_nil ?_ | (apply Q_plain;first | (apply Q_go;first | refine qP ?_ | refine qPg ?_) | refine qY ?_) | (apply Q_guarded;first | (apply Q_go;first | refine qPG ?_ | refine qPgG ?_) | refine qG ?_))
  refine qY (v:=.int .i64 u) ?_ (hy:=fun w hw=>y_loadE1 rfl (hR.rd hw) hRg)
  repeat (first | refine Q_nil ?_ | (apply Q_plain;first | (apply Q_go;first | refine qP ?_ | refine qPg ?_) | refine qY ?_) | (apply Q_guarded;first | (apply Q_go;first | refine qPG ?_ | refine qPgG ?_) | refine qG ?_))
  refine qY (v:=.slice ra (n+1) rc) ?_ (hy:=fun w hw=>y_loadE1 rfl (rh.rd hw) hru)
  repeat (first | refine Q_nil ?_ | (apply Q_plain;first | (apply Q_go;first | refine qP ?_ | refine qPg ?_) | refine qY ?_) | (apply Q_guarded;first | (apply Q_go;first | refine qPG ?_ | refine qPgG ?_) | refine qG ?_))
  refine qY (v:=.int .i64 (V u v)) ?_ (hy:=fun w hw=>y_loadE1 rfl (rr.rd hw) hVg)
  repeat (first | refine Q_nil ?_ | (apply Q_plain;first | (apply Q_go;first | refine qP ?_ | refine qPg ?_) | refine qY ?_) | (apply Q_guarded;first | (apply Q_go;first | refine qPG ?_ | refine qPgG ?_) | refine qG ?_))
  intro w hw
  repeat (first | refine byW ?_ | (refine byV ?_;intro w hw))
  refine W_cond rfl (fun h=>?_) (fun h=>?_)
  ·have h0:0≤V u v:=of_decide_eq_true h
   clear h
   obtain ⟨k,hk2⟩:∃ k:Nat,V u v=k:=⟨(V u v).toNat,by omega⟩
   have hkx:k < x.length:=by omega
   repeat (first | refine byW ?_ | (refine byV ?_;intro w hw))
   refine lY (v:=.slice xa x.length xc) ?_ (hy:=y_l1m hw rfl rfl)
   rw [hk2]
   repeat (first | refine byW ?_ | (refine byV ?_;intro w hw))
   refine lStoreE (k:=k) (v:=.int .i64 v) ?_
   intro w hw
   have hw:Wd Γ (.blk b10 (.cells #[.slice da (n+1) dc,.slice ca cn cc] 129)::.own (.slice la n lc) 3 1 (intRows (rowN n L))::.own (.slice xa x.length xc) 3 1 ((intRows x').set k [.int .i64 v])::S) w:=hw
   rw [intsI_set] at hw
   repeat (first | refine byW ?_ | (refine byV ?_;intro w hw))
   refine lY (v:=.int .i64 u) ?_ (hy:=y_loadE1 rfl (hR.rd hw) hRg)
   repeat (first | refine byW ?_ | (refine byV ?_;intro w hw))
   refine ⟨(u::t).length,by rw [hμ];simp,u,u::t,x'.set k v,rfl,hbk2,?_,by simpa using hxl,⟨rfl,rfl,rfl,rfl,rfl,rfl,trivial⟩,hw⟩
   rw [← hmv]
   show _=moveL V (u::t) (if 0≤V u v then x'.set (V u v).toNat v else x')
   rw [if_pos h0,hk2];rfl
  ·have h0:¬ 0≤V u v:=of_decide_eq_false h
   clear h
   repeat (first | refine byW ?_ | (refine byV ?_;intro w hw))
   refine lY (v:=.int .i64 u) ?_ (hy:=y_loadE1 rfl (hR.rd hw) hRg)
   repeat (first | refine byW ?_ | (refine byV ?_;intro w hw))
   refine ⟨(u::t).length,by rw [hμ];simp,u,u::t,x',rfl,hbk2,?_,hxl,⟨rfl,rfl,rfl,rfl,rfl,rfl,trivial⟩,hw⟩
   rw [← hmv]
   show _=moveL V (u::t) (if 0≤V u v then x'.set (V u v).toNat v else x')
   rw [if_neg h0]
 ·have hvs:s=v:=by
   have h:decide ((v:Int)≠s)=false:=h
   have:=of_decide_eq_false h
   omega
  clear h
  subst hvs
  have hls:=hbk.stop
  subst hls
  have hmv:x0=x':=hmv.symm
  subst hmv
  clear hbk hμ hx0 hk
  have hxl2:=hxl.symm
  repeat (first | refine byW ?_ | (refine byV ?_;intro w hw))
  refine lY (v:=.slice xa x.length xc) ?_ (hy:=y_l1m hw rfl rfl)
  repeat (first | refine byW ?_ | (refine byV ?_;intro w hw))
  refine lStoreE (k:=d) (v:=.int .i64 s) ?_
  intro w hw
  have hw:Wd Γ (.blk b10 (.cells #[.slice da (n+1) dc,.slice ca cn cc] 129)::.own (.slice la n lc) 3 1 (intRows (rowN n L))::.own (.slice xa x.length xc) 3 1 ((intRows x0).set d [.int .i64 s])::S) w:=hw
  rw [intsI_set] at hw
  have hsn:(s:Int) < n:=hx1 _ (List.mem_of_getElem? (i:=d) (by rw [List.getElem?_set_self (by omega)]))
  have hxl3:(x0.set d (s:Int)).length=x.length:=by simpa using hxl
  generalize x0.set d (s:Int)=x1 at *
  repeat (first | refine byW ?_ | (refine byV ?_;intro w hw))
  refine lY (v:=.slice la n lc) ?_ (hy:=y_l1m hw rfl rfl)
  refine lClearI (i:=1) (xs:=rowN n L) ?_ rfl (by omega) hw
  intro w hw
  have hz:iRows (List.replicate n 0)=intRows (rowN n (cntN x1 0)):=by
   rw [iRows_eq,rep_row]
   exact congrArg intRows (rowN_congr fun u _=>by simp [cntN])
  have hw:Wd Γ (.blk b10 (.cells #[.slice da (n+1) dc,.slice ca cn cc] 129)::.own (.slice la n lc) 3 1 (iRows (List.replicate n 0))::.own (.slice xa x.length xc) 3 1 (intRows x1)::S) w:=hw
  rw [hz] at hw
  repeat (first | refine byW ?_ | (refine byV ?_;intro w hw))
  refine lY (v:=.slice xa x.length xc) ?_ (hy:=y_l1m hw rfl rfl)
  repeat (first | refine byW ?_ | (refine byV ?_;intro w hw))
  refine W_loop (fun μ ρ w=>∃ i:Nat,μ+i=x.length∧Has ρ [(0,.pointer (some ⟨bA,0,none⟩)),(58,.slice xa x.length xc),(59,.int .i64 x.length),(60,.int .i64 i)]∧Wd Γ (.blk b10 (.cells #[.slice da (n+1) dc,.slice ca cn cc] 129)::.own (.slice la n lc) 3 1 (intRows (rowN n (cntN x1 i)))::.own (.slice xa x.length xc) 3 1 (intRows x1)::S) w) x.length ⟨0,by omega,⟨rfl,rfl,rfl,rfl,trivial⟩,hw⟩ ?_
  clear hw
  rintro μ2 ρ w ⟨i,hμ2,hρ,hw⟩
  rw [hρ.eq]
  clear hρ
  repeat (first | refine byW ?_ | (refine byV ?_;intro w hw))
  refine W_cond rfl (fun h=>?_) (fun h=>?_)
  ·have hix:i < x.length:=by have:=of_decide_eq_true h;omega
   clear h
   obtain ⟨z,hz2⟩:=get_lt (l:=x1) (k:=i) (by omega)
   have hzn:=hx1 z (List.mem_of_getElem? hz2)
   have hzg:=intsI_get hz2
   repeat (first | refine byW ?_ | (refine byV ?_;intro w hw))
   refine W_cond rfl (fun h=>?_) (fun h=>?_)
   ·have h0:0≤z:=of_decide_eq_true h
    clear h
    obtain ⟨c,rfl⟩:∃ c:Nat,z=c:=⟨z.toNat,by omega⟩
    have hcg:(intRows (rowN n (cntN x1 i)))[c]? = some [.int .i64 (cntN x1 i c)]:=rowI_get (by omega)
    have hcb:0≤cntN x1 i c∧cntN x1 i c≤1000:=by
     unfold cntN
     have h1:(x1.take i).count (c:Int)≤(x1.take i).length:=List.count_le_length
     rw [List.length_take] at h1
     omega
    repeat (first | refine byW ?_ | (refine byV ?_;intro w hw))
    refine lY (v:=.slice la n lc) ?_ (hy:=y_l1m hw rfl rfl)
    repeat (first | refine byW ?_ | (refine byV ?_;intro w hw))
    refine lY (v:=.int .i64 (cntN x1 i c)) ?_ (hy:=y_loadE1 rfl (hw.own_rd (i:=1) rfl) hcg)
    repeat (first | refine byW ?_ | (refine byV ?_;intro w hw))
    refine lStoreE (k:=c) (v:=.int .i64 (cntN x1 i c+1)) ?_
    intro w hw
    have hw:Wd Γ (.blk b10 (.cells #[.slice da (n+1) dc,.slice ca cn cc] 129)::.own (.slice la n lc) 3 1 ((intRows (rowN n (cntN x1 i))).set c [.int .i64 (cntN x1 i c+1)])::.own (.slice xa x.length xc) 3 1 (intRows x1)::S) w:=hw
    rw [rowI_set,cnt_pos hz2] at hw
    repeat (first | refine byW ?_ | (refine byV ?_;intro w hw))
    exact ⟨x.length - i - 1,by omega,i+1,by omega,⟨rfl,rfl,rfl,rfl,trivial⟩,hw⟩
   ·have h0:z < 0:=by have:=of_decide_eq_false h;omega
    clear h
    rw [cnt_neg hz2 h0] at hw
    repeat (first | refine byW ?_ | (refine byV ?_;intro w hw))
    exact ⟨x.length - i - 1,by omega,i+1,by omega,⟨rfl,rfl,rfl,rfl,trivial⟩,hw⟩
  ·have hix:i=x1.length:=by have:=of_decide_eq_false h;omega
   clear h
   repeat (first | refine byW ?_ | (refine byV ?_;intro w hw))
   refine ⟨[],trivial,rfl,?_⟩
   have he:rowN n (cntN x1 i)=rowN n fun u=>((x1.count (u:Int):Nat):Int):=rowN_congr fun u _=>by unfold cntN;rw [hix,List.take_length]
   rw [he] at hw
   exact hw.ds [0]
end Go.Proofs.YthgighljhoneeaaGreatDoor
end
section
open Go Mk
namespace Go.Proofs.YthgighljhoneeaaGreatDoor
set_option maxHeartbeats 16000000
attribute [local irreducible] Calls
theorem own_repG {Γ:Gho} {S:List Res} {w:World} {i e sz:Nat} {v:Value} {rows:List (List Value)} (hw:Wd Γ S w) (hi:S[i]? = some (.own v e sz rows)):RepS (hpG Γ w) v sz rows:=by
 obtain ⟨bs,hr⟩:=hw.own_holds hi
 unfold Res.own at hr
 obtain ⟨q0,a,n,c,e1,e2,e3,e4,e5⟩:=hr
 unfold RepS
 refine ⟨q0,a,n,c,e1,e2,e3,e4,fun h0=>?_⟩
 rcases e5 with ⟨hc,_⟩ | ⟨g,cur,g1,g2,g3,g4,g5⟩
 ·omega
 ·refine ⟨g,0,cur,e,(0,0),g1,g3,fun j u hj=>?_⟩
  rw [← g5] at hj
  rw [List.getElem?_take] at hj
  split at hj
  ·rw [Nat.zero_add];simpa using hj
  ·cases hj
theorem inn_own {E sz:Nat} {L:List (Value × List (List Value))}:∀ r∈inn E sz L,∃ v e sz rows,r=Res.own v e sz rows:=fun r hr=>by
 unfold inn at hr
 obtain ⟨p, -,rfl⟩:=List.mem_map.1 hr
 exact ⟨_,_,_,_,rfl⟩
theorem owns_noimm {m m' h:Hp} {R:List Res} (H:∀ r∈R,∃ v e sz rows,r=Res.own v e sz rows):∀ r∈R,∀ bs,r.holds m bs h→r.holds m' bs h:=fun r hr bs hh=>by
 obtain ⟨v,e,sz,rows,rfl⟩:=H r hr
 unfold Res.own at hh ⊢
 exact hh
theorem MatF.slice {Γ:Gho} {v:Value} {M:List (List Int)} (h:MatF Γ v M):∃ a c,v=.slice a M.length c:=by
 obtain ⟨hs,h1,h2, -⟩:=h.ex
 obtain ⟨a,n,c,rfl,hn, -, -⟩:=h2.shape
 simp only [hdrs,List.length_map] at hn
 exact ⟨a,c,by rw [hn,h1]⟩
theorem graph_any {Γ:Gho} {bA n cap first:Nat} {A:List (List Int)} {x:List Int} {va xa la:Option Addr} {vn vc xn xc lc:Nat} (hB:ImB Γ bA #[.slice va vn vc,.int .i64 cap,.slice xa xn xc,.slice la n lc] 105) (hM:MatF Γ (.slice va vn vc) A)
  (hn:n≤64) (hC:CostM n A) (hAl:A.length=x.length) (hx:∀ v∈x, -1≤v∧v < n) (hl:x.length≤1000) (hfi:first≤x.length) {S:List Res} {w:World}
  (hw:Wd Γ (.own (.slice la n lc) 3 1 (intRows (rowN n fun u=>(x.count (u:Int):Nat)))::.own (.slice xa xn xc) 3 1 (intRows x)::S) w) :
  Calls Tryz.prog 84 #[.pointer (some ⟨bA,0,none⟩),.int .i64 (first:Nat)] w fun e w'=>∃ (Γ':Gho) (da ca:Option Addr) (dc cc:Nat) (W V:Nat→Nat→Int),Γ.le Γ'∧e=.returned (.agg #[.slice da (n+1) dc,.slice ca (n+1) cc])∧GP n cap first (aF A) x x.length 0 W V ∧
   MatF Γ' (.slice da (n+1) dc) (mat (n+1) (n+1) V)∧MatF Γ' (.slice ca (n+1) cc) (mat (n+1) (n+1) W) ∧
   Wd Γ' (.own (.slice la n lc) 3 1 (intRows (rowN n fun u=>(x.count (u:Int):Nat)))::.own (.slice xa xn xc) 3 1 (intRows x)::S) w':=by
 have hle:=hpG_le hw
 have hF:AsgF (hpG Γ w) bA n cap A x:=⟨va,vn,vc,xa,xn,xc,la,n,lc,hB.mono hle,hM.mono hle,own_repG (i:=1) hw rfl,own_repG (i:=0) hw rfl⟩
 refine (graph_core (Γ:=hpG Γ w) hF hn hC hAl hx hl hfi (S:=[]) (hpG_wd hw)).mono fun e w' hq=>?_
 obtain ⟨dv,cv,hd,hc,W,V,rfl,hhd,hhc,hG,hw'⟩:=hq
 have hw1:=wd_keptG hw (Gho.le.refl _) (owns_noimm (by
  intro r hr
  simp only [List.mem_cons,List.mem_append,List.not_mem_nil,or_false] at hr
  rcases hr with rfl | rfl | hr | hr
  ·exact ⟨_,_,_,_,rfl⟩
  ·exact ⟨_,_,_,_,rfl⟩
  ·exact inn_own r hr
  ·exact inn_own r hr)) hw'
 generalize hS:(Res.own (.slice la n lc) 3 1 (intRows (rowN n fun u=>(x.count (u:Int):Nat)))::.own (.slice xa xn xc) 3 1 (intRows x)::S)=S1 at hw1 ⊢
 generalize hIc:inn 3 1 (innM hc (mat (n+1) (n+1) W))=Ic at hw1
 generalize hId:inn 3 1 (innM hd (mat (n+1) (n+1) V))=Id at hw1
 have hp:(Res.own dv 29 1 (hdrs hd)::Res.own cv 29 1 (hdrs hc)::(Ic++(Id++[]))++S1).Perm (Res.own dv 29 1 (hdrs hd)::(Id++(Res.own cv 29 1 (hdrs hc)::(Ic++S1)))):=by
  rw [List.append_nil]
  simp only [List.cons_append,List.append_assoc]
  exact List.Perm.cons _ (List.perm_append_comm_assoc (Res.own cv 29 1 (hdrs hc)::Ic) Id S1)
 have hw2:=hw1.perm hp
 rw [← hId] at hw2
 obtain ⟨Γ1,h1,hV,hw3⟩:=mat_freeze (by rw [mat_len];exact hhd) hw2
 rw [← hIc] at hw3
 obtain ⟨Γ2,h2,hW,hw4⟩:=mat_freeze (by rw [mat_len];exact hhc) hw3
 obtain ⟨da,dc,rfl⟩:=hV.slice
 obtain ⟨ca,cc,rfl⟩:=hW.slice
 rw [mat_len] at hV hW ⊢
 exact ⟨Γ2,da,ca,dc,cc,W,V,h1.trans h2,by rw [mat_len],hG,hV.mono h2,hW,hw4⟩
end Go.Proofs.YthgighljhoneeaaGreatDoor
end
section
open Go Mk
namespace Go.Proofs.YthgighljhoneeaaGreatDoor
set_option maxHeartbeats 64000000
attribute [local irreducible] Calls
theorem mem_at {x:List Int} {v:Int} (h:v∈x):∃ i,i < x.length∧atI x i=v:=by
 obtain ⟨i,hi,rfl⟩:=List.mem_iff_getElem.1 h
 exact ⟨i,hi,by unfold atI;rw [List.getD_eq_getElem?_getD,List.getElem?_eq_getElem hi];rfl⟩
theorem phi_rng {n cap:Nat} {a:Nat→Int→Int} {x:List Int} {π:Int→Int} (hp:Pot n cap a x π) (u:Nat):-100000000000≤phiN n π u∧phiN n π u≤0:=by
 unfold phiN
 split
 ·rename_i h;exact ⟨hp.lo u h,hp.neg u h⟩
 ·omega
structure CB (n:Nat) (W:Nat→Nat→Int) (a:Nat→Int→Int) (d u:Nat) (F:Nat→Nat→Int) (best core:Int) (R:Nat→Int):Prop where
 got:∀ k,k < u→∃ R,PathsOk n W k (F k) R
 low:∀ k,k < u→F k n < farV→best≤F k n+a d k
 bst:(core = -1∧best=farV)∨∃ c:Nat,c < u∧core=c∧PathsOk n W c (F c) R∧best=F c n+a d c
def setF (F:Nat→Nat→Int) (u:Nat) (D:Nat→Int):Nat→Nat→Int:=fun k=>if k=u then D else F k
section
variable {n d u:Nat} {W:Nat→Nat→Int} {a:Nat→Int→Int} {F:Nat→Nat→Int} {best core:Int} {D R R':Nat→Int}
theorem CB.start:CB n W a d 0 F farV (-1) R:=⟨fun k h=>by omega,fun k h=>by omega,.inl ⟨rfl,rfl⟩⟩
theorem CB.take (h:CB n W a d u F best core R) (hP:PathsOk n W u D R') (h2:D n+a d u < best):CB n W a d (u+1) (setF F u D) (D n+a d u) u R':=by
 have e1:setF F u D u=D:=by unfold setF;rw [if_pos rfl]
 have e2:∀ k,k < u→setF F u D k=F k:=fun k hk=>by unfold setF;rw [if_neg (by omega)]
 refine ⟨fun k hk=>?_,fun k hk hf=>?_,.inr ⟨u,by omega,rfl,by rw [e1];exact hP,by rw [e1]⟩⟩
 ·by_cases e:k=u
  ·subst e;rw [e1];exact ⟨_,hP⟩
  ·rw [e2 k (by omega)];exact h.got k (by omega)
 ·by_cases e:k=u
  ·subst e;rw [e1];omega
  ·rw [e2 k (by omega)] at hf ⊢
   have:=h.low k (by omega) hf
   omega
theorem CB.skip (h:CB n W a d u F best core R) (hP:PathsOk n W u D R') (h2:¬ (D n < farV∧D n+a d u < best)):CB n W a d (u+1) (setF F u D) best core R:=by
 have e1:setF F u D u=D:=by unfold setF;rw [if_pos rfl]
 have e2:∀ k,k < u→setF F u D k=F k:=fun k hk=>by unfold setF;rw [if_neg (by omega)]
 refine ⟨fun k hk=>?_,fun k hk hf=>?_,?_⟩
 ·by_cases e:k=u
  ·subst e;rw [e1];exact ⟨_,hP⟩
  ·rw [e2 k (by omega)];exact h.got k (by omega)
 ·by_cases e:k=u
  ·subst e;rw [e1] at hf ⊢;omega
  ·rw [e2 k (by omega)] at hf ⊢;exact h.low k (by omega) hf
 ·rcases h.bst with hh | ⟨c,h3,h4,h5,h6⟩
  ·exact .inl hh
  ·exact .inr ⟨c,by omega,h4,by rw [e2 c h3];exact h5,by rw [e2 c h3];exact h6⟩
end
set_option maxRecDepth 8000 in
theorem complete_core {Γ:Gho} {bA n cap:Nat} {A:List (List Int)} {va xa la:Option Addr} {vn vc xc lc:Nat} (hB:ImB Γ bA #[.slice va vn vc,.int .i64 cap,.slice xa A.length xc,.slice la n lc] 105) (hM:MatF Γ (.slice va vn vc) A)
  (hn:n≤64) (hcap:0 < cap) (hC:CostM n A) (hl:A.length≤1000) (hroom:A.length≤n * cap) {S:List Res} {w:World}
  (hw:Wd Γ (.own (.slice la n lc) 3 1 (intRows (rowN n fun _=>0))::.own (.slice xa A.length xc) 3 1 (intRows (List.replicate A.length (-1)))::S) w) :
  Calls Tryz.prog 52 #[.pointer (some ⟨bA,0,none⟩)] w fun e w'=>∃ (Γ':Gho) (x:List Int) (π:Int→Int),Γ.le Γ'∧e=.returned (.tuple #[])∧x.length=A.length∧Pot n cap (aF A) x π∧(∀ i,i < A.length→0≤atI x i) ∧
   Wd Γ' (.own (.slice la n lc) 3 1 (intRows (rowN n fun u=>(x.count (u:Int):Nat)))::.own (.slice xa A.length xc) 3 1 (intRows x)::S) w':=by
 have hA:∀ i z:Nat,i < A.length→z < n→0≤aF A i z∧aF A i z≤1000000000:=fun i z hi hz=>by
  obtain ⟨r, -, -,h⟩:=hC.get hi
  exact (h z hz).2
 have hw:Wd Γ (.own (.slice la n lc) 3 1 (intRows (rowN n fun u=>((List.replicate A.length (-1:Int)).count (u:Int):Nat)))::.own (.slice xa A.length xc) 3 1 (intRows (List.replicate A.length (-1)))::S) w:=by
  have:rowN n (fun u=>(((List.replicate A.length (-1:Int)).count (u:Int):Nat):Int))=rowN n fun _=>0:=rowN_congr fun u _=>by
   rw [List.count_replicate,if_neg (by simp)]
   try rfl
  rw [this];exact hw
 refine calls_of_WC Tryz.func52 rfl rfl ?_
 repeat (first | refine byW ?_ | (refine byV ?_;intro w hw))
 refine lY (v:=.slice la n lc) ?_ (hy:=y_l1m hw rfl rfl)
 repeat (first | refine byW ?_ | (refine byV ?_;intro w hw))
 refine lY (v:=.slice xa A.length xc) ?_ (hy:=y_l1m hw rfl rfl)
 repeat (first | refine byW ?_ | (refine byV ?_;intro w hw))
 refine W_loop (fun μ ρ w=>∃ (d:Nat) (Γ':Gho) (x:List Int) (π:Int→Int),μ+d=A.length∧Γ.le Γ'∧x.length=A.length∧Pot n cap (aF A) x π∧(∀ i,i < d→0≤atI x i)∧(∀ i,d≤i→atI x i = -1)∧Has ρ [(0,.pointer (some ⟨bA,0,none⟩)),(2,.int .i64 n),(20,.int .i64 A.length),(21,.int .i64 d)]∧Wd Γ' (.own (.slice la n lc) 3 1 (intRows (rowN n fun u=>(x.count (u:Int):Nat)))::.own (.slice xa A.length xc) 3 1 (intRows x)::S) w) A.length
  ⟨0,Γ,List.replicate A.length (-1),fun _=>0,by omega,Gho.le.refl _,by simp,Pot.start,fun i h=>by omega,fun i _=>by unfold atI;rw [List.getD_eq_getElem?_getD,List.getElem?_replicate];split <;> rfl,⟨rfl,rfl,rfl,rfl,trivial⟩,hw⟩ ?_
 clear hw
 rintro μ ρ w ⟨d,Γ1,x,π,hμ,hle1,hxl,hp,hpre,hpost,hρ,hw⟩
 rw [hρ.eq]
 clear hρ
 have hB1:=hB.mono hle1
 have hM1:=hM.mono hle1
 repeat (first | refine byW ?_ | (refine byV ?_;intro w hw))
 refine W_cond rfl (fun h=>?_) (fun h=>?_)
 ·have hdl:d < A.length:=by have:=of_decide_eq_true h;omega
  clear h
  repeat (first | refine byW ?_ | (refine byV ?_;intro w hw))
  refine lCall ?_
  refine (graph_any (first:=0) hB1 hM1 hn hC hxl.symm (fun v hv=>by obtain ⟨i,hi,rfl⟩:=mem_at hv;exact hp.rng i hi) (by omega) (by omega) hw).mono fun e w hq=>?_
  obtain ⟨Γ2,da,ca,dc,cc,W,V,hle2,rfl,hG,hMV,hMW,hw⟩:=hq
  refine ⟨_,rfl,?_⟩
  have hB2:=hB1.mono hle2
  have hM2:=hM1.mono hle2
  have hG:=hG.done
  have hφ:=hp.graph hG
  have hrng:=phi_rng hp
  clear hB1 hM1
  obtain ⟨r,hr,hrl,hrc⟩:=hC.get hdl
  obtain ⟨ra,rn,rc,hs',hrn,rr,rh,hru⟩:=hM2.at hr
  have hrn:n=rn:=by omega
  subst hrn
  have hvn:=hM.row.1
  refine lAlloc ?_
  intro b4 w hw
  refine lStore ?_
  intro w hw
  have hw:Wd Γ2 (.blk b4 (.cells #[.slice da (n+1) dc,.slice ca (n+1) cc] 129)::.own (.slice la n lc) 3 1 (intRows (rowN n fun u=>(x.count (u:Int):Nat)))::.own (.slice xa A.length xc) 3 1 (intRows x)::S) w:=hw
  repeat (first | refine byW ?_ | (refine byV ?_;intro w hw))
  refine lY (v:=.slice la n lc) ?_ (hy:=y_l1m hw rfl rfl)
  repeat (first | refine byW ?_ | (refine byV ?_;intro w hw))
  refine W_loop (fun μ2 ρ w=>∃ (u:Nat) (Γ3:Gho) (F:Nat→Nat→Int) (best core:Int) (prev:Value) (R:Nat→Int),μ2+u=n∧Γ2.le Γ3∧CB n W (aF A) d u F best core R∧(core≠-1→RepS Γ3 prev 1 (intRows (rowN (n+1) R)))∧best≤farV ∧
   Has ρ [(0,.pointer (some ⟨bA,0,none⟩)),(2,.int .i64 n),(20,.int .i64 A.length),(21,.int .i64 d),(3,.int .i64 d),(4,.pointer (some ⟨b4,0,none⟩)),(5,.int .i64 best),(6,.int .i64 core),(7,prev),(30,.int .i64 n),(31,.int .i64 u)]∧Wd Γ3 (.blk b4 (.cells #[.slice da (n+1) dc,.slice ca (n+1) cc] 129)::.own (.slice la n lc) 3 1 (intRows (rowN n fun u=>(x.count (u:Int):Nat)))::.own (.slice xa A.length xc) 3 1 (intRows x)::S) w) n ⟨0,Γ2,fun _ _=>0,farV, -1,.slice none 0 0,fun _=>0,by omega,Gho.le.refl _,CB.start,fun h=>absurd rfl h,Int.le_refl _,⟨rfl,rfl,rfl,rfl,rfl,rfl,rfl,rfl,rfl,rfl,rfl,trivial⟩,hw⟩ ?_
  clear hw
  rintro μ2 ρ w ⟨u,Γ3,F,best,core,prev,R,hμ2,hle3,hCB,hprev,hbf,hρ,hw⟩
  rw [hρ.eq]
  clear hρ
  have hB3:=hB2.mono hle3
  repeat (first | refine byW ?_ | (refine byV ?_;intro w hw))
  refine W_cond rfl (fun h=>?_) (fun h=>?_)
  ·have hun:u < n:=by have:=of_decide_eq_true h;omega
   clear h
   repeat (first | refine byW ?_ | (refine byV ?_;intro w hw))
   refine lCall ?_
   refine (paths_core (s:=u) (hMW.mono hle3) hn (by omega) hφ (fun v _=>by have h1:=hrng v;have h2:=hrng u;omega) hw).mono fun e w hq=>?_
   obtain ⟨a4,a5,D,R',rfl,hP,hlow,hw⟩:=hq
   refine ⟨_,rfl,?_⟩
   obtain ⟨Γ4,h4,rR,hw4⟩:=hw.freeze
   obtain ⟨Γ5,h5,rD,hw5⟩:=hw4.freeze
   clear hw hw4
   have hw:=hw5
   clear hw5
   have rR:=rR.mono h5
   have hle5:Γ2.le Γ5:=hle3.trans (h4.trans h5)
   have hB5:=hB2.mono hle5
   have rr5:=rr.mono hle5
   have rh5:=rh.mono hle5
   have hDn:(intRows (rowN (n+1) D))[n]? = some [.int .i64 (D n)]:=rowI_get (by omega)
   have f1:D n < 1152921504606846976→-100000000000≤D n:=fun h=>by
    have h1:=hlow n (Nat.le_refl _) h
    have h2:=hrng n
    have h3:=hrng u
    omega
   obtain ⟨hcg,hc1,hc2⟩:=hrc u hun
   obtain ⟨p,hpe⟩:∃ p,p=aF A d u:=⟨_,rfl⟩
   rw [← hpe] at hcg hc1 hc2
   have hcg:=intsI_get hcg
   clear hB3
   repeat (first | refine byW ?_ | (refine byV ?_;intro w hw))
   refine W_quiet (by kernel_rfl) (by kernel_rfl) hw ?_
   repeat (first | refine Q_nil ?_ | (apply Q_plain;first | (apply Q_go;first | refine qP ?_ | refine qPg ?_) | refine qY ?_) | (apply Q_guarded;first | (apply Q_go;first | refine qPG ?_ | refine qPgG ?_) | refine qG ?_))
   refine qY (v:=.int .i64 (D n)) ?_ (hy:=fun w hw=>y_loadE1 rfl (rD.rd hw) hDn)
   repeat (first | refine Q_nil ?_ | (apply Q_plain;first | (apply Q_go;first | refine qP ?_ | refine qPg ?_) | refine qY ?_) | (apply Q_guarded;first | (apply Q_go;first | refine qPG ?_ | refine qPgG ?_) | refine qG ?_))
   refine qG (v:=.pointer (some ⟨aB (some a4),aO (some a4)+n * 1,none⟩)) ?_ (hy:=fun hg w hw=>y_idxI (i:=(n:Int)) hw rD (gvT hg rfl) (gvT hg rfl) (by omega) (by omega))
   repeat (first | refine Q_nil ?_ | (apply Q_plain;first | (apply Q_go;first | refine qP ?_ | refine qPg ?_) | refine qY ?_) | (apply Q_guarded;first | (apply Q_go;first | refine qPG ?_ | refine qPgG ?_) | refine qG ?_))
   refine qG (v:=.int .i64 (D n)) ?_ (hy:=fun hg w hw=>y_loadE1 (gvT hg rfl) (rD.rd hw) hDn)
   repeat (first | refine Q_nil ?_ | (apply Q_plain;first | (apply Q_go;first | refine qP ?_ | refine qPg ?_) | refine qY ?_) | (apply Q_guarded;first | (apply Q_go;first | refine qPG ?_ | refine qPgG ?_) | refine qG ?_))
   refine qG (v:=.slice va vn vc) ?_ (hy:=fun hg w hw=>y_l1m hw (gvT hg rfl) rfl)
   repeat (first | refine Q_nil ?_ | (apply Q_plain;first | (apply Q_go;first | refine qP ?_ | refine qPg ?_) | refine qY ?_) | (apply Q_guarded;first | (apply Q_go;first | refine qPG ?_ | refine qPgG ?_) | refine qG ?_))
   refine qG (v:=.slice ra n rc) ?_ (hy:=fun hg w hw=>y_loadE1 (gvT hg rfl) (rh5.rd hw) hru)
   repeat (first | refine Q_nil ?_ | (apply Q_plain;first | (apply Q_go;first | refine qP ?_ | refine qPg ?_) | refine qY ?_) | (apply Q_guarded;first | (apply Q_go;first | refine qPG ?_ | refine qPgG ?_) | refine qG ?_))
   refine qG (v:=.pointer (some ⟨aB ra,aO ra+u * 1,none⟩)) ?_ (hy:=fun hg w hw=>y_idxI (i:=(u:Int)) hw rr5 (gvT hg rfl) (gvT hg rfl) (by omega) (by omega))
   repeat (first | refine Q_nil ?_ | (apply Q_plain;first | (apply Q_go;first | refine qP ?_ | refine qPg ?_) | refine qY ?_) | (apply Q_guarded;first | (apply Q_go;first | refine qPG ?_ | refine qPgG ?_) | refine qG ?_))
   intro w hw
   repeat (first | refine byW ?_ | (refine byV ?_;intro w hw))
   refine W_cond rfl (fun h=>?_) (fun h=>?_)
   ·simp only [Bool.and_eq_true,decide_eq_true_eq] at h
    have hlt:=h.2
    have f3:=f1 h.1
    have f4:=h.1
    clear h
    refine W_quiet (by kernel_rfl) (by kernel_rfl) hw ?_
    repeat (first | refine Q_nil ?_ | (apply Q_plain;first | (apply Q_go;first | refine qP ?_ | refine qPg ?_) | refine qY ?_) | (apply Q_guarded;first | (apply Q_go;first | refine qPG ?_ | refine qPgG ?_) | refine qG ?_))
    refine qY (v:=.int .i64 (D n)) ?_ (hy:=fun w hw=>y_loadE1 rfl (rD.rd hw) hDn)
    repeat (first | refine Q_nil ?_ | (apply Q_plain;first | (apply Q_go;first | refine qP ?_ | refine qPg ?_) | refine qY ?_) | (apply Q_guarded;first | (apply Q_go;first | refine qPG ?_ | refine qPgG ?_) | refine qG ?_))
    refine qY (v:=.slice va vn vc) ?_ (hy:=fun w hw=>y_l1m hw rfl rfl)
    repeat (first | refine Q_nil ?_ | (apply Q_plain;first | (apply Q_go;first | refine qP ?_ | refine qPg ?_) | refine qY ?_) | (apply Q_guarded;first | (apply Q_go;first | refine qPG ?_ | refine qPgG ?_) | refine qG ?_))
    refine qY (v:=.slice ra n rc) ?_ (hy:=fun w hw=>y_loadE1 rfl (rh5.rd hw) hru)
    repeat (first | refine Q_nil ?_ | (apply Q_plain;first | (apply Q_go;first | refine qP ?_ | refine qPg ?_) | refine qY ?_) | (apply Q_guarded;first | (apply Q_go;first | refine qPG ?_ | refine qPgG ?_) | refine qG ?_))
    intro w hw
    repeat (first | refine byW ?_ | (refine byV ?_;intro w hw))
    exact ⟨n - u - 1,by omega,u+1,Γ5,setF F u D,D n+p,u,.slice (some a5) (n+1) (n+1),R',by omega,hle5,by rw [hpe] at hlt ⊢;exact hCB.take hP hlt,fun _=>rR,by omega,⟨rfl,rfl,rfl,rfl,rfl,rfl,rfl,rfl,rfl,rfl,rfl,trivial⟩,hw⟩
   ·have hsk:¬ (D n < farV∧D n+aF A d u < best):=by
     simp only [Bool.and_eq_false_iff,decide_eq_false_iff_not] at h
     rw [← hpe]
     unfold farV
     omega
    clear h
    repeat (first | refine byW ?_ | (refine byV ?_;intro w hw))
    exact ⟨n - u - 1,by omega,u+1,Γ5,setF F u D,best,core,prev,R,by omega,hle5,hCB.skip hP hsk,fun h=>(hprev h).mono (h4.trans h5),hbf,⟨rfl,rfl,rfl,rfl,rfl,rfl,rfl,rfl,rfl,rfl,rfl,trivial⟩,hw⟩
  ·have hun:n=u:=by have:=of_decide_eq_false h;omega
   clear h
   subst hun
   have hW0:=hG.out
   obtain ⟨v,hv,hvr⟩:=has_room (cap:=cap) (n:=n) (x:=x) hpost (Nat.lt_of_lt_of_le hdl hroom)
   obtain ⟨Rv,hPv⟩:=hCB.got v hv
   have hFv:F v n≤0:=by
    have h1:=hW0 v hv hvr
    have h2:=hPv.tri v n (by omega) (Nat.le_refl _) (by rw [hPv.src];unfold farV;omega) (by unfold farV;omega)
    rw [hPv.src] at h2
    omega
   have hbv:=hCB.low v hv (by unfold farV;omega)
   have hav:=hA d v hdl hv
   rcases hCB.bst with ⟨-,hbb⟩ | ⟨c,hcn,rfl,hPc,hbc⟩
   ·exfalso
    rw [hbb] at hbv
    unfold farV at hbv
    omega
   obtain ⟨l0,hbk,⟨π',hp'⟩,hl',hpo',hpr'⟩:=place_next hn hcap (fun i z hi hz=>hA i z (by omega) hz) hp hG (by omega) hpre hpost (Nat.lt_of_lt_of_le hdl hroom) hCB.got hcn hPc (fun k hk hf=>by rw [← hbc];exact hCB.low k hk hf)
   have hpv:=hprev (by omega)
   obtain ⟨pa,pn,pc,rfl,hpn, -, -⟩:=hpv.shape
   simp only [intRows,List.length_map,rowN_len] at hpn
   subst hpn
   repeat (first | refine byW ?_ | (refine byV ?_;intro w hw))
   refine lCall ?_
   refine (put_core (x:=x) (d:=d) (s:=c) (v0:=n) hB3 (hMV.mono hle3) hpv (fun u v h1 h2 h3=>by
    rcases hG.real u v h1 h2 h3 with h | h | ⟨-, -, -,k, -,h5,h6, -⟩
    ·exact .inl (by omega)
    ·exact .inl (by omega)
    ·exact .inr (by omega)) hbk (Nat.le_refl _) (by omega) (by omega) (fun z hz=>by obtain ⟨i,hi,rfl⟩:=mem_at hz;exact (hp'.rng i hi).2) (by omega) hn hxl.symm (hw.ds [0])).mono fun e w hq=>?_
   obtain ⟨rfl,hw⟩:=hq
   refine ⟨_,rfl,?_⟩
   repeat (first | refine byW ?_ | (refine byV ?_;intro w hw))
   exact ⟨A.length - d - 1,by omega,d+1,Γ3,(moveL V l0 x).set d c,π',by omega,hle1.trans (hle2.trans hle3),by omega,hp',fun i hi=>hpr' i (by omega),fun i hi=>hpo' i (by omega),⟨rfl,rfl,rfl,rfl,trivial⟩,hw⟩
 ·have hdl:d=A.length:=by have:=of_decide_eq_false h;omega
  clear h
  subst hdl
  repeat (first | refine byW ?_ | (refine byV ?_;intro w hw))
  exact ⟨[],trivial,Γ1,x,π,hle1,rfl,hxl,hp,hpre,hw⟩
end Go.Proofs.YthgighljhoneeaaGreatDoor
end
section
open Go Mk
namespace Go.Proofs.YthgighljhoneeaaGreatDoor
set_option maxHeartbeats 64000000
attribute [local irreducible] Calls
def NoB (n cap:Nat) (a:Nat→Int→Int) (x:List Int) (d b:Nat):Prop:=∀ y,Full n cap y→y.length=x.length→costA a y=costA a x→(∀ i,i < d→atI y i=atI x i)→∀ k:Nat,k < b→atI y d≠k
theorem lex_keep {n cap d old:Nat} {a:Nat→Int→Int} {x:List Int} (h:LexD n cap a x d) (hb:NoB n cap a x d old) (hd:d < x.length) (ho:atI x d=(old:Int)):LexD n cap a x (d+1):=fun y hy hl hc e he hpre=>by
 by_cases e1:e=d
 ·subst e1
  have h1:=hb y hy hl hc hpre
  have h2:=hy.rng _ (atI_mem (x:=y) (i:=e) (by omega))
  rw [ho]
  have h3:=h1 (atI y e).toNat
  omega
 ·exact h y hy hl hc e (by omega) hpre
theorem lex_move {n cap d b:Nat} {a:Nat→Int→Int} {x x':List Int} (h:LexD n cap a x d) (hb:NoB n cap a x d b) (hd:d < x.length) (hl:x'.length=x.length) (hpr:∀ i,i < d→atI x' i=atI x i) (ho:atI x' d=(b:Int)) (hc:costA a x'=costA a x):LexD n cap a x' (d+1):=fun y hy hl2 hc2 e he hpre=>by
 have hc3:costA a y=costA a x:=by omega
 by_cases e1:e=d
 ·subst e1
  have h1:=hb y hy (by omega) hc3 (fun i hi=>by rw [hpre i hi,hpr i hi])
  have h2:=hy.rng _ (atI_mem (x:=y) (i:=e) (by omega))
  rw [ho]
  have h3:=h1 (atI y e).toNat
  omega
 ·rw [hpr e (by omega)]
  exact h y hy (by omega) hc3 e (by omega) fun i hi=>by rw [hpre i hi,hpr i (by omega)]
set_option maxRecDepth 8000 in
theorem least_core {Γ:Gho} {bA n cap:Nat} {A:List (List Int)} {x0:List Int} {π:Int→Int} {va xa la:Option Addr} {vn vc xc lc:Nat} (hB:ImB Γ bA #[.slice va vn vc,.int .i64 cap,.slice xa A.length xc,.slice la n lc] 105) (hM:MatF Γ (.slice va vn vc) A)
  (hn:n≤64) (hcap:0 < cap) (hC:CostM n A) (hl:A.length≤1000) (hx0:x0.length=A.length) (hp0:Pot n cap (aF A) x0 π) (hr0:∀ v∈x0,0≤v∧v < n) {S:List Res} {w:World}
  (hw:Wd Γ (.own (.slice la n lc) 3 1 (intRows (rowN n fun u=>(x0.count (u:Int):Nat)))::.own (.slice xa A.length xc) 3 1 (intRows x0)::S) w) :
  Calls Tryz.prog 53 #[.pointer (some ⟨bA,0,none⟩)] w fun e w'=>∃ (Γ':Gho) (x:List Int),Γ.le Γ'∧e=.returned (.tuple #[])∧x.length=A.length∧Best n cap (aF A) x ∧
   Wd Γ' (.own (.slice la n lc) 3 1 (intRows (rowN n fun u=>(x.count (u:Int):Nat)))::.own (.slice xa A.length xc) 3 1 (intRows x)::S) w':=by
 have hA:∀ i z:Nat,i < A.length→z < n→0≤aF A i z∧aF A i z≤1000000000:=fun i z hi hz=>by
  obtain ⟨r, -, -,h⟩:=hC.get hi
  exact (h z hz).2
 refine calls_of_WC Tryz.func53 rfl rfl ?_
 refine W_scopeS ?_
 refine W_seq ?_
 refine W_label ?_
 repeat (first | refine byW ?_ | (refine byV ?_;intro w hw))
 refine lY (v:=.slice xa A.length xc) ?_ (hy:=y_l1m hw rfl rfl)
 repeat (first | refine byW ?_ | (refine byV ?_;intro w hw))
 refine W_loop (fun μ ρ w=>∃ (d:Nat) (Γ':Gho) (x:List Int),μ+d=A.length∧Γ.le Γ'∧x.length=A.length∧Pot n cap (aF A) x π∧(∀ v∈x,0≤v∧v < n)∧LexD n cap (aF A) x d∧Has ρ [(0,.pointer (some ⟨bA,0,none⟩)),(12,.int .i64 A.length),(13,.int .i64 d)]∧Wd Γ' (.own (.slice la n lc) 3 1 (intRows (rowN n fun u=>(x.count (u:Int):Nat)))::.own (.slice xa A.length xc) 3 1 (intRows x)::S) w) A.length
  ⟨0,Γ,x0,by omega,Gho.le.refl _,hx0,hp0,hr0,fun y _ _ _ e he=>by omega,⟨rfl,rfl,rfl,trivial⟩,hw⟩ ?_
 clear hw hp0 hr0 hx0 x0
 rintro μ ρ w ⟨d,Γ1,x,hμ,hle1,hxl,hp,hfx,hL,hρ,hw⟩
 rw [hρ.eq]
 clear hρ
 have hB1:=hB.mono hle1
 have hM1:=hM.mono hle1
 repeat (first | refine byW ?_ | (refine byV ?_;intro w hw))
 refine W_cond rfl (fun h=>?_) (fun h=>?_)
 ·have hdl:d < A.length:=by have:=of_decide_eq_true h;omega
  clear h
  obtain ⟨z,hz⟩:=get_lt (l:=x) (k:=d) (by omega)
  have hzx:=hfx z (List.mem_of_getElem? hz)
  obtain ⟨old,rfl⟩:∃ old:Nat,z=old:=⟨z.toNat,by omega⟩
  have hold:atI x d=(old:Int):=by unfold atI;rw [List.getD_eq_getElem?_getD,hz];rfl
  have hon:old < n:=by omega
  have hzg:=intsI_get hz
  repeat (first | refine byW ?_ | (refine byV ?_;intro w hw))
  refine lY (v:=.slice xa A.length xc) ?_ (hy:=y_l1m hw rfl rfl)
  repeat (first | refine byW ?_ | (refine byV ?_;intro w hw))
  refine lCall ?_
  refine (graph_any (first:=d+1) hB1 hM1 hn hC hxl.symm (fun v hv=>by have:=hfx v hv;omega) (by omega) (by omega) hw).mono fun e w hq=>?_
  obtain ⟨Γ2,da,ca,dc,cc,W,V,hle2,rfl,hG,hMV,hMW,hw⟩:=hq
  refine ⟨_,rfl,?_⟩
  have hB2:=hB1.mono hle2
  have hM2:=hM1.mono hle2
  have hG:=hG.done
  have hφ:=hp.graph hG
  have hrng:=phi_rng hp
  clear hB1 hM1
  obtain ⟨r,hr,hrl,hrc⟩:=hC.get hdl
  obtain ⟨ra,rn,rc,hs',hrn,rr,rh,hru⟩:=hM2.at hr
  have hrn:n=rn:=by omega
  subst hrn
  have hvn:=hM.row.1
  refine lAlloc ?_
  intro b4 w hw
  refine lStore ?_
  intro w hw
  have hw:Wd Γ2 (.blk b4 (.cells #[.slice da (n+1) dc,.slice ca (n+1) cc] 129)::.own (.slice la n lc) 3 1 (intRows (rowN n fun u=>(x.count (u:Int):Nat)))::.own (.slice xa A.length xc) 3 1 (intRows x)::S) w:=hw
  repeat (first | refine byW ?_ | (refine byV ?_;intro w hw))
  refine W_loop (fun μ2 ρ w=>∃ (b:Nat) (Γ3:Gho),μ2+b=old∧Γ2.le Γ3∧NoB n cap (aF A) x d b ∧
   Has ρ [(0,.pointer (some ⟨bA,0,none⟩)),(12,.int .i64 A.length),(13,.int .i64 d),(2,.int .i64 d),(3,.int .i64 old),(4,.pointer (some ⟨b4,0,none⟩)),(5,.int .i64 b)]∧Wd Γ3 (.blk b4 (.cells #[.slice da (n+1) dc,.slice ca (n+1) cc] 129)::.own (.slice la n lc) 3 1 (intRows (rowN n fun u=>(x.count (u:Int):Nat)))::.own (.slice xa A.length xc) 3 1 (intRows x)::S) w) old ⟨0,Γ2,by omega,Gho.le.refl _,fun y _ _ _ _ k hk=>by omega,⟨rfl,rfl,rfl,rfl,rfl,rfl,rfl,trivial⟩,hw⟩ ?_
  clear hw
  rintro μ2 ρ w ⟨b,Γ3,hμ2,hle3,hNB,hρ,hw⟩
  rw [hρ.eq]
  clear hρ
  have hB3:=hB2.mono hle3
  repeat (first | refine byW ?_ | (refine byV ?_;intro w hw))
  refine W_cond rfl (fun h=>?_) (fun h=>?_)
  ·have hbo:b < old:=by have:=of_decide_eq_true h;omega
   clear h
   repeat (first | refine byW ?_ | (refine byV ?_;intro w hw))
   refine lCall ?_
   refine (paths_core (s:=b) (hMW.mono hle3) hn (by omega) hφ (fun v _=>by have h1:=hrng v;have h2:=hrng b;omega) hw).mono fun e w hq=>?_
   obtain ⟨a4,a5,D,R',rfl,hP,hlow,hw⟩:=hq
   refine ⟨_,rfl,?_⟩
   obtain ⟨Γ4,h4,rR,hw4⟩:=hw.freeze
   obtain ⟨Γ5,h5,rD,hw5⟩:=hw4.freeze
   clear hw hw4
   have hw:=hw5
   clear hw5
   have rR:=rR.mono h5
   have hle5:Γ2.le Γ5:=hle3.trans (h4.trans h5)
   have hB5:=hB2.mono hle5
   have rr5:=rr.mono hle5
   have rh5:=rh.mono hle5
   have hDo:(intRows (rowN (n+1) D))[old]? = some [.int .i64 (D old)]:=rowI_get (by omega)
   have f1:D old < 1152921504606846976→-100000000000≤D old:=fun h=>by
    have h1:=hlow old (by omega) h
    have h2:=hrng old
    have h3:=hrng b
    omega
   obtain ⟨hcg,hc1,hc2⟩:=hrc b (by omega)
   obtain ⟨hcq,hq1,hq2⟩:=hrc old (by omega)
   obtain ⟨p,hpe⟩:∃ p,p=aF A d b:=⟨_,rfl⟩
   obtain ⟨q,hqe⟩:∃ q,q=aF A d old:=⟨_,rfl⟩
   rw [← hpe] at hcg hc1 hc2
   rw [← hqe] at hcq hq1 hq2
   have hcg1:=intsI_get hcg
   have hcq1:=intsI_get hcq
   clear hB3
   repeat (first | refine byW ?_ | (refine byV ?_;intro w hw))
   refine W_quiet (by kernel_rfl) (by kernel_rfl) hw ?_
   repeat (first | refine Q_nil ?_ | (apply Q_plain;first | (apply Q_go;first | refine qP ?_ | refine qPg ?_) | refine qY ?_) | (apply Q_guarded;first | (apply Q_go;first | refine qPG ?_ | refine qPgG ?_) | refine qG ?_))
   refine qY (v:=.int .i64 (D old)) ?_ (hy:=fun w hw=>y_loadE1 rfl (rD.rd hw) hDo)
   repeat (first | refine Q_nil ?_ | (apply Q_plain;first | (apply Q_go;first | refine qP ?_ | refine qPg ?_) | refine qY ?_) | (apply Q_guarded;first | (apply Q_go;first | refine qPG ?_ | refine qPgG ?_) | refine qG ?_))
   refine qG (v:=.pointer (some ⟨aB (some a4),aO (some a4)+old * 1,none⟩)) ?_ (hy:=fun hg w hw=>y_idxI (i:=(old:Int)) hw rD (gvT hg rfl) (gvT hg rfl) (by omega) (by omega))
   repeat (first | refine Q_nil ?_ | (apply Q_plain;first | (apply Q_go;first | refine qP ?_ | refine qPg ?_) | refine qY ?_) | (apply Q_guarded;first | (apply Q_go;first | refine qPG ?_ | refine qPgG ?_) | refine qG ?_))
   refine qG (v:=.int .i64 (D old)) ?_ (hy:=fun hg w hw=>y_loadE1 (gvT hg rfl) (rD.rd hw) hDo)
   repeat (first | refine Q_nil ?_ | (apply Q_plain;first | (apply Q_go;first | refine qP ?_ | refine qPg ?_) | refine qY ?_) | (apply Q_guarded;first | (apply Q_go;first | refine qPG ?_ | refine qPgG ?_) | refine qG ?_))
   refine qG (v:=.slice va vn vc) ?_ (hy:=fun hg w hw=>y_l1m hw (gvT hg rfl) rfl)
   repeat (first | refine Q_nil ?_ | (apply Q_plain;first | (apply Q_go;first | refine qP ?_ | refine qPg ?_) | refine qY ?_) | (apply Q_guarded;first | (apply Q_go;first | refine qPG ?_ | refine qPgG ?_) | refine qG ?_))
   refine qG (v:=.slice ra n rc) ?_ (hy:=fun hg w hw=>y_loadE1 (gvT hg rfl) (rh5.rd hw) hru)
   repeat (first | refine Q_nil ?_ | (apply Q_plain;first | (apply Q_go;first | refine qP ?_ | refine qPg ?_) | refine qY ?_) | (apply Q_guarded;first | (apply Q_go;first | refine qPG ?_ | refine qPgG ?_) | refine qG ?_))
   refine qG (v:=.pointer (some ⟨aB ra,aO ra+b * 1,none⟩)) ?_ (hy:=fun hg w hw=>y_idxI (i:=(b:Int)) hw rr5 (gvT hg rfl) (gvT hg rfl) (by omega) (by omega))
   repeat (first | refine Q_nil ?_ | (apply Q_plain;first | (apply Q_go;first | refine qP ?_ | refine qPg ?_) | refine qY ?_) | (apply Q_guarded;first | (apply Q_go;first | refine qPG ?_ | refine qPgG ?_) | refine qG ?_))
   refine qG (v:=.slice va vn vc) ?_ (hy:=fun hg w hw=>y_l1m hw (gvT hg rfl) rfl)
   repeat (first | refine Q_nil ?_ | (apply Q_plain;first | (apply Q_go;first | refine qP ?_ | refine qPg ?_) | refine qY ?_) | (apply Q_guarded;first | (apply Q_go;first | refine qPG ?_ | refine qPgG ?_) | refine qG ?_))
   refine qG (v:=.slice ra n rc) ?_ (hy:=fun hg w hw=>y_loadE1 (gvT hg rfl) (rh5.rd hw) hru)
   repeat (first | refine Q_nil ?_ | (apply Q_plain;first | (apply Q_go;first | refine qP ?_ | refine qPg ?_) | refine qY ?_) | (apply Q_guarded;first | (apply Q_go;first | refine qPG ?_ | refine qPgG ?_) | refine qG ?_))
   refine qG (v:=.pointer (some ⟨aB ra,aO ra+old * 1,none⟩)) ?_ (hy:=fun hg w hw=>y_idxI (i:=(old:Int)) hw rr5 (gvT hg rfl) (gvT hg rfl) (by omega) (by omega))
   repeat (first | refine Q_nil ?_ | (apply Q_plain;first | (apply Q_go;first | refine qP ?_ | refine qPg ?_) | refine qY ?_) | (apply Q_guarded;first | (apply Q_go;first | refine qPG ?_ | refine qPgG ?_) | refine qG ?_))
   intro w hw
   repeat (first | refine byW ?_ | (refine byV ?_;intro w hw))
   refine W_cond rfl (fun h=>?_) (fun h=>?_)
   ·simp only [Bool.and_eq_true,decide_eq_true_eq] at h
    obtain ⟨f4,heq⟩:=h
    rw [hpe,hqe] at heq
    obtain ⟨l0,hbk,hp',hl',hpr',hbd',hfx'⟩:=lex_step (fun i z hi hz=>hA i z (by omega) hz) hp hfx hG (by omega) hP (by omega) hold hon f4 heq
    have hcost:costA (aF A) ((moveL V l0 x).set d b)=costA (aF A) x:=by
     have h1:=hp.least hfx ⟨hfx',hp'.cap⟩ hl'
     have h2:=hp'.least hfx' ⟨hfx,hp.cap⟩ hl'.symm
     omega
    repeat (first | refine byW ?_ | (refine byV ?_;intro w hw))
    refine lCall ?_
    refine (put_core (x:=x) (d:=d) (s:=b) (v0:=old) hB5 (hMV.mono hle5) rR (fun u v h1 h2 h3=>by
     rcases hG.real u v h1 h2 h3 with h | h | ⟨-, -, -,k, -,h5,h6, -⟩
     ·exact .inl (by omega)
     ·exact .inl (by omega)
     ·exact .inr (by omega)) hbk (by omega) (by omega) (by omega) (fun z hz=>(hfx' z hz).2) (by omega) hn hxl.symm (hw.ds [0])).mono fun e w hq=>?_
    obtain ⟨rfl,hw⟩:=hq
    refine ⟨_,rfl,?_⟩
    repeat (first | refine byW ?_ | (refine byV ?_;intro w hw))
    exact ⟨A.length - d - 1,by omega,d+1,Γ5,(moveL V l0 x).set d b,by omega,hle1.trans (hle2.trans hle5),by omega,hp',hfx',lex_move hL hNB (by omega) hl' hpr' hbd' hcost,⟨rfl,rfl,rfl,trivial⟩,hw⟩
   ·have hsk:¬ (D old < farV∧D old+aF A d b=aF A d old):=by
     simp only [Bool.and_eq_false_iff,decide_eq_false_iff_not] at h
     rw [← hpe,← hqe]
     unfold farV
     omega
    clear h
    have hNB2:NoB n cap (aF A) x d (b+1):=fun y hy hly hcy hpre k hk hyk=>by
     by_cases e:k=b
     ·subst e
      exact hsk (lex_found hn hcap (fun i z hi hz=>hA i z (by omega) hz) hp hfx hG (by omega) hP (by omega) hold hon hy hly hcy hpre hyk)
     ·exact hNB y hy hly hcy hpre k (by omega) hyk
    repeat (first | refine byW ?_ | (refine byV ?_;intro w hw))
    exact ⟨old - b - 1,by omega,b+1,Γ5,by omega,hle5,hNB2,⟨rfl,rfl,rfl,rfl,rfl,rfl,rfl,trivial⟩,hw⟩
  ·have hbo:b=old:=by have:=of_decide_eq_false h;omega
   clear h
   rw [hbo] at hNB
   repeat (first | refine byW ?_ | (refine byV ?_;intro w hw))
   exact ⟨A.length - d - 1,by omega,d+1,Γ3,x,by omega,hle1.trans (hle2.trans hle3),hxl,hp,hfx,lex_keep hL hNB (by omega) hold,⟨rfl,rfl,rfl,trivial⟩,hw.ds [0]⟩
 ·have hdl:d=x.length:=by have:=of_decide_eq_false h;omega
  clear h
  rw [hdl] at hL
  repeat (first | refine byW ?_ | (refine byV ?_;intro w hw))
  exact ⟨[],trivial,Γ1,x,hle1,rfl,hxl,⟨⟨hfx,hp.cap⟩,fun y hy hly=>hp.least hfx hy hly,hL⟩,hw⟩
end Go.Proofs.YthgighljhoneeaaGreatDoor
end
section
open Go Mk
namespace Go.Proofs.YthgighljhoneeaaGreatDoor
set_option maxHeartbeats 64000000
attribute [local irreducible] Calls
theorem cmpD_any {Γ:Gho} {S:List Res} {w:World} (a b:DevT) (hw:Wd Γ S w):Calls Tryz.prog 51 #[.agg (enc a).toArray,.agg (enc b).toArray] w fun e w'=>e=.returned (.int .i64 (cI a.IRQ b.IRQ))∧Wd Γ S w':=by
 refine calls_of_W Tryz.func51 rfl rfl ?_
 repeat (first | refine byW ?_ | (refine byV ?_;intro w hw))
 refine lBox ?_
 intro b2 w hw
 refine lBox ?_
 intro b3 w hw
 have hw:Wd Γ (.blk b3 (.cells (enc b).toArray 63)::.blk b2 (.cells (enc a).toArray 63)::S) w:=hw
 repeat (first | refine byW ?_ | (refine byV ?_;intro w hw))
 exact ⟨_,rfl,rfl,hw.ds [0,0]⟩
theorem cloneD_any {Γ : Gho} {S : List Res} {w : World} {v : Value} {xs : List DevT} (hr : RepS Γ v 5 (xs.map enc)) (hN : xs.length ≤ 1000000) (hw : Wd Γ S w) :
    Calls Tryz.prog 49 #[v] w fun e w'=>∃ v',e=.returned v'∧Wd Γ (.own v' 63 5 (xs.map enc)::S) w':=by
  obtain ⟨a,n,c,rfl,hn,hnc,hc⟩:=hr.shape
  have hn:n=xs.length:=by simpa using hn
  refine calls_of_W Tryz.func49 rfl rfl ?_
  repeat (first | refine byW ?_ | (refine byV ?_;intro w hw))
  refine W_cond rfl (fun h=>?_) (fun h=>?_)
  · repeat (first | refine byW ?_ | (refine byV ?_;intro w hw))
    have hx:xs=[]:=by
      cases a with
      | none=>
        cases xs with
        | nil=>rfl
        | cons x xs=>have:=(hr.rd hw).at_ (by simp);cases this
      | some a=>cases h
    subst hx
    exact ⟨_,rfl,_,rfl,Wd.addNil hw⟩
  · repeat (first | refine byW ?_ | (refine byV ?_;intro w hw))
    refine lBuildSlice [] ?_
    intro a2 w hw
    repeat (first | refine byW ?_ | (refine byV ?_;intro w hw))
    refine lApp (i:=0) (rows2:=xs.map enc) ?_ (hr.rd hw) rfl rfl hw rfl (List.all_eq_true.2 fun u hu=>by
      obtain ⟨l,hl,hu⟩:=List.mem_flatten.1 hu
      obtain ⟨x, -,rfl⟩:=List.mem_map.1 hl
      exact List.all_eq_true.1 (enc_one x) u hu) (by simpa using hn)
    intro v' w hw
    repeat (first | refine byW ?_ | (refine byV ?_;intro w hw))
    exact ⟨_,rfl,v',rfl,by simpa using hw⟩
theorem sortD_any {Γ:Gho} {S:List Res} {w:World} {v:Value} {xs:List DevT} (hN:xs.length≤1000000) (hw:Wd Γ (.own v 63 5 (xs.map enc)::S) w) :
  Calls Tryz.prog 50 #[v,.func (.func 51) #[] #[]] w fun e w'=>e=.returned (.tuple #[])∧∃ ys:List DevT,ys.Perm xs∧(ys.Pairwise fun x y=>x.IRQ≤y.IRQ)∧Wd Γ (.own v 63 5 (ys.map enc)::S) w':=by
 refine (SortFunc_K lay_dvs (fun x y:DevT=>cI x.IRQ y.IRQ) 51 [] xs _ hw (i:=0) rfl (fun _=>rfl) (fun x u hu=>List.all_eq_true.1 (enc_one x) u hu) (inferInstanceAs (TA Tryz.prog 63 5)) (swo_on cI_ord DevT.IRQ) (by omega) (fun dk w' hw' x y=>(cmpD_any x y (allG_wd w')).mono fun e w'' h=>⟨h.1,[],h.2⟩)).mono fun e w hq=>?_
 obtain ⟨rfl,ys,hp,hs,hw⟩:=hq
 refine ⟨rfl,ys,hp,hs.imp fun {x y} h=>?_,hw⟩
 unfold Go.Proofs.ltOf cI at h
 simp only [decide_eq_false_iff_not] at h
 by_cases e:y.IRQ < x.IRQ
 ·rw [if_pos e] at h;omega
 ·omega
end Go.Proofs.YthgighljhoneeaaGreatDoor
end
section
open Go Mk
namespace Go.Proofs.YthgighljhoneeaaGreatDoor
set_option maxHeartbeats 16000000
theorem dev_rng {H:HwT} (hv:validS H=0) {d:DevT} (hd:d∈H.Devs):nIn d.Node∧0≤d.IRQ∧d.IRQ < 256:=by
 obtain ⟨-, -,h3, -⟩:=valid_all hv
 unfold regionsRB at h3
 simp only [Bool.and_eq_true] at h3
 have:=List.all_eq_true.1 h3.2.2 d hd
 unfold devRB isNodeB at this
 simp only [Bool.and_eq_true,decide_eq_true_eq] at this
 exact ⟨this.1.1.1,this.1.1.2,this.1.2⟩
theorem used_reach {H:HwT} (hv:validS H=0) {x:Int} (hx:x∈usedN H):Reach H.Links ((usedN H).headD 0) x:=by
 obtain ⟨-, -, -, -, -, -, -, -,h9⟩:=valid_all hv
 have hP:ConnP H:=by
  by_cases h:ConnP H
  ·exact h
  ·unfold connB at h9;rw [decP_f h] at h9;cases h9
 exact hP x hx
theorem dev_reach {H:HwT} (hv:validS H=0) {d:DevT} (hd:d∈H.Devs):Reach H.Links ((usedN H).headD 0) d.Node:=
 used_reach hv (by unfold usedN;exact List.mem_append_right _ (List.mem_map.2 ⟨d,hd,rfl⟩))
theorem dev_cost {H:HwT} (hv:validS H=0) {d:DevT} (hd:d∈H.Devs) {c:CoreT} (hc:c∈H.Cores):0≤dstF H d.Node c.Node∧dstF H d.Node c.Node≤63000000∧dstF H d.Node c.Node=dstI (nbrL H.Links) d.Node c.Node:=by
 have hL:=valid_links hv
 have h1:=dstI_reach hL (dev_rng hv hd).1 (dev_reach hv hd) (core_reach hv hc)
 have h2:=(dst_le (x:=c.Node) hL (dev_rng hv hd).1).2
 have h3:dstF H d.Node c.Node=dstI (nbrL H.Links) d.Node c.Node:=by
  show (if dstI (nbrL H.Links) d.Node c.Node < 0 then farV else dstI (nbrL H.Links) d.Node c.Node)=_
  rw [if_neg (by omega)]
 rw [h3]
 exact ⟨h1,h2,rfl⟩
noncomputable def costsA (H:HwT) (cs:List CoreT) (ys:List DevT):List (List Int):=ys.map fun d=>cs.map fun c=>dstF H d.Node c.Node
theorem costsA_ok {H:HwT} (hv:validS H=0) {cs:List CoreT} {ys:List DevT} (hc:∀ c∈cs,c∈H.Cores) (hy:∀ d∈ys,d∈H.Devs):CostM cs.length (costsA H cs ys):=by
 refine ⟨fun r hr=>?_,fun r hr z hz=>?_⟩
 ·obtain ⟨d, -,rfl⟩:=List.mem_map.1 hr
  rw [List.length_map]
 ·obtain ⟨d,hd,rfl⟩:=List.mem_map.1 hr
  obtain ⟨c,hcc,rfl⟩:=List.mem_map.1 hz
  have:=dev_cost hv (hy d hd) (hc c hcc)
  omega
end Go.Proofs.YthgighljhoneeaaGreatDoor
end
section
open Go Mk
namespace Go.Proofs.YthgighljhoneeaaGreatDoor
set_option maxHeartbeats 64000000
attribute [local irreducible] Calls
attribute [local irreducible] matL
noncomputable def rowD (H:HwT) (cs:List CoreT) (d:DevT) (k:Nat):Nat→Int:=fun j=>if j < k then dstF H d.Node (cs.getD j default).Node else 0
theorem rowD_set {H:HwT} {cs:List CoreT} {d:DevT} {k n:Nat} {c:CoreT} (hc:cs[k]? = some c):rowN n (setN (rowD H cs d k) k (dstF H d.Node c.Node))=rowN n (rowD H cs d (k+1)):=rowN_congr fun j _=>by
 unfold setN rowD
 by_cases e:j=k
 ·subst e
  rw [if_pos rfl,if_pos (by omega),List.getD_eq_getElem?_getD,hc];rfl
 ·rw [if_neg e]
  by_cases e2:j < k
  ·rw [if_pos e2,if_pos (by omega)]
  ·rw [if_neg e2,if_neg (by omega)]
def IntPost (H:HwT) (L:List Int) (per:Int) (rs:List (Int × Int)) (tot code:Int):Prop:=
 if (liveS H L).2≠0 then rs=[]∧tot=0∧code=(liveS H L).2
 else if per < 1∨256 < per then rs=[]∧tot=0∧code=6
 else if per * (liveS H L).1.length < H.Devs.length then rs=[]∧tot=0∧code=64
 else ∃ (ys:List DevT) (x:List Int),ys.Perm H.Devs∧(ys.Pairwise fun a b=>a.IRQ≤b.IRQ)∧x.length=ys.length∧Best (liveS H L).1.length per.toNat (aF (costsA H (liveS H L).1 ys)) x ∧
  rs=(ys.zip x).map (fun p=>(p.1.IRQ,((liveS H L).1.getD p.2.toNat default).ID))∧tot=costA (aF (costsA H (liveS H L).1 ys)) x∧code=0
noncomputable def rsL (ys:List DevT) (cs:List CoreT) (x:List Int) (i:Nat):List (Int × Int):=((ys.zip x).take i).map fun p=>(p.1.IRQ,(cs.getD p.2.toNat default).ID)
def prI (p:Int × Int):List Value:=[.int .i64 p.1,.int .i64 p.2]
set_option maxRecDepth 8000 in
theorem interruptsW {Γ : Gho} {u : Value} {H : HwT} [hh : HwR Γ u H] {S : List Res} {w : World} {v : Value} {L : List Int} {per : Int} (hr : RepS Γ v 1 (intRows L)) (hN : L.length ≤ 1000) (hLen : (liveS H L).1.length ≤ 64) (hDev : H.Devs.length ≤ 1000) (hcsub : ∀ c ∈ (liveS H L).1, c ∈ H.Cores) (hw : Wd Γ S w) :
    Calls Tryz.prog 17 #[u,v,.int .i64 per] w fun e w'=>∃ (Γ':Gho) (v':Value) (rs:List (Int × Int)) (tot code:Int),Γ.le Γ'∧e=.returned (.tuple #[v',.int .i64 tot,.int .i64 code])∧IntPost H L per rs tot code ∧
      Wd Γ' (.own v' 107 2 (rs.map prI)::S) w':=by
  obtain ⟨a1,n1,c1,a2,n2,c2,a3,n3,c3,a4,n4,c4,a5,n5,c5,cs',rfl,hcs,hok,hsz,r1,r2,r3,r4,r5⟩:=hh.h
  obtain ⟨hn5,hm5,hx5⟩:=rep_facts r5
  simp only [List.length_map] at hn5
  refine calls_of_WC Tryz.func17 rfl rfl ?_
  repeat (first | refine byW ?_ | (refine byV ?_;intro w hw))
  refine lBox ?_
  intro b3 w hw
  have hw:Wd Γ (.blk b3 (hwC H a1 n1 c1 a2 n2 c2 a3 n3 c3 a4 n4 c4 a5 n5 c5)::S) w:=hw
  repeat (first | refine byW ?_ | (refine byV ?_;intro w hw))
  refine lCall ((liveCores_any (H:=H) hr hN hw).mono fun e w hq=>?_)
  clear hw
  obtain ⟨vc,rfl,hw⟩:=hq
  refine ⟨_,rfl,?_⟩
  obtain ⟨ac,nc,cc,rfl,hnc,hncc, -⟩:=hw.own_shape (i:=0) rfl
  simp only [List.length_map] at hnc
  obtain ⟨cs,hcs2⟩:∃ cs,cs=(liveS H L).1:=⟨_,rfl⟩
  rw [← hcs2] at hw hnc hLen hcsub
  repeat (first | refine byW ?_ | (refine byV ?_;intro w hw))
  refine W_cond rfl (fun h=>?_) (fun h=>?_)
  · have h:(liveS H L).2≠0:=of_decide_eq_true h
    repeat (first | refine byW ?_ | (refine byV ?_;intro w hw))
    exact ⟨[_,_,_],⟨rfl,rfl,rfl,trivial⟩,Γ,_,[],0,(liveS H L).2,Gho.le.refl _,rfl,by unfold IntPost;rw [if_pos h];exact ⟨rfl,rfl,rfl⟩,Wd.addNil (hw.ds [0,0])⟩
  have hcode:¬ (liveS H L).2≠0:=of_decide_eq_false h
  clear h
  repeat (first | refine byW ?_ | (refine byV ?_;intro w hw))
  refine W_cond rfl (fun h=>?_) (fun h=>?_)
  · have h:per < 1∨256 < per:=by simpa using h
    repeat (first | refine byW ?_ | (refine byV ?_;intro w hw))
    exact ⟨[_,_,_],⟨rfl,rfl,rfl,trivial⟩,Γ,_,[],0,6,Gho.le.refl _,rfl,by unfold IntPost;rw [if_neg hcode,if_pos h];exact ⟨rfl,rfl,rfl⟩,Wd.addNil (hw.ds [0,0])⟩
  have hper:¬ (per < 1∨256 < per):=by
    intro hh
    have h:¬ (per < 1∨256 < per):=by simpa using h
    exact h hh
  clear h
  have hmul:IntKind.i64.wrap (per * (nc:Int))=per * (nc:Int):=by
    have h1:0≤per * (nc:Int):=Int.mul_nonneg (by omega) (by omega)
    have h2:per * (nc:Int)≤256 * (nc:Int):=Int.mul_le_mul_of_nonneg_right (by omega) (by omega)
    exact wrap_i64 (by omega) (by omega)
  repeat (first | refine byW ?_ | (refine byV ?_;intro w hw))
  refine W_cond rfl (fun h=>?_) (fun h=>?_)
  · have h : per * (nc : Int) < n5 := by
      rw [← hmul]
      exact of_decide_eq_true h
    repeat (first | refine byW ?_ | (refine byV ?_;intro w hw))
    exact ⟨[_,_,_],⟨rfl,rfl,rfl,trivial⟩,Γ,_,[],0,64,Gho.le.refl _,rfl,by unfold IntPost;rw [if_neg hcode,if_neg hper,← hcs2,← hnc,← hn5,if_pos h];exact ⟨rfl,rfl,rfl⟩,Wd.addNil (hw.ds [0,0])⟩
  have hfit:¬ per * (nc:Int) < n5:=by
    intro hh
    rw [← hmul] at hh
    exact (of_decide_eq_false h) hh
  clear h
  repeat (first | refine byW ?_ | (refine byV ?_;intro w hw))
  refine lCall ((cloneD_any (xs:=H.Devs) r5 (by omega) hw).mono fun e w hq=>?_)
  obtain ⟨vd,rfl,hw⟩:=hq
  refine ⟨_,rfl,?_⟩
  repeat (first | refine byW ?_ | (refine byV ?_;intro w hw))
  refine lCall ((sortD_any (by omega) hw).mono fun e w hq=>?_)
  clear hw
  obtain ⟨rfl,ys,hyp,hys,hw⟩:=hq
  refine ⟨_,rfl,?_⟩
  repeat (first | refine byW ?_ | (refine byV ?_;intro w hw))
  have hv:validS H=0:=by
    by_cases h:validS H=0
    · exact h
    · exfalso
      apply hcode
      unfold liveS
      rw [if_pos h]
      exact h
  refine lCall ((measure_any (H:=H) hv hw).mono fun e w hq=>?_)
  clear hw
  obtain ⟨bd,rfl,hw⟩:=hq
  refine ⟨_,rfl,?_⟩
  obtain ⟨Γ1,g1,hD,hw1⟩:=hw.freezeB
  obtain ⟨Γ2,g2,rY,hw2⟩:=hw1.freeze
  obtain ⟨Γ3,g3,rC,hw3⟩:=hw2.freeze
  clear hw hw1 hw2
  have hw:Wd Γ3 S w:=hw3.ds [0]
  clear hw3
  have hD:=hD.mono (g2.trans g3)
  have rY:=rY.mono g3
  have hle:=g1.trans (g2.trans g3)
  obtain ⟨ad,nd,cd,rfl,hnd,hncd, -⟩:=rY.shape
  simp only [List.length_map] at hnd
  repeat (first | refine byW ?_ | (refine byV ?_;intro w hw))
  refine lMakeSlice (len:=nc) ?_
  intro al w hw
  repeat (first | refine byW ?_ | (refine byV ?_;intro w hw))
  refine lBox ?_
  intro bA w hw
  have hw:=Wd.addNil (a:=none) (E:=3) (sz:=1) hw
  have hw:=Wd.addNil (a:=none) (E:=29) (sz:=1) hw
  have hz:List.replicate nc [Value.int .i64 0]=intRows (rowN nc fun _=>0):=by
    rw [← rep_row];simp [intRows]
  have hw:Wd Γ3 (.blk bA (.cells #[.slice none 0 0,.int .i64 per,.slice none 0 0,.slice (some al) nc nc] 105)::.own (.slice none 0 0) 29 1 (hdrs [])::.own (.slice none 0 0) 3 1 (intRows (List.replicate 0 (-1)))::.own (.slice (some al) nc nc) 3 1 (List.replicate nc [Value.int .i64 0])::(inn 3 1 (innM [] ((costsA H cs ys).take 0))++S)) w:=hw.ps [2]
  rw [hz] at hw
  repeat (first | refine byW ?_ | (refine byV ?_;intro w hw))
  refine W_loop (fun μ ρ w=>∃ (i:Nat) (va xa:Option Addr) (vn vc xn xc:Nat) (hs:List Value),μ+i=nd∧hs.length=i∧Has ρ [(6,.slice none 0 0),(7,.int .i64 0),(9,.slice ac nc cc),(10,.slice ad nd cd),(11,.pointer (some ⟨bd,0,none⟩)),(12,.pointer (some ⟨bA,0,none⟩)),(59,.slice ad nd cd),(60,.int .i64 nd),(61,.int .i64 i)]∧Wd Γ3 (.blk bA (.cells #[.slice va vn vc,.int .i64 per,.slice xa xn xc,.slice (some al) nc nc] 105)::.own (.slice va vn vc) 29 1 (hdrs hs)::.own (.slice xa xn xc) 3 1 (intRows (List.replicate i (-1)))::.own (.slice (some al) nc nc) 3 1 (intRows (rowN nc fun _=>0))::(inn 3 1 (innM hs ((costsA H cs ys).take i))++S)) w) nd ⟨0,none,none,0,0,0,0,[],by omega,rfl,⟨rfl,rfl,rfl,rfl,rfl,rfl,rfl,rfl,rfl,trivial⟩,hw⟩ ?_
  clear hw hz
  rintro μ ρ w ⟨i,va,xa,vn,vc,xn,xc,hs,hμ,hhs,hρ,hw⟩
  rw [hρ.eq]
  clear hρ
  repeat (first | refine byW ?_ | (refine byV ?_;intro w hw))
  refine W_cond rfl (fun h=>?_) (fun h=>?_)
  · have hin:i < nd:=by have:=of_decide_eq_true h;omega
    clear h
    obtain ⟨dv,hdv⟩:=get_lt (l:=ys) (k:=i) (by omega)
    have hdm:dv∈H.Devs:=hyp.mem_iff.1 (List.mem_of_getElem? hdv)
    repeat (first | refine byW ?_ | (refine byV ?_;intro w hw))
    refine lAlloc ?_
    intro b14 w hw
    refine lStore ?_
    intro w hw
    have hw:Wd Γ3 (.blk b14 (.cells (enc dv).toArray 63)::.blk bA (.cells #[.slice va vn vc,.int .i64 per,.slice xa xn xc,.slice (some al) nc nc] 105)::.own (.slice va vn vc) 29 1 (hdrs hs)::.own (.slice xa xn xc) 3 1 (intRows (List.replicate i (-1)))::.own (.slice (some al) nc nc) 3 1 (intRows (rowN nc fun _=>0))::(inn 3 1 (innM hs ((costsA H cs ys).take i))++S)) w:=hw
    repeat (first | refine byW ?_ | (refine byV ?_;intro w hw))
    refine lMakeSlice (len:=nc) ?_
    intro a15 w hw
    have hz:List.replicate nc [Value.int .i64 0]=intRows (rowN nc (rowD H cs dv 0)):=by
      rw [show rowN nc (rowD H cs dv 0)=rowN nc fun _=>0 from rowN_congr fun j _=>by unfold rowD;rw [if_neg (by omega)],← rep_row];simp [intRows]
    have hw:Wd Γ3 (.own (.slice (some a15) nc nc) 3 1 (List.replicate nc [Value.int .i64 0])::.blk b14 (.cells (enc dv).toArray 63)::.blk bA (.cells #[.slice va vn vc,.int .i64 per,.slice xa xn xc,.slice (some al) nc nc] 105)::.own (.slice va vn vc) 29 1 (hdrs hs)::.own (.slice xa xn xc) 3 1 (intRows (List.replicate i (-1)))::.own (.slice (some al) nc nc) 3 1 (intRows (rowN nc fun _=>0))::(inn 3 1 (innM hs ((costsA H cs ys).take i))++S)) w:=hw
    rw [hz] at hw
    repeat (first | refine byW ?_ | (refine byV ?_;intro w hw))
    refine W_loop (fun μ2 ρ w=>∃ k:Nat,μ2+k=nc∧Has ρ [(6,.slice none 0 0),(7,.int .i64 0),(9,.slice ac nc cc),(10,.slice ad nd cd),(11,.pointer (some ⟨bd,0,none⟩)),(12,.pointer (some ⟨bA,0,none⟩)),(59,.slice ad nd cd),(60,.int .i64 nd),(61,.int .i64 i),(14,.pointer (some ⟨b14,0,none⟩)),(15,.slice (some a15) nc nc),(68,.slice ac nc cc),(69,.int .i64 nc),(70,.int .i64 k)]∧Wd Γ3 (.own (.slice (some a15) nc nc) 3 1 (intRows (rowN nc (rowD H cs dv k)))::.blk b14 (.cells (enc dv).toArray 63)::.blk bA (.cells #[.slice va vn vc,.int .i64 per,.slice xa xn xc,.slice (some al) nc nc] 105)::.own (.slice va vn vc) 29 1 (hdrs hs)::.own (.slice xa xn xc) 3 1 (intRows (List.replicate i (-1)))::.own (.slice (some al) nc nc) 3 1 (intRows (rowN nc fun _=>0))::(inn 3 1 (innM hs ((costsA H cs ys).take i))++S)) w) nc ⟨0,by omega,⟨rfl,rfl,rfl,rfl,rfl,rfl,rfl,rfl,rfl,rfl,rfl,rfl,rfl,rfl,trivial⟩,hw⟩ ?_
    clear hw hz
    rintro μ2 ρ w ⟨k,hμ2,hρ,hw⟩
    rw [hρ.eq]
    clear hρ
    repeat (first | refine byW ?_ | (refine byV ?_;intro w hw))
    refine W_cond rfl (fun h=>?_) (fun h=>?_)
    · have hkn:k < nc:=by have:=of_decide_eq_true h;omega
      clear h
      obtain ⟨c,hc⟩:=get_lt (l:=cs) (k:=k) (by omega)
      repeat (first | refine byW ?_ | (refine byV ?_;intro w hw))
      refine lAlloc ?_
      intro b17 w hw
      repeat (first | refine byW ?_ | (refine byV ?_;intro w hw))
      refine lStore ?_
      intro w hw
      have hcm:c∈H.Cores:=hcsub c (List.mem_of_getElem? hc)
      have hn1:=(dev_rng hv hdm).1
      have hn2:nIn c.Node:=core_node hv hcm
      have hnn1:0≤dv.Node∧dv.Node < 64:=hn1
      have hnn2:0≤c.Node∧c.Node < 64:=hn2
      have hw:Wd Γ3 (.blk b17 (.cells (enc c).toArray 54)::.own (.slice (some a15) nc nc) 3 1 (intRows (rowN nc (rowD H cs dv k)))::.blk b14 (.cells (enc dv).toArray 63)::.blk bA (.cells #[.slice va vn vc,.int .i64 per,.slice xa xn xc,.slice (some al) nc nc] 105)::.own (.slice va vn vc) 29 1 (hdrs hs)::.own (.slice xa xn xc) 3 1 (intRows (List.replicate i (-1)))::.own (.slice (some al) nc nc) 3 1 (intRows (rowN nc fun _=>0))::(inn 3 1 (innM hs ((costsA H cs ys).take i))++S)) w:=hw
      obtain ⟨T,hT⟩:∃ T,T=(.blk bA (.cells #[.slice va vn vc,.int .i64 per,.slice xa xn xc,.slice (some al) nc nc] 105)::.own (.slice va vn vc) 29 1 (hdrs hs)::.own (.slice xa xn xc) 3 1 (intRows (List.replicate i (-1)))::.own (.slice (some al) nc nc) 3 1 (intRows (rowN nc fun _=>0))::(inn 3 1 (innM hs ((costsA H cs ys).take i))++S)):=⟨_,rfl⟩
      rw [← hT] at hw
      have hw:Wd Γ3 ([.blk b17 (.cells (enc c).toArray 54),.blk b14 (.cells (enc dv).toArray 63)]++(.own (.slice (some a15) nc nc) 3 1 (intRows (rowN nc (rowD H cs dv k)))::T)) w:=hw.ps [2,1]
      repeat (first | refine byW ?_ | (refine byV ?_;intro w hw))
      refine W_mix1 [.blk b17 (.cells (enc c).toArray 54),.blk b14 (.cells (enc dv).toArray 63)] (.own (.slice (some a15) nc nc) 3 1 (intRows (rowN nc (rowD H cs dv k)))::T) [[],[],[],[],[],[],[],[],[],[],[],[],[0]] [[],[],[],[],[],[],[],[],[],[],[],[0],[0]] hw ?_
      repeat (first | refine mY ?_ | refine mP ?_ | refine mPg ?_)
      refine mY (v:=.int .i64 (dstF H dv.Node c.Node)) ?_ (hy:=fun Y w g hw=>y_l1m (hB:=hD) hw rfl (getM _ hn1 hn2))
      repeat (first | refine mY ?_ | refine mP ?_ | refine mPg ?_)
      refine mS (c:=0) (v:=undef) (F:=fun _=>.own (.slice (some a15) nc nc) 3 1 (intRows (rowN nc (rowD H cs dv k)))::T) (fun _=>.own (.slice (some a15) nc nc) 3 1 ((intRows (rowN nc (rowD H cs dv k))).set k [.int .i64 (dstF H dv.Node c.Node)])::T) (fun g w Y hw=>s_storeE (i:=0) (k:=k) (r:=[.int .i64 (dstF H dv.Node c.Node)]) (TSz.h (P:=Tryz.prog) (T:=3)) hw rfl rfl rfl rfl rfl rfl (by omega) fun w' hw'=>⟨fun _=>rfl,hw'⟩) ?_
      refine mEnd fun w g hw=>?_
      have hw:Wd Γ3 (([.blk b17 (.cells (enc c).toArray 54),.blk b14 (.cells (enc dv).toArray 63)]++(.own (.slice (some a15) nc nc) 3 1 ((intRows (rowN nc (rowD H cs dv k))).set k [.int .i64 (dstF H dv.Node c.Node)])::T))++[]) w:=hw
      rw [List.append_nil,rowI_set,rowD_set hc,hT] at hw
      have hw:Wd Γ3 (.own (.slice (some a15) nc nc) 3 1 (intRows (rowN nc (rowD H cs dv (k+1))))::.blk b14 (.cells (enc dv).toArray 63)::.blk bA (.cells #[.slice va vn vc,.int .i64 per,.slice xa xn xc,.slice (some al) nc nc] 105)::.own (.slice va vn vc) 29 1 (hdrs hs)::.own (.slice xa xn xc) 3 1 (intRows (List.replicate i (-1)))::.own (.slice (some al) nc nc) 3 1 (intRows (rowN nc fun _=>0))::(inn 3 1 (innM hs ((costsA H cs ys).take i))++S)) w:=(hw.ds [0]).ps [1]
      repeat (first | refine byW ?_ | (refine byV ?_;intro w hw))
      exact ⟨nc - k - 1,by omega,k+1,by omega,⟨rfl,rfl,rfl,rfl,rfl,rfl,rfl,rfl,rfl,rfl,rfl,rfl,rfl,rfl,trivial⟩,hw⟩
    have hkn:nc=k:=by have:=of_decide_eq_false h;omega
    clear h
    subst hkn
    repeat (first | refine byW ?_ | (refine byV ?_;intro w hw))
    have hnd2:nd≤1000:=by rw [hnd,hyp.length_eq];exact hDev
    have hvn:vn=hs.length:=by
      obtain ⟨p1,p2,p3,hp,hp2, -, -⟩:=hw.own_shape (i:=3) rfl
      cases hp
      simpa [hdrs] using hp2
    have hxn:xn=i:=by
      obtain ⟨p1,p2,p3,hp,hp2, -, -⟩:=hw.own_shape (i:=4) rfl
      cases hp
      simpa [intRows] using hp2
    refine lBuildSlice (hdrs [.slice (some a15) nc nc]) ?_
    intro a94 w hw
    repeat (first | refine byW ?_ | (refine byV ?_;intro w hw))
    refine lApp (i:=4) (rows2:=hdrs [.slice (some a15) nc nc]) ?_ (hw.own_rd (i:=0) rfl) rfl rfl hw rfl rfl rfl
    intro v1 w hw
    obtain ⟨va',vn',vc',rfl, -, -, -⟩:=hw.own_shape (i:=4) rfl
    repeat (first | refine byW ?_ | (refine byV ?_;intro w hw))
    refine lStore ?_
    intro w hw
    have hw:Wd Γ3 (.own (.slice (some a94) 1 1) 29 1 (hdrs [.slice (some a15) nc nc])::.own (.slice (some a15) nc nc) 3 1 (intRows (rowN nc (rowD H cs dv nc)))::.blk b14 (.cells (enc dv).toArray 63)::.blk bA (.cells #[.slice va' vn' vc',.int .i64 per,.slice xa xn xc,.slice (some al) nc nc] 105)::.own (.slice va' vn' vc') 29 1 (hdrs hs++hdrs [.slice (some a15) nc nc])::.own (.slice xa xn xc) 3 1 (intRows (List.replicate i (-1)))::.own (.slice (some al) nc nc) 3 1 (intRows (rowN nc fun _=>0))::(inn 3 1 (innM hs ((costsA H cs ys).take i))++S)) w:=hw
    have hw:Wd Γ3 (.own (.slice (some a15) nc nc) 3 1 (intRows (rowN nc (rowD H cs dv nc)))::.blk bA (.cells #[.slice va' vn' vc',.int .i64 per,.slice xa xn xc,.slice (some al) nc nc] 105)::.own (.slice va' vn' vc') 29 1 (hdrs hs++hdrs [.slice (some a15) nc nc])::.own (.slice xa xn xc) 3 1 (intRows (List.replicate i (-1)))::.own (.slice (some al) nc nc) 3 1 (intRows (rowN nc fun _=>0))::(inn 3 1 (innM hs ((costsA H cs ys).take i))++S)) w:=hw.ds [0,1]
    repeat (first | refine byW ?_ | (refine byV ?_;intro w hw))
    refine lBuildSlice (intRows [-1]) ?_
    intro a103 w hw
    repeat (first | refine byW ?_ | (refine byV ?_;intro w hw))
    refine lApp (i:=4) (rows2:=intRows [-1]) ?_ (hw.own_rd (i:=0) rfl) rfl rfl hw rfl rfl rfl
    intro v2 w hw
    obtain ⟨xa',xn',xc',rfl, -, -, -⟩:=hw.own_shape (i:=4) rfl
    repeat (first | refine byW ?_ | (refine byV ?_;intro w hw))
    refine lStore ?_
    intro w hw
    have hw:Wd Γ3 (.own (.slice (some a103) 1 1) 3 1 (intRows [-1])::.own (.slice (some a15) nc nc) 3 1 (intRows (rowN nc (rowD H cs dv nc)))::.blk bA (.cells #[.slice va' vn' vc',.int .i64 per,.slice xa' xn' xc',.slice (some al) nc nc] 105)::.own (.slice va' vn' vc') 29 1 (hdrs hs++hdrs [.slice (some a15) nc nc])::.own (.slice xa' xn' xc') 3 1 (intRows (List.replicate i (-1))++intRows [-1])::.own (.slice (some al) nc nc) 3 1 (intRows (rowN nc fun _=>0))::(inn 3 1 (innM hs ((costsA H cs ys).take i))++S)) w:=hw
    have hw:Wd Γ3 (.own (.slice (some a15) nc nc) 3 1 (intRows (rowN nc (rowD H cs dv nc)))::([.blk bA (.cells #[.slice va' vn' vc',.int .i64 per,.slice xa' xn' xc',.slice (some al) nc nc] 105),.own (.slice va' vn' vc') 29 1 (hdrs hs++hdrs [.slice (some a15) nc nc]),.own (.slice xa' xn' xc') 3 1 (intRows (List.replicate i (-1))++intRows [-1]),.own (.slice (some al) nc nc) 3 1 (intRows (rowN nc fun _=>0))]++(inn 3 1 (innM hs ((costsA H cs ys).take i))++S))) w:=hw.ds [0]
    have hcl:i < (costsA H cs ys).length:=by unfold costsA;rw [List.length_map];omega
    have hw:=inn_snoc (A:=[.blk bA (.cells #[.slice va' vn' vc',.int .i64 per,.slice xa' xn' xc',.slice (some al) nc nc] 105),.own (.slice va' vn' vc') 29 1 (hdrs hs++hdrs [.slice (some a15) nc nc]),.own (.slice xa' xn' xc') 3 1 (intRows (List.replicate i (-1))++intRows [-1]),.own (.slice (some al) nc nc) 3 1 (intRows (rowN nc fun _=>0))]) (hs:=hs) (by rw [List.length_take];omega) hw
    have htk:(costsA H cs ys).take i++[rowN nc (rowD H cs dv nc)]=(costsA H cs ys).take (i+1):=by
      rw [List.take_add_one]
      have:(costsA H cs ys)[i]? = some (rowN nc (rowD H cs dv nc)):=by
        unfold costsA
        rw [List.getElem?_map,hdv]
        refine congrArg some (List.ext_getElem? fun j=>?_)
        rw [List.getElem?_map]
        by_cases hj:j < nc
        · rw [rowN_get hj]
          obtain ⟨c,hc⟩:=get_lt (l:=cs) (k:=j) (by omega)
          unfold rowD
          rw [if_pos hj,List.getD_eq_getElem?_getD,hc];rfl
        · rw [List.getElem?_eq_none (l:=cs) (by omega),List.getElem?_eq_none (by rw [rowN_len];omega)];rfl
      rw [this];rfl
    rw [htk,show hdrs hs++hdrs [Value.slice (some a15) nc nc]=hdrs (hs++[.slice (some a15) nc nc]) by simp [hdrs],show intRows (List.replicate i (-1))++intRows [-1]=intRows (List.replicate (i+1) (-1)) by rw [List.replicate_succ'];simp [intRows]] at hw
    repeat (first | refine byW ?_ | (refine byV ?_;intro w hw))
    refine ⟨nd - i - 1,by omega,i+1,va',xa',vn',vc',xn',xc',hs++[.slice (some a15) nc nc],by omega,by simp [hhs],⟨rfl,rfl,rfl,rfl,rfl,rfl,rfl,rfl,rfl,trivial⟩,?_⟩
    exact hw
  have hin:i=nd:=by have:=of_decide_eq_false h;omega
  clear h
  have hAl:(costsA H cs ys).length=nd:=by unfold costsA;rw [List.length_map];omega
  rw [hin,List.take_of_length_le (by omega)] at hw
  have hxn:xn=nd:=by
    obtain ⟨p1,p2,p3,hp,hp2, -, -⟩:=hw.own_shape (i:=2) rfl
    cases hp
    simpa [intRows] using hp2
  obtain ⟨Γ4,g4,hBA,hw1⟩:=hw.freezeB
  have hw2:Wd Γ4 (.own (.slice va vn vc) 29 1 (hdrs hs)::(inn 3 1 (innM hs (costsA H cs ys))++(.own (.slice (some al) nc nc) 3 1 (intRows (rowN nc fun _=>0))::.own (.slice xa xn xc) 3 1 (intRows (List.replicate nd (-1)))::S))) w:=hw1.perm (List.Perm.cons _ ((List.Perm.swap _ _ _).trans (List.perm_append_comm_assoc [_,_] (inn 3 1 (innM hs (costsA H cs ys))) S)))
  obtain ⟨Γ5,g5,hMA,hw3⟩:=mat_freeze (by omega) hw2
  clear hw hw1 hw2
  have hw:=hw3
  clear hw3
  repeat (first | refine byW ?_ | (refine byV ?_;intro w hw))
  have hwK:=hw
  obtain ⟨cap,hcap⟩:∃ cap:Nat,per=cap:=⟨per.toNat,by omega⟩
  subst hcap
  have hroom:(costsA H cs ys).length≤nc * cap:=by
    rw [hAl,Nat.mul_comm]
    have h1:((cap * nc:Nat):Int)=(cap:Int) * (nc:Int):=by push_cast;rfl
    have h2:nd=n5:=by rw [hnd,hyp.length_eq,hn5]
    omega
  have hnc64:nc≤64:=by omega
  have hCM:CostM nc (costsA H cs ys):=by rw [hnc];exact costsA_ok hv hcsub (fun d hd=>hyp.mem_iff.1 hd)
  have hw:=hwK
  rw [hxn,← hAl] at hw hBA
  have hBA5:=hBA.mono g5
  refine lCall ((complete_core hBA5 hMA hnc64 (by omega) hCM (by rw [hAl,hnd,hyp.length_eq];exact hDev) hroom hw).mono fun e w hq=>?_)
  clear hw
  obtain ⟨Γ6,x0,π,g6,rfl,hx0,hp0,hge,hw⟩:=hq
  refine ⟨_,rfl,?_⟩
  repeat (first | refine byW ?_ | (refine byV ?_;intro w hw))
  refine lCall ((least_core (hBA5.mono g6) (hMA.mono g6) hnc64 (by omega) hCM (by rw [hAl,hnd,hyp.length_eq];exact hDev) hx0 hp0 (fun z hz=>by obtain ⟨k,hk,rfl⟩:=mem_at hz;exact ⟨hge k (by omega),(hp0.rng k hk).2⟩) hw).mono fun e w hq=>?_)
  clear hw
  obtain ⟨Γ7,x,g7,rfl,hx,hbest,hw⟩:=hq
  refine ⟨_,rfl,?_⟩
  repeat (first | refine byW ?_ | (refine byV ?_;intro w hw))
  have hB7:=(hBA5.mono g6).mono g7
  obtain ⟨Γ8,g8,rX,hw8⟩:=(hw.ds [0]).freeze
  clear hw
  have hw:Wd Γ8 S w:=hw8
  clear hw8
  have hB8:=hB7.mono g8
  rw [hAl] at hB8 rX
  have hle8:Γ3.le Γ8:=g4.trans (g5.trans (g6.trans (g7.trans g8)))
  have rY8:=rY.mono hle8
  have rC8:=rC.mono hle8
  have hM8:=((hMA.mono g6).mono g7).mono g8
  have hxl:x.length=nd:=by rw [hx];exact hAl
  have hnd3:nd≤1000:=by rw [hnd,hyp.length_eq];exact hDev
  have hbound:∀ k,k≤nd→0≤sumZ (fun j=>aF (costsA H cs ys) j (atI x j)) k∧sumZ (fun j=>aF (costsA H cs ys) j (atI x j)) k≤(k:Int) * 1000000000:=fun k hk=>by
    induction k with
    | zero=>exact ⟨Int.le_refl _,Int.le_refl _⟩
    | succ k ih=>
      have h1:=ih (by omega)
      obtain ⟨r, -, -,h2⟩:=hCM.get (show k < (costsA H cs ys).length by omega)
      have h3:=hbest.full.rng _ (atI_mem (x:=x) (i:=k) (by omega))
      have h4:=(h2 (atI x k).toNat (by omega)).2
      rw [show (((atI x k).toNat:Nat):Int)=atI x k by omega] at h4
      simp only [sumZ]
      omega
  have hw:=Wd.addNil (a:=none) (E:=107) (sz:=2) hw
  repeat (first | refine byW ?_ | (refine byV ?_;intro w hw))
  refine W_loop (fun μ ρ w=>∃ (i:Nat) (rq:Option Addr) (rm rd:Nat),μ+i=nd∧Has ρ [(6,.slice rq rm rd),(7,.int .i64 (sumZ (fun j=>aF (costsA H cs ys) j (atI x j)) i)),(9,.slice ac nc cc),(12,.pointer (some ⟨bA,0,none⟩)),(112,.slice ad nd cd),(113,.int .i64 nd),(114,.int .i64 i)]∧Wd Γ8 (.own (.slice rq rm rd) 107 2 ((rsL ys cs x i).map prI)::S) w) nd ⟨0,none,0,0,by omega,⟨rfl,rfl,rfl,rfl,rfl,rfl,rfl,trivial⟩,hw⟩ ?_
  clear hw
  rintro μ ρ w ⟨i,rq,rm,rd,hμ,hρ,hw⟩
  rw [hρ.eq]
  clear hρ
  repeat (first | refine byW ?_ | (refine byV ?_;intro w hw))
  refine W_cond rfl (fun h=>?_) (fun h=>?_)
  · have hin:i < nd:=by have:=of_decide_eq_true h;omega
    clear h
    obtain ⟨dv,hdv⟩:=get_lt (l:=ys) (k:=i) (by omega)
    obtain ⟨xv,hxv⟩:=get_lt (l:=x) (k:=i) (by omega)
    have hxr:=hbest.full.rng xv (List.mem_of_getElem? hxv)
    have hxa:atI x i=xv:=by unfold atI;rw [List.getD_eq_getElem?_getD,hxv];rfl
    obtain ⟨k,rfl⟩:∃ k:Nat,xv=k:=⟨xv.toNat,by omega⟩
    obtain ⟨c,hc⟩:=get_lt (l:=cs) (k:=k) (by omega)
    have hsn:(rsL ys cs x i).map prI++[prI (dv.IRQ,c.ID)]=(rsL ys cs x (i+1)).map prI:=by
      unfold rsL
      rw [take_succ_of (zip_get hdv hxv),List.map_append,List.map_append]
      show _=_++[prI (dv.IRQ,(cs.getD k default).ID)]
      rw [List.getD_eq_getElem?_getD,hc];rfl
    have hlen:((rsL ys cs x i).map prI).length≤1000:=by unfold rsL;simp;omega
    repeat (first | refine byW ?_ | (refine byV ?_;intro w hw))
    refine lAlloc ?_
    intro b19 w hw
    repeat (first | refine byW ?_ | (refine byV ?_;intro w hw))
    refine lStore ?_
    intro w hw
    have hw:Wd Γ8 ([.blk b19 (.cells (enc dv).toArray 63)]++(.own (.slice rq rm rd) 107 2 ((rsL ys cs x i).map prI)::S)) w:=hw
    have hxg:(intRows x)[i]? = some [.int .i64 k]:=intsI_get hxv
    repeat (first | refine byW ?_ | (refine byV ?_;intro w hw))
    refine W_mixQ [.blk b19 (.cells (enc dv).toArray 63)] (.own (.slice rq rm rd) 107 2 ((rsL ys cs x i).map prI)::S) [134,135] 6 (.slice rq rm rd) [[],[],[],[],[],[],[],[],[],[],[],[],[],[],[],[0],[0],[0,1]] [[1],[],[],[],[],[],[],[],[],[],[],[],[],[],[],[0],[0],[0,1]] hw ?_
    refine mMoveR (dd:=6) ?_
    repeat (first | refine mY ?_ | refine mP ?_ | refine mPg ?_)
    refine mY (v:=.slice xa nd xc) ?_ (hy:=fun Y w g hw=>y_l1m (hB:=hB8) hw rfl rfl)
    repeat (first | refine mY ?_ | refine mP ?_ | refine mPg ?_)
    refine mY (v:=.agg (prI (dv.IRQ,c.ID)).toArray) ?_ (hy:=fun Y w g hw=>y_build rfl)
    refine mStepY (φ:=fun (_:Unit) _=>True) (R:=fun _=>.own (.slice rq rm rd) 107 2 ((rsL ys cs x i).map prI)::S) (v:=undef) (T':=Value) (fun t g=>g 134=t) (fun t=>.own t 107 2 [prI (dv.IRQ,c.ID)]::.own (.slice rq rm rd) 107 2 ((rsL ys cs x i).map prI)::S) (fun t g w Y ht hw=>s_buildSlice (rws:=[prI (dv.IRQ,c.ID)]) (cells:=prI (dv.IRQ,c.ID)) hw rfl rfl rfl (by intro r hr;rw [List.mem_singleton.1 hr];rfl) (by decide) fun q w' hw'=>⟨_,rfl,(fun h=>by cases h),hw'⟩) ?_
    refine mStepY (φ:=fun (t:Value) g=>g 134=t) (R:=(fun t=>.own t 107 2 [prI (dv.IRQ,c.ID)]::.own (.slice rq rm rd) 107 2 ((rsL ys cs x i).map prI)::S)) (v:=undef) (T':=Value) (fun t g=>g 135=t) (fun t=>.own t 107 2 ((rsL ys cs x i).map prI++[prI (dv.IRQ,c.ID)])::S) (fun t g w Y ht hw=>?_) ?_
    · obtain ⟨d1,e1,z1,rfl,hn1, -, -⟩:=hw.own_shape (i:=0) rfl
      obtain ⟨d2,e2,z2,hq2,hn2, -, -⟩:=hw.own_shape (i:=1) rfl
      cases hq2
      exact s_append (i:=1) (rows2:=[prI (dv.IRQ,c.ID)]) hw rfl ht rfl (Wd.own_rd (i:=0) hw rfl) hn1 (List.all_eq_true.1 rfl) (by simp at hn1 hn2 hlen;omega) (by simp at hn1 hn2 hlen;omega) fun v' w' hw'=>⟨v',rfl,(fun h=>by cases h),hw'.drop⟩
    refine mAssY (φ:=fun (t:Value) g=>g 135=t) (dx:=135) (dd:=6) (fun t g=>g 6=t) (fun t g ht=>ht) ?_
    refine mEndQ (φ:=fun (t:Value) g=>g 6=t) fun t w g ht hw=>?_
    rw [hsn] at hw
    obtain ⟨q',m',d',rfl,hm', -, -⟩:=hw.own_shape (i:=0) rfl
    have hw:Wd Γ8 (.blk b19 (.cells (enc dv).toArray 63)::.own (.slice q' m' d') 107 2 ((rsL ys cs x (i+1)).map prI)::S) w:=hw.perm byPM
    have hw:=hw.drop
    refine W_has (l:=[(6,.slice q' m' d'),(7,.int .i64 (sumZ (fun j=>aF (costsA H cs ys) j (atI x j)) i)),(9,.slice ac nc cc),(12,.pointer (some ⟨bA,0,none⟩)),(18,.int .i64 i),(112,.slice ad nd cd),(113,.int .i64 nd),(114,.int .i64 i)]) ⟨ht,rfl,rfl,rfl,rfl,rfl,rfl,rfl,trivial⟩ fun ρ hρ=>?_
    rw [hρ.eq]
    repeat (first | refine byW ?_ | (refine byV ?_;intro w hw))
    obtain ⟨r,hr2,hrl,hrc⟩:=hCM.get (show i < (costsA H cs ys).length by omega)
    obtain ⟨ra,rn,rc,hs',hrn,rr,rh,hru⟩:=hM8.at hr2
    obtain ⟨hcg,hc1,hc2⟩:=hrc k (by omega)
    have hcg:=intsI_get hcg
    have hvn:=hM8.row.1
    have hb0:=hbound i (by omega)
    obtain ⟨p,hpe⟩:∃ p,p=aF (costsA H cs ys) i k:=⟨_,rfl⟩
    have hst:sumZ (fun j=>aF (costsA H cs ys) j (atI x j)) (i+1)=sumZ (fun j=>aF (costsA H cs ys) j (atI x j)) i+p:=by rw [sumZ,hxa,hpe]
    rw [← hpe] at hcg hc1 hc2
    obtain ⟨tot,htot⟩:∃ tot,tot=sumZ (fun j=>aF (costsA H cs ys) j (atI x j)) i:=⟨_,rfl⟩
    rw [← htot] at hb0 hst ⊢
    refine W_quiet (by kernel_rfl) (by kernel_rfl) hw ?_
    repeat (first | refine Q_nil ?_ | (apply Q_plain;first | (apply Q_go;first | refine qP ?_ | refine qPg ?_) | refine qY ?_) | (apply Q_guarded;first | (apply Q_go;first | refine qPG ?_ | refine qPgG ?_) | refine qG ?_))
    refine qY (v:=.slice va vn vc) ?_ (hy:=fun w hw=>y_l1m (hB:=hB8) hw rfl rfl)
    repeat (first | refine Q_nil ?_ | (apply Q_plain;first | (apply Q_go;first | refine qP ?_ | refine qPg ?_) | refine qY ?_) | (apply Q_guarded;first | (apply Q_go;first | refine qPG ?_ | refine qPgG ?_) | refine qG ?_))
    refine qY (v:=.slice ra rn rc) ?_ (hy:=fun w hw=>y_loadE1 rfl (rh.rd hw) hru)
    repeat (first | refine Q_nil ?_ | (apply Q_plain;first | (apply Q_go;first | refine qP ?_ | refine qPg ?_) | refine qY ?_) | (apply Q_guarded;first | (apply Q_go;first | refine qPG ?_ | refine qPgG ?_) | refine qG ?_))
    refine qY (v:=.slice xa nd xc) ?_ (hy:=fun w hw=>y_l1m (hB:=hB8) hw rfl rfl)
    repeat (first | refine Q_nil ?_ | (apply Q_plain;first | (apply Q_go;first | refine qP ?_ | refine qPg ?_) | refine qY ?_) | (apply Q_guarded;first | (apply Q_go;first | refine qPG ?_ | refine qPgG ?_) | refine qG ?_))
    intro w hw
    repeat (first | refine byW ?_ | (refine byV ?_;intro w hw))
    exact ⟨nd - i - 1,by omega,i+1,q',m',d',by omega,⟨rfl,by rw [hst,hpe];rfl,rfl,rfl,rfl,rfl,rfl,trivial⟩,hw⟩
  have hin:i=nd:=by have:=of_decide_eq_false h;omega
  clear h
  have hwZ:=hw
  clear hw
  subst hin
  have hw:=hwZ
  clear hwZ
  repeat (first | refine byW ?_ | (refine byV ?_;intro w hw))
  have hfull:(ys.zip x).take i=ys.zip x:=List.take_of_length_le (by rw [List.length_zip];omega)
  have hpost:IntPost H L cap ((ys.zip x).map fun p=>(p.1.IRQ,(cs.getD p.2.toNat default).ID)) (sumZ (fun j=>aF (costsA H cs ys) j (atI x j)) i) 0:=by
    unfold IntPost
    rw [if_neg hcode,if_neg hper,← hcs2,← hnc,← hn5,if_neg hfit]
    exact ⟨ys,x,hyp,hys,by omega,hbest,rfl,by unfold costA;rw [hxl],rfl⟩
  unfold rsL at hw
  rw [hfull] at hw
  exact ⟨[_,_,_],⟨rfl,rfl,rfl,trivial⟩,Γ8,_,_,_,0,hle.trans hle8,rfl,hpost,hw⟩
end Go.Proofs.YthgighljhoneeaaGreatDoor
end
section
open Go Mk
namespace Go.Proofs.YthgighljhoneeaaGreatDoor
section
variable {n cap:Nat} {a:Nat→Int→Int} {x y:List Int}
end
end Go.Proofs.YthgighljhoneeaaGreatDoor
end
section
open Go Mk
namespace Go.Proofs.YthgighljhoneeaaGreatDoor
set_option maxHeartbeats 8000000
section
variable {α β:Type}
theorem bubC_map {f:α→β} {lt:α→α→Bool} {lt2:β→β→Bool} (h:∀ x y,lt2 (f x) (f y)=lt x y):∀ (j:Nat) (l:List α),(bubC lt j l).map f=bubC lt2 j (l.map f)
  | 0,_=>rfl
  | j+1,l=>by
    cases h1:l[j+1]? with
    | none=>
      have e1:bubC lt (j+1) l=l:=by simp [bubC,h1]
      have e2:bubC lt2 (j+1) (l.map f)=l.map f:=by simp [bubC,h1]
      rw [e1,e2]
    | some x=>
      obtain ⟨y,h2⟩:∃ y,l[j]? = some y:=by
        obtain ⟨hl, -⟩:=List.getElem?_eq_some_iff.1 h1
        exact ⟨_,List.getElem?_eq_getElem (by omega)⟩
      have h3:(l.map f)[j+1]? = some (f x):=by simp [h1]
      have h4:(l.map f)[j]? = some (f y):=by simp [h2]
      cases hb:lt x y with
      | true=>
        rw [bubC_step h1 h2 hb,bubC_step h3 h4 (by rw [h];exact hb),bubC_map h j]
        simp [List.map_set]
      | false=>rw [bubC_stop h1 h2 hb,bubC_stop h3 h4 (by rw [h];exact hb)]
theorem nodup_key {f:α→β}:∀ {l:List α},(l.map f).Nodup→∀ x∈l,∀ y∈l,f x=f y→x=y
  | [],_,x,hx,_,_,_=>by cases hx
  | a::l,h,x,hx,y,hy,e=>by
    rw [List.map_cons,List.nodup_cons] at h
    rcases List.mem_cons.1 hx with rfl | hx1
    · rcases List.mem_cons.1 hy with rfl | hy1
      · rfl
      · exact absurd (List.mem_map.2 ⟨y,hy1,e.symm⟩) h.1
    · rcases List.mem_cons.1 hy with rfl | hy1
      · exact absurd (List.mem_map.2 ⟨x,hx1,e⟩) h.1
      · exact nodup_key h.2 x hx1 y hy1 e
theorem pw_mem {R:α→α→Prop} (hs:∀ x y,R x y→R y x):∀ {l:List α},l.Pairwise R→∀ x∈l,∀ y∈l,x≠y→R x y
  | [],_,x,hx,_,_,_=>by cases hx
  | a::l,h,x,hx,y,hy,e=>by
    rw [List.pairwise_cons] at h
    rcases List.mem_cons.1 hx with rfl | hx1
    · rcases List.mem_cons.1 hy with rfl | hy1
      · exact absurd rfl e
      · exact h.1 y hy1
    · rcases List.mem_cons.1 hy with rfl | hy1
      · exact hs _ _ (h.1 x hx1)
      · exact pw_mem hs h.2 x hx1 y hy1 e
end
def canon (l:LinkT):LinkT:=if l.B < l.A then ⟨l.B,l.A,l.Latency⟩ else l
def ltZ (x y:Int):Bool:=decide (x < y)
def sortC (c:CacheT):CacheT:={ c with Cores:=isort ltZ c.Cores }
def cCacheT (x y:CacheT):Int:=orI (cI x.Level y.Level) (cB x.Name y.Name)
def normS (H:HwT):HwT:=⟨H.Name,isort (ltC cCore) H.Cores,isort (ltC cCacheT) (H.Caches.map sortC),isort (ltC cLink) (H.Links.map canon),isort (ltC cMem) H.Mems,isort (ltC cDev) H.Devs⟩
theorem apart_symm (x y:Int × Int) (h:apartB x y=true):apartB y x=true:=by
 unfold apartB at *
 rw [Bool.and_comm];exact h
theorem cMem_lt3:Lt3 (ltC cMem):=ltC_lt3 cI_ord MemT.Base
theorem cDev_lt3:Lt3 (ltC cDev):=ltC_lt3 cI_ord DevT.IRQ
theorem cCacheT_lt3:Lt3 (ltC cCacheT):=ltC_lt3 (cI_ord.prod cB_ord) fun x:CacheT=>(x.Level,x.Name)
theorem ltZ_lt3:Lt3 ltZ:=⟨fun x y h=>by unfold ltZ at *;simp at *;omega,fun x y z h1 h2=>by unfold ltZ at *;simp at *;omega⟩
end Go.Proofs.YthgighljhoneeaaGreatDoor
end
