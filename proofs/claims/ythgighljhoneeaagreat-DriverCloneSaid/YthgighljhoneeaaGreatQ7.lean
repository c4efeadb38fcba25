/- Texts of this proof, one behind another. -/
import Derived.Test.YthgighljhoneeaaGreatQ6
import Derived.Test.YthgighljhoneeaaGreatQ5
import Derived.Test.YthgighljhoneeaaGreatQ3
set_option linter.unusedVariables false
set_option linter.unusedSimpArgs false
section
open Go Mk
namespace Go.Proofs.YthgighljhoneeaaGreat
set_option maxHeartbeats 64000000
attribute [local irreducible] Calls
attribute [local irreducible] matL
theorem intPost_ex(H:HwT)(L:List Int)(per:Int):∃(rs:List (Int×Int)) (tot code:Int),IntPost H L per rs tot code:=by
 unfold IntPost;by_cases h1:(liveS H L).2≠0
 ·exact⟨[],0,(liveS H L).2,by rw[if_pos h1];exact⟨rfl,rfl,rfl⟩⟩
 ·simp only[if_neg h1]
  obtain⟨hv,hknown,-,-,hl1⟩:=liveS_zero (Decidable.of_not_not h1)
  by_cases h2:per<1∨256<per
  ·exact⟨[],0,6,by rw[if_pos h2];exact⟨rfl,rfl,rfl⟩⟩
  ·simp only[if_neg h2]
   by_cases h3:per*(liveS H L).1.length<H.Devs.length
   ·exact⟨[],0,64,by rw[if_pos h3];exact⟨rfl,rfl,rfl⟩⟩
   ·simp only[if_neg h3]
    have hcm:∀c∈(liveS H L).1,c∈H.Cores:=fun c hc=>by
     rw[hl1]at hc;obtain⟨id,hid,rfl⟩:=List.mem_map.1 hc
     exact(findC_in (hknown id ((sortZ_perm L).mem_iff.1 hid))).1
    have hyp:(normS H).Devs.Perm H.Devs:=(isort_spec cDev_lt3 _).1
    have hys:(normS H).Devs.Pairwise fun a b=>a.IRQ≤b.IRQ:=(isort_spec cDev_lt3 H.Devs).2.imp fun {a b} h=>by rw[lt_DevT]at h;have:=of_decide_eq_false h;omega
    generalize (normS H).Devs=ys at *
    generalize (liveS H L).1=cs at *
    obtain⟨cap,rfl⟩:∃cap:Nat,per=cap:=⟨per.toNat,by omega⟩
    have hAl:(costsA H cs ys).length=ys.length:=by unfold costsA;rw[List.length_map]
    have hCM:CostM cs.length (costsA H cs ys):=costsA_ok hv hcm (fun d hd=>hyp.mem_iff.1 hd)
    have hroom:ys.length≤cs.length*cap:=by
     rw[Nat.mul_comm,hyp.length_eq];have h5:((cap*cs.length:Nat):Int)=(cap:Int)*(cs.length:Int):=by push_cast;rfl
     omega
    obtain⟨y,hyl,hyF⟩:=full_ex (n:=cs.length) (cap:=cap) ys.length hroom
    obtain⟨x,hx,hb,-⟩:=tryL_best (a:=aF (costsA H cs ys)) (fun i c hc=>by
     by_cases hi:i<(costsA H cs ys).length
     ·obtain⟨r,-,-,h2⟩:=hCM.get hi
      exact(h2 c hc).2.1
     ·unfold aF;rw[List.getD_eq_getElem?_getD (l:=costsA H cs ys),List.getElem?_eq_none (by omega)]
      exact Int.le_refl _) hyF hyl
    exact⟨_,_,_,ys,x,hyp,hys,hx,hb,rfl,rfl,rfl⟩
theorem int_fix{Γ:Gho}{u:Value}{H:HwT}[hh:HwR Γ u H]{S:List Res}{w:World}{v:Value}{L:List Int}{per tot code:Int}{rs:List (Int×Int)}(hip:IntPost H L per rs tot code)(hr:RepS Γ v 1 (intRows L))(hN:L.length≤1000)(hLen:(liveS H L).1.length≤64)(hDev:H.Devs.length≤1000)(hcsub:∀c∈(liveS H L).1,c∈H.Cores)(hw:Wd Γ S w) :
  Calls Tryz.prog 15 #[u,v,.int .i64 per] w fun e w'=>∃v',e=.returned (.tuple #[v',.int .i64 tot,.int .i64 code])∧Wd Γ (.own v' 55 2 (rs.map prI)::S) w':=by
 have hle:=hpG_le hw
 refine(interruptsW (Γ:=hpG Γ w) (hh:=hh.mono hle) (S:=[]) (hr.mono hle) hN hLen hDev hcsub (hpG_wd hw)).mono fun e w' hq=>?_
 obtain⟨Γ',v',rs',tot',code',hle2,rfl,hp,hw'⟩:=hq;obtain⟨rfl,rfl,rfl⟩:=intPost_uniq hip hp
 exact⟨v',rfl,wd_keptG hw hle2 (owns_noimm (by intro r hr;rw[List.mem_singleton.1 hr];exact⟨_,_,_,_,rfl⟩)) hw'⟩
theorem rint_fix{Γ:Gho}{u:Value}{H:HwT}[hh:HwR Γ u H][hwd:WideH H]{S:List Res}{w:World}{v:Value}{L:List Int}{per tot code:Int}{rs:List (Int×Int)}(hip:IntPost H L per rs tot code)(hr:RepS Γ v 1 (intRows L))(hN:L.length≤1000)(hLen:(liveS H L).1.length≤64)(hDev:H.Devs.length≤1000)(hLe:HwLe H)(hw:Wd Γ S w) :
  Calls Tryz.prog 59 #[u,v,.int .i64 per] w fun e w'=>∃v',e=.returned (.tuple #[v',.int .i64 tot,.int .i64 code])∧Wd Γ (.own v' 55 2 (rs.map prI)::S) w':=by
 have hle:=hpG_le hw
 refine(rinterruptsW (Γ:=hpG Γ w) (hh:=hh.mono hle) (S:=[]) (hr.mono hle) hN hLen hDev hLe (hpG_wd hw)).mono fun e w' hq=>?_
 obtain⟨Γ',v',rs',tot',code',hle2,rfl,hp,hw'⟩:=hq;obtain⟨rfl,rfl,rfl⟩:=intPost_uniq hip hp
 exact⟨v',rfl,wd_keptG hw hle2 (owns_noimm (by intro r hr;rw[List.mem_singleton.1 hr];exact⟨_,_,_,_,rfl⟩)) hw'⟩
section
variable {P:Program}{n:Nat}{ops:List Oper}{Γ:Gho}{K:List Res}{Q:Fr→World→Prop}{ρ:Fr}{rest:List Oper}{wr tc stab:List (List Nat)}{i:Nat}{M:Nat→Fr→List Res}{o:Oper}{v:Value}
theorem mM3{c c2 c3:Nat}(m m2 m3:Fr→List Res)(hs:∀Y w g,Wd Γ (K++(cellsAt tc stab i M g++Y)) w→Step P o (ovr stab.flatten g ρ) w fun u w'=>Wd Γ (K++(cellsAt tc stab i (setC (setC (setC M c m) c2 m2) c3 m3) (putO g o.dst u)++Y)) w'∧(freeD stab o.dst=false→u=v))
  (h:MSw (mV P n ops Γ K wr tc stab) Q (i+1) rest ⟨putO ρ o.dst v,setC (setC (setC M c m) c2 m2) c3 m3⟩) (hw0:wr.getD i []=[c,c2,c3]) (hg:o.guard=none):MSw (mV P n ops Γ K wr tc stab) Q i (o::rest) ⟨ρ,M⟩:=by
 have hn:Mt.nxt (mV P n ops Γ K wr tc stab) i ⟨ρ,M⟩ ⟨v,setC (setC (setC M c m) c2 m2) c3 m3⟩=setC (setC (setC M c m) c2 m2) c3 m3:=by
  funext y
  simp only[Mt.nxt,MEnv.w,hw0]
  unfold setC;by_cases h1:y=c <;> by_cases h2:y=c2 <;> by_cases h3:y=c3 <;> simp[h1,h2,h3]
 refine⟨⟨v,setC (setC (setC M c m) c2 m2) c3 m3⟩,⟨fun Γ' Y w g hr hw=>?_⟩,?_⟩
 ·have hΓ:Γ'=Γ:=hr
  subst hΓ;rw[hn];refine⟨fun _=>(hs Y w g hw).mono fun u w' ⟨h1,h2⟩=>⟨Γ',rfl,h1,h2⟩,fun hf=>?_⟩
  rw[wantF_none hg]at hf;cases hf
 ·simp only[Mt.next,hn];exact h
end
theorem perm3{A B C K Y:List Res}:(A++(B++(C++(K++Y)))).Perm (K++((A++(B++(C++[])))++Y)):=by
 simp only[List.append_nil,List.append_assoc]
 exact(List.Perm.append_left A (List.Perm.append_left B (List.perm_append_comm_assoc C K Y))).trans ((List.Perm.append_left A (List.perm_append_comm_assoc B K _)).trans (List.perm_append_comm_assoc A K _))
theorem perm1{B K Y:List Res}:(K++((B++[])++Y)).Perm (B++(K++Y)):=by
 rw[List.append_nil];exact List.perm_append_comm_assoc _ _ _
theorem perm4{A B X K:List Res}:(X++(A++(B++K))).Perm (A++(B++(K++X))):=(List.perm_append_comm_assoc X A _).trans (List.Perm.append_left A ((List.perm_append_comm_assoc X B K).trans (List.Perm.append_left B List.perm_append_comm)))
theorem perm6{A B C K Y:List Res}:(C++(B++(([]++([]++(K++Y)))++A))).Perm (K++((A++(B++(C++[])))++Y)):=by
 have h:(C++(B++(([]++([]++(K++Y)))++A))).Perm (A++(B++(C++(K++Y)))):=by
  simp only[List.nil_append]
  refine(List.perm_append_comm_assoc C B _).trans ?_
  refine(List.Perm.append_left B ((List.Perm.append_left C List.perm_append_comm).trans (List.perm_append_comm_assoc C A _))).trans ?_
  exact List.perm_append_comm_assoc B A _
 exact h.trans perm3
set_option maxHeartbeats 16000000
structure IntrT where
 IRQ:Int
 Core:Int
 Driver:Int
 Serving:Int
 Masked:Bool
 Pending:Bool
 deriving DecidableEq,Inhabited
instance:GoT IntrT where
 enc a:=[.int .i64 a.IRQ,.int .i64 a.Core,.int .i64 a.Driver,.int .i64 a.Serving,.bool a.Masked,.bool a.Pending]
 inj a b h:=by cases a;cases b;simp at h;simp[h]
 ks:=[5,5,5,5,0,0]
 kinds a:=rfl
structure NoteT where
 IRQ:Int
 Core:Int
 Driver:Int
 deriving DecidableEq,Inhabited
instance:GoT NoteT where
 enc a:=[.int .i64 a.IRQ,.int .i64 a.Core,.int .i64 a.Driver]
 inj a b h:=by cases a;cases b;simp at h;simp[h]
 ks:=[5,5,5]
 kinds a:=rfl
def dlv(x:IntrT):Bool:=x.Pending && !decide (x.Driver = -1) && !x.Masked&&decide (x.Serving = -1)
def dlvX(x:IntrT):IntrT:=if dlv x=true then { x with Pending:=false,Serving:=x.Core } else x
def ntOf(x:IntrT):NoteT:=⟨x.IRQ,x.Core,x.Driver⟩
def ntsL(l:List IntrT):List NoteT:=(l.filter dlv).map ntOf
def dlvL(l:List IntrT):List IntrT:=l.map dlvX
def setI(l:List IntrT)(irq:Int)(f:IntrT→IntrT):List IntrT:=l.map fun x=>if x.IRQ=irq then f x else x
def getI(l:List IntrT)(irq:Int):Option IntrT:=l.find? fun x=>decide (x.IRQ=irq)
abbrev AnsT:=List IntrT×List NoteT×Int
def delS(l:List IntrT):AnsT:=(dlvL l,ntsL l,0)
def attF(d:Int)(x:IntrT):IntrT:={ x with Driver:=d }
def detF(x:IntrT):IntrT:={ x with Driver:=-1,Pending:=x.Pending || !decide (x.Serving = -1),Serving:=-1 }
def rseF(x:IntrT):IntrT:={ x with Pending:=true }
def ackF(x:IntrT):IntrT:={ x with Serving:=-1 }
def mskF(on:Bool)(x:IntrT):IntrT:={ x with Masked:=on }
def relF(c:Int)(x:IntrT):IntrT:=if x.Serving=c then { x with Serving:=-1,Pending:=true } else x
def attS(l:List IntrT)(irq d:Int):AnsT:=match getI l irq with
 | none=>(l,[],17)
 | some x=>if d<0∨32≤d then (l,[],1) else if x.Driver≠-1 then (l,[],56) else delS (setI l irq (attF d))
def detS(l:List IntrT)(irq:Int):AnsT:=match getI l irq with
 | none=>(l,[],17)
 | some x=>if x.Driver = -1 then (l,[],2) else (setI l irq detF,[],0)
def rseS(l:List IntrT)(irq:Int):AnsT:=match getI l irq with
 | none=>(l,[],17)
 | some _=>delS (setI l irq rseF)
def ackS(l:List IntrT)(irq c:Int):AnsT:=match getI l irq with
 | none=>(l,[],17)
 | some x=>if x.Serving = -1∨x.Serving≠c then (l,[],8) else delS (setI l irq ackF)
def mskS(l:List IntrT)(irq:Int)(on:Bool):AnsT:=match getI l irq with
 | none=>(l,[],17)
 | some _=>delS (setI l irq (mskF on))
def AscI(l:List IntrT):Prop:=l.Pairwise fun a b=>a.IRQ<b.IRQ
theorem dlvX_irq(x:IntrT):(dlvX x).IRQ=x.IRQ:=by unfold dlvX;split <;> rfl
theorem dlvX_core(x:IntrT):(dlvX x).Core=x.Core:=by unfold dlvX;split <;> rfl
theorem dlvX_drv(x:IntrT):(dlvX x).Driver=x.Driver:=by unfold dlvX;split <;> rfl
theorem dlvX_no{x:IntrT}(h:dlv x=false):dlvX x=x:=by unfold dlvX;rw[if_neg (by rw[h];decide)]
theorem dlvX_not{x:IntrT}(h:0≤x.Core):dlv (dlvX x)=false:=by
 unfold dlvX;split
 ·simp[dlv]
 ·rename_i h;simpa using h
theorem asc_get{l:List IntrT}(h:AscI l){i k:Nat}{x y:IntrT}(hx:l[i]? = some x)(hy:l[k]? = some y)(e:x.IRQ=y.IRQ):i=k:=by
 obtain⟨hi,rfl⟩:=List.getElem?_eq_some_iff.1 hx
 obtain⟨hk,rfl⟩:=List.getElem?_eq_some_iff.1 hy
 have hp:=List.pairwise_iff_getElem.1 h
 rcases Nat.lt_trichotomy i k with h1|h1|h1
 ·have:=hp i k hi hk h1;omega
 ·exact h1
 ·have:=hp k i hk hi h1;omega
theorem getI_some{l:List IntrT}{irq:Int}{x:IntrT}(h:getI l irq=some x):∃k:Nat,l[k]? = some x∧x.IRQ=irq:=by
 unfold getI at h;have h1:=List.find?_some h
 have h2:=List.mem_of_find?_eq_some h
 obtain⟨k,hk⟩:=List.getElem?_of_mem h2
 exact⟨k,hk,by simpa using h1⟩
theorem getI_none{l:List IntrT}{irq:Int}(h:getI l irq=none):∀x∈l,x.IRQ≠irq:=by
 unfold getI at h;intro x hx e;have:=List.find?_eq_none.1 h x hx
 simp[e]at this
theorem setI_at{l:List IntrT}(h:AscI l){k:Nat}{x:IntrT}(hx:l[k]? = some x)(f:IntrT→IntrT):setI l x.IRQ f=l.set k (f x):=by
 refine List.ext_getElem? fun i=>?_
 unfold setI;rw[List.getElem?_map,List.getElem?_set];cases hi:l[i]? with
 | none=>
  have:l.length≤i:=by simpa using hi
  have hk:=(List.getElem?_eq_some_iff.1 hx).1
  rw[if_neg (by omega)];rfl
 | some y=>
  simp only[Option.map_some]
  by_cases e:k=i
  ·subst e;obtain rfl:x=y:=by rw[hx]at hi;exact Option.some.inj hi
   have hk:=(List.getElem?_eq_some_iff.1 hx).1
   rw[if_pos rfl,if_pos hk,if_pos rfl]
  ·rw[if_neg e,if_neg fun e2=>e (asc_get h hi hx e2).symm]
theorem asc_nodup{l:List IntrT}(h:AscI l):(l.map (·.IRQ)).Nodup:=by
 have h1:(l.map (·.IRQ)).Pairwise (· < ·):=by rw[List.pairwise_map];exact h
 exact h1.imp fun {a b} h=>by omega
theorem ntsL_step{l:List IntrT}{k:Nat}{x:IntrT}(h:l[k]? = some x):ntsL (l.take (k+1))=ntsL (l.take k)++if dlv x=true then [ntOf x] else []:=by
 rw[take_succ_of h];unfold ntsL;rw[List.filter_append,List.map_append];by_cases e:dlv x=true
 ·simp[e]
 ·simp[e]
def recI(l:List IntrT)(rs:List (Int×Int)):List IntrT:=(l.zip rs).map fun p=>{ p.1 with Core:=p.2.2 }
def rtI(l:List IntrT):List (Int×Int):=l.map fun x=>(x.IRQ,x.Core)
def newI(rs:List (Int×Int)):List IntrT:=rs.map fun r=>⟨r.1,r.2,-1,-1,false,false⟩
theorem rtI_new(rs:List (Int×Int)):rtI (newI rs)=rs:=by
 unfold rtI newI;rw[List.map_map];exact List.map_id' rs
theorem rec_len{l:List IntrT}{rs:List (Int×Int)}(h:rs.map (·.1)=l.map (·.IRQ)):rs.length=l.length:=by
 have:=congrArg List.length h
 simpa using this
theorem rec_at{l:List IntrT}{rs:List (Int×Int)}(h:rs.map (·.1)=l.map (·.IRQ)){k:Nat}{x:IntrT}(hx:l[k]? = some x):∃r,rs[k]? = some r∧r.1=x.IRQ∧(recI l rs)[k]? = some { x with Core:=r.2 }:=by
 have hk:=(List.getElem?_eq_some_iff.1 hx).1
 have hl:=rec_len h
 obtain⟨r,hr⟩:=get_lt (l:=rs) (k:=k) (by omega)
 refine⟨r,hr,?_,?_⟩
 ·have h1:=congrArg (fun l=>l[k]?) h
  simp only[List.getElem?_map,hr,hx,Option.map_some,Option.some.injEq]at h1
  exact h1
 ·unfold recI;have h2:(l.zip rs)[k]? = some (x,r):=List.getElem?_zip_eq_some.2 ⟨hx,hr⟩
  rw[List.getElem?_map,h2];rfl
theorem rtI_rec{l:List IntrT}{rs:List (Int×Int)}(h:rs.map (·.1)=l.map (·.IRQ)):rtI (recI l rs)=rs:=by
 refine List.ext_getElem? fun k=>?_
 unfold rtI;rw[List.getElem?_map];have hl:=rec_len h
 cases hx:l[k]? with
 | none=>
  have h1:l.length≤k:=by simpa using hx
  rw[List.getElem?_eq_none (l:=recI l rs) (by unfold recI;rw[List.length_map,List.length_zip];omega),List.getElem?_eq_none (l:=rs) (by omega)];rfl
 | some x=>
  obtain⟨r,h1,h2,h3⟩:=rec_at h hx
  rw[h3,h1];simp only[Option.map_some,←h2]
theorem rec_mem{l:List IntrT}{rs:List (Int×Int)}{y:IntrT}(h:y∈recI l rs):∃x∈l,∃r∈rs,y = { x with Core:=r.2 }:=by
 unfold recI at h;obtain⟨⟨x,r⟩,h1,rfl⟩:=List.mem_map.1 h
 exact⟨x,(List.of_mem_zip h1).1,r,(List.of_mem_zip h1).2,rfl⟩
theorem rtI_map{f:IntrT→IntrT}(h1:∀x,(f x).IRQ=x.IRQ)(h2:∀x,(f x).Core=x.Core)(l:List IntrT):rtI (l.map f)=rtI l:=by
 unfold rtI;rw[List.map_map];exact List.map_congr_left fun x _=>by simp[h1,h2]
theorem asc_irq{l:List IntrT}:AscI l↔(l.map (·.IRQ)).Pairwise (· < ·):=by
 unfold AscI;rw[List.pairwise_map]
end Go.Proofs.YthgighljhoneeaaGreat
end
section
open Go Mk
namespace Go.Proofs.YthgighljhoneeaaGreat
set_option maxHeartbeats 16000000
attribute [local irreducible] Calls
attribute [local irreducible] matL
theorem core_idD{H:HwT}(hv:validS H=0){x:Int}(h:(findC H.Cores x).2=true):0≤x∧x<32:=by
 obtain⟨h1,h2⟩:=findC_mem h
 obtain⟨-,-,h3,-⟩:=valid_all hv
 unfold coresRB at h3;simp only[Bool.and_eq_true]at h3
 have:=List.all_eq_true.1 h3.1.1 _ h1
 simp[coreRB]at this
 omega
theorem sortZ_uniq{l k:List Int}(h:l.Perm k):sortZ l=sortZ k:=
 sorted_uniq (lt:=fun a b:Int=>decide (a<b)) (fun x _ y _ e1 e2=>by have:=of_decide_eq_false e1;have:=of_decide_eq_false e2;omega) ((sortZ_sorted k).imp fun h=>decide_eq_false (by omega)) ((sortZ_sorted l).imp fun h=>decide_eq_false (by omega)) ((sortZ_perm l).trans (h.trans (sortZ_perm k).symm))
theorem sortZ_self{l:List Int}(h:l.Pairwise (· < ·)):sortZ l=l:=sortZ_eq h (.refl _)
theorem sortZ_strict{l:List Int}(h:l.Nodup):(sortZ l).Pairwise (· < ·):=((sortZ_sorted l).and (((sortZ_perm l).nodup_iff).2 h)).imp fun {a b} h=>by have:=h.1;have:=h.2;omega
theorem strict_nodup{l:List Int}(h:l.Pairwise (· < ·)):l.Nodup:=h.imp fun {a b} h=>by omega
theorem liveS_perm{H:HwT}{L L':List Int}(h:L.Perm L'):liveS H L=liveS H L':=by
 unfold liveS;rw[sortZ_uniq h]
theorem intPost_perm{H:HwT}{L L':List Int}(h:L.Perm L'){cap tot code:Int}{rs:List (Int×Int)}(hp:IntPost H L cap rs tot code):IntPost H L' cap rs tot code:=by
 unfold IntPost at *
 rw[←liveS_perm h];exact hp
def irqL(H:HwT):List Int:=(normS H).Devs.map (·.IRQ)
structure CapOk(H:HwT)(cap:Int):Prop where
 v:validS H=0
 c1:1≤cap
 c2:cap≤256
 dv:(H.Devs.length:Int)≤cap
theorem irqL_asc{H:HwT}(hv:validS H=0):(irqL H).Pairwise (· < ·):=by
 have h1:=isort_spec cDev_lt3 H.Devs
 have hp:(normS H).Devs.Perm H.Devs:=h1.1
 have hs:(normS H).Devs.Pairwise fun a b=>a.IRQ≤b.IRQ:=h1.2.imp fun {a b} h=>by rw[lt_DevT]at h;have:=of_decide_eq_false h;omega
 have hn:((normS H).Devs.map (·.IRQ)).Nodup:=((hp.map _).nodup_iff).2 (irqs_nodup hv)
 have hs2:((normS H).Devs.map (·.IRQ)).Pairwise (·≤·):=by rw[List.pairwise_map];exact hs
 exact(hs2.and hn).imp fun {a b} h=>by have:=h.1;have:=h.2;omega
theorem irqL_len{H:HwT}:(irqL H).length=H.Devs.length:=by
 unfold irqL;rw[List.length_map];exact(isort_spec cDev_lt3 H.Devs).1.length_eq
section
variable {H:HwT}{cap tot:Int}{L:List Int}{rs:List (Int×Int)}
theorem rt_facts(h:IntPost H L cap rs tot 0):rs.map (·.1)=irqL H∧∀p∈rs,p.2∈L:=by
 unfold IntPost at h;by_cases e:(liveS H L).2≠0
 ·rw[if_pos e]at h;exact absurd h.2.2.symm e
 rw[if_neg e]at h;by_cases e2:cap<1∨256<cap
 ·rw[if_pos e2]at h;have:=h.2.2;omega
 rw[if_neg e2]at h;by_cases e3:cap*(liveS H L).1.length<H.Devs.length
 ·rw[if_pos e3]at h;have:=h.2.2;omega
 rw[if_neg e3]at h;obtain⟨ys,x,hyp,hys,hxl,hbest,rfl,-,-⟩:=h;obtain⟨hv,hknown,-,-,hl1⟩:=liveS_zero (Decidable.of_not_not e)
 constructor
 ·unfold irqL;rw[devs_norm hv hyp hys,List.map_map];refine List.ext_getElem? fun k=>?_
  rw[List.getElem?_map,List.getElem?_map];cases hy:ys[k]? with
  | none=>
   have:ys.length≤k:=by simpa using hy
   rw[List.getElem?_eq_none (by rw[List.length_zip];omega)];rfl
  | some y=>
   have hk:=(List.getElem?_eq_some_iff.1 hy).1
   obtain⟨z,hz⟩:=get_lt (l:=x) (k:=k) (by omega)
   have h2:(ys.zip x)[k]? = some (y,z):=List.getElem?_zip_eq_some.2 ⟨hy,hz⟩
   rw[h2];rfl
 ·intro p hp;obtain⟨⟨d,z⟩,hz,rfl⟩:=List.mem_map.1 hp
  have hzx:=(List.of_mem_zip hz).2
  have hr:=hbest.full.rng z hzx
  obtain⟨c,hc⟩:=get_lt (l:=(liveS H L).1) (k:=z.toNat) (by omega)
  show ((liveS H L).1.getD z.toNat default).ID∈L
  rw[List.getD_eq_getElem?_getD,hc];have hm:=List.mem_of_getElem? hc
  rw[hl1]at hm;obtain⟨id,hid,rfl⟩:=List.mem_map.1 hm
  have hid2:=(sortZ_perm L).mem_iff.1 hid
  show (findC H.Cores id).1.ID∈L
  rw[(findC_in (hknown id hid2)).2];exact hid2
theorem rt_ok(hc:CapOk H cap)(hn:L.Nodup)(hs:∀c∈L,(findC H.Cores c).2=true)(h0:L≠[]):∃(rs:List (Int×Int)) (tot:Int),IntPost H L cap rs tot 0:=by
 obtain⟨rs,tot,code,h⟩:=intPost_ex H L cap
 have hl:(liveS H L).2=0:=by
  rw[liveS_code hc.v,if_neg (fun⟨id,h1,h2⟩=>by rw[hs id h1]at h2;cases h2),if_neg (fun e=>e hn),if_neg h0]
 have hlen:(liveS H L).1.length=L.length:=by
  rw[(liveS_zero hl).2.2.2.2,List.length_map];exact(sortZ_perm L).length_eq
 obtain rfl:code=0:=by
  unfold IntPost at h;rw[if_neg (by omega),if_neg (by have:=hc.c1;have:=hc.c2;omega),if_neg (by
   rw[hlen];have h1:1≤L.length:=by
    cases L with
    | nil=>exact absurd rfl h0
    | cons=>simp
   have h2:cap*1≤cap*(L.length:Int):=Int.mul_le_mul_of_nonneg_left (by omega) (by have:=hc.c1;omega)
   have:=hc.dv
   omega)]at h
  obtain⟨_,_,_,_,_,_,_,_,h⟩:=h;exact h
 exact⟨rs,tot,h⟩
theorem rt_none(hc:CapOk H cap){code:Int}(h:IntPost H [] cap rs tot code):rs=[]∧tot=0∧code=64:=by
 have hl:(liveS H []).2=64:=by
  rw[liveS_code hc.v,if_neg (fun⟨id,h1,_⟩=>by cases h1),if_neg (fun e=>e List.nodup_nil),if_pos rfl]
 unfold IntPost at h;rw[if_pos (by omega),hl]at h
 exact h
end
structure DSt(H:HwT)(cap:Int)(L:List Int)(ls:List IntrT):Prop where
 ne:L≠[]
 live:L.Pairwise (· < ·)
 sub:∀c∈L,(findC H.Cores c).2=true
 drv:∀x∈ls,-1≤x.Driver
 srv:∀x∈ls,x.Serving = -1∨x.Serving∈L
 no:∀x∈ls,dlv x=false
 rt:∃tot,IntPost H L cap (rtI ls) tot 0
section
variable {H:HwT}{cap:Int}{L:List Int}{ls:List IntrT}
theorem rtI_fst(l:List IntrT):(rtI l).map (·.1)=l.map (·.IRQ):=by unfold rtI;rw[List.map_map];rfl
theorem DSt.irq(h:DSt H cap L ls):ls.map (·.IRQ)=irqL H:=by
 obtain⟨tot,hr⟩:=h.rt;rw[←rtI_fst];exact(rt_facts hr).1
theorem DSt.asc(hv:validS H=0)(h:DSt H cap L ls):AscI ls:=by
 rw[asc_irq,h.irq];exact irqL_asc hv
theorem DSt.len(h:DSt H cap L ls):ls.length=H.Devs.length:=by
 have:=congrArg List.length h.irq
 rw[List.length_map,irqL_len]at this;exact this
theorem live_rng(hv:validS H=0)(hs:∀c∈L,(findC H.Cores c).2=true):∀c∈L,0≤c∧c<32:=fun c hc=>core_idD hv (hs c hc)
theorem live_len(hv:validS H=0)(hn:L.Nodup)(hs:∀c∈L,(findC H.Cores c).2=true):L.length≤32:=by
 have h1:∀c∈L,0≤c∧c<32:=live_rng hv hs
 have h2:(L.map Int.toNat).Nodup:=by
  unfold List.Nodup at *
  rw[List.pairwise_map];exact hn.imp_of_mem fun {a b} ha hb h=>by have:=h1 a ha;have:=h1 b hb;omega
 have h3:=Mk.nodup_le 32 _ h2 (fun i hi=>by
  obtain⟨c,hc,rfl⟩:=List.mem_map.1 hi
  have:=h1 c hc
  omega)
 simpa using h3
theorem DSt.ln(hv:validS H=0)(h:DSt H cap L ls):L.length≤32:=live_len hv (strict_nodup h.live) h.sub
theorem dst_dlv(hv:validS H=0){M:List IntrT}(h0:L≠[])(hl:L.Pairwise (· < ·))(hs:∀c∈L,(findC H.Cores c).2=true)(hd:∀x∈M,-1≤x.Driver)(hsv:∀x∈M,x.Serving = -1∨x.Serving∈L){tot:Int}(hr:IntPost H L cap (rtI M) tot 0):DSt H cap L (dlvL M):=by
 have hc:∀x∈M,x.Core∈L:=fun x hx=>(rt_facts hr).2 (x.IRQ,x.Core) (List.mem_map.2 ⟨x,hx,rfl⟩)
 refine⟨h0,hl,hs,fun y hy=>?_,fun y hy=>?_,fun y hy=>?_,tot,?_⟩
 ·obtain⟨x,hx,rfl⟩:=List.mem_map.1 hy
  rw[dlvX_drv];exact hd x hx
 ·obtain⟨x,hx,rfl⟩:=List.mem_map.1 hy
  unfold dlvX;split
  ·exact .inr (hc x hx)
  ·exact hsv x hx
 ·obtain⟨x,hx,rfl⟩:=List.mem_map.1 hy
  exact dlvX_not (live_rng hv hs _ (hc x hx)).1
 ·unfold dlvL;rw[rtI_map dlvX_irq dlvX_core];exact hr
theorem rtI_set(irq:Int){f:IntrT→IntrT}(h1:∀x,(f x).IRQ=x.IRQ)(h2:∀x,(f x).Core=x.Core)(l:List IntrT):rtI (setI l irq f)=rtI l:=by
 refine rtI_map (f:=fun x=>if x.IRQ=irq then f x else x) (fun x=>?_) (fun x=>?_) l
 ·by_cases e:x.IRQ=irq
  ·simp only[e,if_true];rw[h1,e]
  ·simp only[e,if_false]
 ·by_cases e:x.IRQ=irq
  ·simp only[e,if_true];rw[h2]
  ·simp only[e,if_false]
theorem set_mem{l:List IntrT}{irq:Int}{f:IntrT→IntrT}{y:IntrT}(h:y∈setI l irq f):∃x∈l,y=f x∧x.IRQ=irq∨y=x∧x.IRQ≠irq:=by
 obtain⟨x,hx,rfl⟩:=List.mem_map.1 h
 refine⟨x,hx,?_⟩
 by_cases e:x.IRQ=irq
 ·exact .inl ⟨if_pos e,e⟩
 ·exact .inr ⟨if_neg e,e⟩
theorem DSt.upd(hv:validS H=0)(h:DSt H cap L ls)(irq:Int){f:IntrT→IntrT}(h1:∀x,(f x).IRQ=x.IRQ)(h2:∀x,(f x).Core=x.Core)(h3:∀x,-1≤x.Driver→-1≤(f x).Driver)(h4:∀x,x.Serving = -1∨x.Serving∈L→(f x).Serving = -1∨(f x).Serving∈L):DSt H cap L (dlvL (setI ls irq f)):=by
 obtain⟨tot,hr⟩:=h.rt;refine dst_dlv hv h.ne h.live h.sub (fun y hy=>?_) (fun y hy=>?_) (tot:=tot) (by rw[rtI_set irq h1 h2];exact hr)
 ·obtain⟨x,hx,⟨rfl,-⟩|⟨rfl,-⟩⟩:=set_mem hy
  ·exact h3 x (h.drv x hx)
  ·exact h.drv y hx
 ·obtain⟨x,hx,⟨rfl,-⟩|⟨rfl,-⟩⟩:=set_mem hy
  ·exact h4 x (h.srv x hx)
  ·exact h.srv y hx
theorem DSt.det(h:DSt H cap L ls)(irq:Int):DSt H cap L (setI ls irq detF):=by
 obtain⟨tot,hr⟩:=h.rt;refine⟨h.ne,h.live,h.sub,fun y hy=>?_,fun y hy=>?_,fun y hy=>?_,tot,by rw[rtI_set irq (f:=detF) (fun _=>rfl) (fun _=>rfl)];exact hr⟩
 ·obtain⟨x,hx,⟨rfl,-⟩|⟨rfl,-⟩⟩:=set_mem hy
  ·exact Int.le_refl _
  ·exact h.drv y hx
 ·obtain⟨x,hx,⟨rfl,-⟩|⟨rfl,-⟩⟩:=set_mem hy
  ·exact .inl rfl
  ·exact h.srv y hx
 ·obtain⟨x,hx,⟨rfl,-⟩|⟨rfl,-⟩⟩:=set_mem hy
  ·unfold dlv detF;simp
  ·exact h.no y hx
theorem DSt.join(h:DSt H cap L ls){L':List Int}(hl:L'.Pairwise (· < ·))(hs:∀c∈L',(findC H.Cores c).2=true)(hsub:∀c∈L,c∈L'){rs:List (Int×Int)}{tot:Int}(hr:IntPost H L' cap rs tot 0):DSt H cap L' (recI ls rs):=by
 have hi:rs.map (·.1)=ls.map (·.IRQ):=by rw[h.irq];exact(rt_facts hr).1
 refine⟨fun e=>?_,hl,hs,fun y hy=>?_,fun y hy=>?_,fun y hy=>?_,tot,by rw[rtI_rec hi];exact hr⟩
 ·obtain⟨c,hc⟩:=List.exists_mem_of_ne_nil _ h.ne
  have:=hsub c hc
  rw[e]at this;cases this
 ·obtain⟨x,hx,r,-,rfl⟩:=rec_mem hy
  exact h.drv x hx
 ·obtain⟨x,hx,r,-,rfl⟩:=rec_mem hy
  exact(h.srv x hx).imp id (hsub _)
 ·obtain⟨x,hx,r,-,rfl⟩:=rec_mem hy
  exact h.no x hx
theorem relF_irq(c:Int)(x:IntrT):(relF c x).IRQ=x.IRQ:=by unfold relF;split <;> rfl
theorem relF_core(c:Int)(x:IntrT):(relF c x).Core=x.Core:=by unfold relF;split <;> rfl
theorem relF_drv(c:Int)(x:IntrT):(relF c x).Driver=x.Driver:=by unfold relF;split <;> rfl
theorem DSt.depart(hv:validS H=0)(h:DSt H cap L ls){c:Int}{L':List Int}(h0:L'≠[])(hL:L'=L.filter fun x=>!decide (x=c)){rs:List (Int×Int)}{tot:Int}(hr:IntPost H L' cap rs tot 0):DSt H cap L' (dlvL ((recI ls rs).map (relF c))):=by
 have hi:rs.map (·.1)=ls.map (·.IRQ):=by rw[h.irq];exact(rt_facts hr).1
 have hm:∀x,x∈L'↔x∈L∧x≠c:=fun x=>by rw[hL];simp
 refine dst_dlv hv h0 (by rw[hL];exact h.live.filter _) (fun x hx=>h.sub x ((hm x).1 hx).1) (fun y hy=>?_) (fun y hy=>?_) (tot:=tot) (by rw[rtI_map (relF_irq c) (relF_core c),rtI_rec hi];exact hr)
 ·obtain⟨z,hz,rfl⟩:=List.mem_map.1 hy
  obtain⟨x,hx,r,-,rfl⟩:=rec_mem hz
  rw[relF_drv];exact h.drv x hx
 ·obtain⟨z,hz,rfl⟩:=List.mem_map.1 hy
  obtain⟨x,hx,r,-,rfl⟩:=rec_mem hz
  unfold relF;split
  ·exact .inl rfl
  ·rename_i e
   exact(h.srv x hx).imp id fun h1=>(hm _).2 ⟨h1,e⟩
theorem dst_new(hc:CapOk H cap)(h0:L≠[])(hl:L.Pairwise (· < ·))(hs:∀c∈L,(findC H.Cores c).2=true){rs:List (Int×Int)}{tot:Int}(hr:IntPost H L cap rs tot 0):DSt H cap L (newI rs):=by
 refine⟨h0,hl,hs,fun y hy=>?_,fun y hy=>?_,fun y hy=>?_,tot,by rw[rtI_new];exact hr⟩
 all_goals
  obtain⟨r,-,rfl⟩:=List.mem_map.1 hy
 ·exact Int.le_refl _
 ·exact .inl rfl
 ·rfl
end
theorem live_subD{H:HwT}{L:List Int}:(liveS H L).1.length≤L.length∧∀c∈(liveS H L).1,c∈H.Cores:=by
 by_cases e:(liveS H L).2=0
 ·obtain⟨-,h2,-,-,h5⟩:=liveS_zero e
  rw[h5];refine⟨by rw[List.length_map,(sortZ_perm L).length_eq];exact Nat.le_refl _,fun c hc=>?_⟩
  obtain⟨x,hx,rfl⟩:=List.mem_map.1 hc
  exact(findC_in (h2 x ((sortZ_perm L).mem_iff.1 hx))).1
 ·have:(liveS H L).1=[]:=by
   unfold liveS at e ⊢
   split
   ·rfl
   ·split
    ·rfl
    ·split
     ·rfl
     ·split
      ·rfl
      ·rename_i q1 q2 q3 q4
       rw[if_neg q1,if_neg q2,if_neg q3,if_neg q4]at e;exact absurd rfl e
  rw[this];exact⟨Nat.zero_le _,fun c hc=>by cases hc⟩
noncomputable def rtS(H:HwT)(L:List Int)(cap:Int):List (Int×Int):=Classical.epsilon fun rs=>∃tot,IntPost H L cap rs tot 0
def addL(L:List Int)(c:Int):List Int:=sortZ (L++[c])
def cutL(L:List Int)(c:Int):List Int:=L.filter fun x=>!decide (x=c)
open Classical in
noncomputable def joinS(H:HwT)(cap:Int)(L:List Int)(ls:List IntrT)(c:Int):List Int×AnsT:=
 if (findC H.Cores c).2=false then (L,ls,[],57) else if c∈L then (L,ls,[],56) else (addL L c,recI ls (rtS H (addL L c) cap),[],0)
open Classical in
noncomputable def depS(H:HwT)(cap:Int)(L:List Int)(ls:List IntrT)(c:Int):List Int×AnsT:=
 if c∉L then (L,ls,[],10) else if cutL L c=[] then (L,ls,[],64) else (cutL L c,delS ((recI ls (rtS H (cutL L c) cap)).map (relF c)))
section
variable {H:HwT}{cap:Int}{L:List Int}{ls:List IntrT}
theorem rtS_post(hc:CapOk H cap)(hn:L.Nodup)(hs:∀c∈L,(findC H.Cores c).2=true)(h0:L≠[]):∃tot,IntPost H L cap (rtS H L cap) tot 0:=
 Classical.epsilon_spec (p:=fun rs=>∃tot,IntPost H L cap rs tot 0) (rt_ok hc hn hs h0)
theorem addL_perm(L:List Int)(c:Int):(addL L c).Perm (L++[c]):=sortZ_perm _
theorem addL_mem{c x:Int}:x∈addL L c↔x∈L∨x=c:=by rw[(addL_perm L c).mem_iff];simp
theorem addL_strict(h:L.Pairwise (· < ·)){c:Int}(hc:c∉L):(addL L c).Pairwise (· < ·):=
 sortZ_strict (by
  rw[List.nodup_append];exact⟨strict_nodup h,by simp,fun a ha b hb e=>by simp at hb;subst hb;subst e;exact hc ha⟩)
theorem cutL_mem{c x:Int}:x∈cutL L c↔x∈L∧x≠c:=by unfold cutL;simp
theorem cutL_strict(h:L.Pairwise (· < ·))(c:Int):(cutL L c).Pairwise (· < ·):=h.filter _
theorem DSt.addPost(hc:CapOk H cap)(h:DSt H cap L ls){c:Int}(hf:(findC H.Cores c).2=true)(hn:c∉L):(addL L c).Pairwise (· < ·)∧(∀x∈addL L c,(findC H.Cores x).2=true)∧∃tot,IntPost H (addL L c) cap (rtS H (addL L c) cap) tot 0:=by
 have h1:=addL_strict h.live hn
 have h2:∀x∈addL L c,(findC H.Cores x).2=true:=fun x hx=>by
  rcases addL_mem.1 hx with e|rfl
  ·exact h.sub x e
  ·exact hf
 exact⟨h1,h2,rtS_post hc (strict_nodup h1) h2 fun e=>by
  have:c∈addL L c:=addL_mem.2 (.inr rfl)
  rw[e]at this;cases this⟩
theorem DSt.cutPost(hc:CapOk H cap)(h:DSt H cap L ls){c:Int}(h0:cutL L c≠[]):∃tot,IntPost H (cutL L c) cap (rtS H (cutL L c) cap) tot 0:=
 rtS_post hc (strict_nodup (cutL_strict h.live c)) (fun x hx=>h.sub x (cutL_mem.1 hx).1) h0
theorem DSt.jn(hc:CapOk H cap)(h:DSt H cap L ls)(c:Int):DSt H cap (joinS H cap L ls c).1 (joinS H cap L ls c).2.1:=by
 unfold joinS;split
 ·exact h
 ·rename_i e1
  split
  ·exact h
  ·rename_i e2
   obtain⟨h1,h2,tot,h3⟩:=h.addPost hc (by simpa using e1) e2
   exact h.join h1 h2 (fun x hx=>addL_mem.2 (.inl hx)) h3
theorem DSt.dp(hc:CapOk H cap)(h:DSt H cap L ls)(c:Int):DSt H cap (depS H cap L ls c).1 (depS H cap L ls c).2.1:=by
 unfold depS;split
 ·exact h
 ·split
  ·exact h
  ·rename_i e1 e2
   obtain⟨tot,h3⟩:=h.cutPost hc e2
   exact h.depart hc.v e2 rfl h3
end
end Go.Proofs.YthgighljhoneeaaGreat
end
section
open Go Mk
namespace Go.Proofs.YthgighljhoneeaaGreat
set_option maxHeartbeats 16000000
attribute [local irreducible] Calls
attribute [local irreducible] matL
theorem keys_range{β:Type}{l:List (Int×β)}:(List.range (l.map (·.1)).length).map (fun i=>(l.map (·.1)).getD i default)=l.map (·.1):=by
 have h:=range_map_get (l.map (·.1)) default id
 rw[List.map_id]at h;exact h
theorem Keys1_any{Γ:Gho}{bx bm clock:Nat}{en:Array MapEntry}{R:List Res}{β:Type}{l:List (Int×β)}{f:β→Value}(he:en.toList.map (fun e=>(e.key,e.val))=l.map fun p=>(Value.int .i64 p.1,f p.2))(hb:(en.toList.map (·.born)).Nodup)(hc:∀e∈en.toList,e.born<clock) :
  SeqC Tryz.prog Γ 97 #[] #[.pointer (some ⟨bx,0,none⟩)] l.length (fun x:Int=>.int .i64 x) (.blk bx (.cells #[.map (some bm)] 87)::.blk bm (.map en clock)::R) (fun xs=>xs.Perm (l.map (·.1))):=by
 intro yl I w hY hw;have hsz:en.size=l.length:=by have:=congrArg List.length he;simpa using this
 refine calls_of_W Tryz.func97 rfl rfl ?_
 have hw:Wd Γ (.blk bx (.cells #[.map (some bm)] 87)::.blk bm (.map en clock)::(I []++R)) w:=hw.perm ((List.perm_middle (l₁:=I [])).trans (List.Perm.cons _ List.perm_middle))
 refine byG ?_;refine lRange ?_;intro r w hw;refine byG ?_;refine W_loop (fun μ ρ w=>∃(seen:Array Nat) (idx:List Nat) (c0:Nat),Seen en seen idx∧μ+idx.length=l.length∧clock≤c0∧Has ρ [(0,.func (.yield yl) #[] #[]),(5,.pointer (some ⟨r,0,none⟩))]∧Wd Γ (.blk r (.mapIter (some bm) clock seen c0)::.blk bx (.cells #[.map (some bm)] 87)::.blk bm (.map en clock)::(I (idx.map fun i=>((l.map (·.1)).getD i default))++R)) w) l.length ⟨#[],[],clock,Seen.nil,rfl,Nat.le_refl _,⟨rfl,rfl,trivial⟩,hw⟩ ?_
 clear hw;rintro μ ρ w ⟨seen,idx,c0,hseen,hμ,hc0,hρ,hw⟩
 rw[hρ.eq];refine byG ?_;refine lNext (fun h0=>?_) (fun e w hmem hw=>?_) hc hc0
 ·refine byG ?_;refine W_cond_false rfl ?_
  refine byG ?_;have hp:=hseen.all hb h0
  refine⟨_,rfl,⟨_,rfl⟩,idx.map fun i=>((l.map (·.1)).getD i default),?_,hw.drop.perm ?_⟩
  ·have:=hp.map fun i=>((l.map (·.1)).getD i default)
   rw[hsz,show l.length=(l.map (·.1)).length by rw[List.length_map],keys_range]at this
   exact this
  ·exact(((List.perm_middle (l₁:=I (idx.map fun i=>((l.map (·.1)).getD i default)))).trans (List.Perm.cons _ List.perm_middle))).symm
 ·obtain⟨i,hie,hin,hil,hseen'⟩:=hseen.next hmem
  have hem:e∈en.toList:=(left_mem.1 hmem).1
  obtain⟨⟨k,x⟩,hlx⟩:=get_lt (l:=l) (k:=i) (by omega)
  have hev:e.key=.int .i64 k:=by
   have h1:(en.toList.map (fun e=>(e.key,e.val)))[i]? = some (e.key,e.val):=by rw[List.getElem?_map,Array.getElem?_toList,hie];rfl
   rw[he,List.getElem?_map,hlx]at h1;simp at h1
   exact h1.1.symm
  have hxx:((l.map (·.1)).getD i default)=k:=by simp[List.getD_eq_getElem?_getD,hlx]
  have hlen:=hseen'.len
  rw[hev];refine byG ?_;refine W_cond_true rfl ?_
  refine byG ?_;refine lEntry ?_ hem hb
  rw[hev];iterate 3 (refine byW ?_)
  refine W_seq ?_
  refine W_regionX ?_
  refine xY ?_
  refine xY ?_
  refine LX_yield (x:=k) (xs:=idx.map fun i=>((l.map (·.1)).getD i default)) (R:=.blk r (.mapIter (some bm) clock (seen.push e.born) clock)::.blk bx (.cells #[.map (some bm)] 87)::.blk bm (.map en clock)::R) hY (by simp at *;omega) ?_ ?_
  ·exact Wd.swapApp (A:=[_,_,_]) (B:=I (idx.map fun i=>((l.map (·.1)).getD i default))) (C:=R) hw
  intro w hw;refine xY ?_
  refine LX_nil ?_
  refine byG ?_;refine W_cond_false rfl ?_
  refine byG ?_;refine⟨μ-1,by simp at *;omega,seen.push e.born,idx++[i],clock,hseen',by simp at *;omega,Nat.le_refl _,⟨rfl,rfl,trivial⟩,?_⟩
  rw[List.map_append,List.map_singleton,hxx];exact Wd.swapApp (A:=I ((idx.map fun i=>((l.map (·.1)).getD i default))++[k])) (B:=[_,_,_]) (C:=R) hw
theorem Keys_any{Γ:Gho}{S:List Res}{w:World}{m:Value}(hw:Wd Γ S w) :
  Calls Tryz.prog 73 #[m] w fun e w'=>∃bx,e=.returned (.func (.func 97) #[] #[.pointer (some ⟨bx,0,none⟩)])∧Wd Γ (.blk bx (.cells m.cells 87)::S) w':=by
 refine calls_of_W Tryz.func73 rfl rfl ?_
 refine byG ?_;refine lBox ?_;intro bx w hw;refine byG ?_;exact⟨_,rfl,bx,rfl,hw⟩
theorem intRows_snoc(l:List Int)(x:Int):intRows (l++[x])=intRows l++[[.int .i64 x]]:=by unfold intRows;rw[List.map_append];rfl
theorem intRows_ln(l:List Int):(intRows l).length=l.length:=List.length_map ..
theorem AppendSeq_int{Γ:Gho}{g N:Nat}{fst cap:Array Value}{R:List Res}{V:List Int→Prop}{w:World}[FnOk Tryz.prog g](hseq:SeqC Tryz.prog Γ g fst cap N (fun x:Int=>.int .i64 x) R V)(hN:N≤1000000)(hw:Wd Γ R w) :
  Calls Tryz.prog 119 #[.slice none 0 0,.func (.func g) fst cap] w fun e w'=>∃v' xs,e=.returned v'∧V xs∧Wd Γ (.own v' 3 1 (intRows xs)::R) w':=by
 refine(callsIn_wide (n:=0)).1 (callsIn_of_wp_marks Tryz.func119 rfl trivial ?_)
 refine wpIn_seq (wpIn_WF (n:=Tryz.f119.ntmps) (ds:=[]) ?_ rfl rfl)
 rw[fnOf_entry (by rfl)]
 refine WF_region (xBox ?_)
 intro bs w hw;refine xY ?_
 refine LX_nil ?_
 rintro a0 hd0 hs0 hf0
 refine wpIn_seq (wpIn_seq (wpIn_WF (n:=Tryz.f119.ntmps) (ds:=[]) ?_ hd0 hs0))
 rw[hf0];refine WF_region (xY ?_)
 refine LX_nil ?_
 rintro a1 hd1 hs1 hf1
 refine wpIn_block (wp_rangeFunc hw (f:=g) (fst:=fst) (cap:=cap) (by rw[eval_fnOf,hf1];rfl) ?_)
 intro rc r l w hr1 hr2 hr3 hr4 hr5 hr6 hw;refine(hseq l (fun xs=>[.blk l (.loop rc),.blk r (.deferred (some [])),Res.ex fun sv:Value=>[.blk bs (.cells #[sv] 22),.own sv 3 1 (intRows xs)]]) w ?_ ?_).mono ?_
 ·rintro xs x R' w hN' hw
  have hl:=hw.at_blk (i:=0) rfl
  refine⟨_,_,_,_,run_yield hl (by rw[hr4];rfl),?_⟩
  rw[hr3,hr4,hr5,hr6];rw[oneParam];refine round_any (n:=Tryz.f119.ntmps) hr1 hr2 (by simpa using hs1) hw ?_
  rw[frParam a1 7 _ (by rw[hs1];decide),hf1]
  refine WF_region (xY ?_)
  refine LX_nil ⟨rfl,_,hw,fun w hw=>?_⟩
  obtain⟨sv,hw⟩:=(hw.pull (i:=2) rfl).openEx
  obtain⟨a,n,c,rfl,hn,hnc,hc⟩:=hw.own_shape (i:=1) rfl
  have hn:n=xs.length:=by simpa[intRows] using hn
  refine WF_block (WF_region ?_)
  refine xY (v:=.slice a n c) ?_
  refine xY ?_
  refine xBuildSlice [[.int .i64 x]] ?_
  intro a2 w hw;refine xApp (rows2:=[[.int .i64 x]]) ?_ (Wd.own_rd (i:=0) hw rfl)
  intro v' w hw;obtain⟨a3,n3,c3,rfl,-,-,-⟩:=hw.own_shape (i:=2) rfl
  refine xStore ?_
  intro w hw;refine LX_nil ⟨rfl,_,hw.pull (i:=3) rfl,fun w hw=>⟨rfl,?_⟩⟩
  have hw:=hw.dropAt 1
  have hw:=Wd.closeEx (X:=fun sv:Value=>[.blk bs (.cells #[sv] 22),.own sv 3 1 (intRows (xs++[x]))]) (.slice a3 n3 c3) (by rw[intRows_snoc];exact(hw.pull (i:=2) rfl).pull (i:=2) rfl)
  exact(hw.pull (i:=2) rfl).pull (i:=2) rfl
 ·have hw:=(Wd.addNil (a:=none) (E:=3) (sz:=1) hw).pull (i:=3) rfl
  have hw:=Wd.closeEx (X:=fun sv:Value=>[.blk bs (.cells #[sv] 22),.own sv 3 1 (intRows [])]) (.slice none 0 0) hw
  exact(hw.pull (i:=2) rfl).pull (i:=2) rfl
 ·rintro e w ⟨he,xs,hV,hw⟩
  refine⟨he,_,hw,fun w hw=>?_⟩
  show Code.wpIn _ _ _ _ _ _ _
  obtain⟨sv,hw⟩:=(hw.pull (i:=1) rfl).openEx
  obtain⟨a,n,c,rfl,hn,hnc,hc⟩:=hw.own_shape (i:=1) rfl
  refine wpIn_seq (wpIn_WF (n:=Tryz.f119.ntmps) (ds:=[{ target:=.collected r,args:=#[] }]) ?_ (by rw[hd1]) hs1)
  have hfa:fnOf ({ tmps:=a1.tmps,defers:={ target:=.collected r,args:=#[] }::a1.defers }:Act)=fnOf a1:=rfl
  rw[hfa,hf1];refine WF_region (xY (v:=.slice a n c) ?_)
  refine xY ?_
  refine LX_nil ?_
  rintro a2 hd2 hs2 hf2
  refine wpIn_ret ?_
  show LeavesInM _ _ _ _ _ _ _ _ _
  rw[hd2];have hr:=hw.at_blk (i:=2) rfl
  have hlt:r<w.heap.size:=(Array.getElem?_eq_some_iff.1 hr).1
  have hw2:=hw.set_blk (i:=2) (w':=w.putObj r (.deferred none)) rfl ⟨rfl,rfl,rfl,Nat.le_refl _,by simp⟩ (World.putObj_heap_same hlt) fun k _ hne=>World.putObj_heap_other hne
  refine⟨by simp,.inl ⟨r,_,rfl,run_takeDeferred hr,?_⟩⟩
  refine⟨.slice a n c,?_,_,xs,rfl,hV,(hw2.dropAt 0).dropAt 1⟩
  have h4:a2.tmps.getD 4 undef=.slice a n c:=by
   show fnOf a2 4=_
   rw[hf2];rfl
  rw[←h4];exact results_tmp rfl _ _ _
theorem Collect_int{Γ:Gho}{g N:Nat}{fst cap:List Value}{R:List Res}{V:List Int→Prop}{w:World}[FnOk Tryz.prog g](hseq:SeqC Tryz.prog Γ g fst.toArray cap.toArray N (fun x:Int=>.int .i64 x) R V)(hN:N≤1000000)(hw:Wd Γ R w) :
  Calls Tryz.prog 87 #[.func (.func g) fst.toArray cap.toArray] w fun e w'=>∃v' xs,e=.returned v'∧V xs∧Wd Γ (.own v' 3 1 (intRows xs)::R) w':=by
 refine calls_of_W Tryz.func87 rfl rfl ?_
 refine byG ?_;refine lCall ?_;refine(AppendSeq_int hseq hN hw).mono ?_
 rintro e w ⟨v',xs,rfl,hV,hw⟩
 refine⟨_,rfl,?_⟩;refine byG ?_;exact⟨_,rfl,_,xs,rfl,hV,hw⟩
theorem Sorted_int{Γ:Gho}{g N:Nat}{fst cap:List Value}{R:List Res}{V:List Int→Prop}{w:World}[FnOk Tryz.prog g](hseq:SeqC Tryz.prog Γ g fst.toArray cap.toArray N (fun x:Int=>.int .i64 x) R V)(hN:N≤1000000)(hV1:∀xs,V xs→xs.length≤1000000)(hw:Wd Γ R w) :
  Calls Tryz.prog 54 #[.func (.func g) fst.toArray cap.toArray] w fun e w'=>∃v' xs,e=.returned v'∧V xs∧Wd Γ (.own v' 3 1 (intRows (sortZ xs))::R) w':=by
 refine calls_of_W Tryz.func54 rfl rfl ?_
 refine byG ?_;refine lCall ?_;refine(Collect_int hseq hN hw).mono ?_
 rintro e w ⟨v',xs,rfl,hV,hw⟩
 refine⟨_,rfl,?_⟩;have hl:=hV1 xs hV
 refine byG ?_;refine lCall ((Sort_int lay_sorti xs v' (i:=0) hw rfl (by omega)).mono fun e w hq=>?_)
 clear hw;obtain⟨rfl,hw⟩:=hq;refine⟨_,rfl,?_⟩;have hw:Wd Γ (.own v' 3 1 (intRows (sortZ xs))::R) w:=hw
 refine byG ?_;exact⟨_,rfl,_,xs,rfl,hV,hw⟩
theorem Values1_int{Γ:Gho}{bx:Nat}{R:List Res}{v:Value}{xs:List Int}(hr:RepS Γ v 1 (intRows xs)) :
  SeqC Tryz.prog Γ 88 #[] #[.pointer (some ⟨bx,0,none⟩)] xs.length (fun x:Int=>.int .i64 x) (.blk bx (.cells #[v] 22)::R) (fun ys=>ys=xs):=by
 intro yl I w hY hw;obtain⟨a,n,c,rfl,hn,hnc,hc⟩:=hr.shape;have hn:n=xs.length:=by simpa[intRows] using hn
 refine calls_of_W Tryz.func88 rfl rfl ?_
 have hw:Wd Γ (.blk bx (.cells #[.slice a n c] 22)::(I []++R)) w:=hw.perm (List.perm_middle (l₁:=I []))
 refine byG ?_;refine W_loop (fun μ ρ w=>∃(k:Nat),μ+k=n∧Has ρ [(0,.func (.yield yl) #[] #[]),(5,.slice a n c),(6,.int .i64 n),(7,.int .i64 k)]∧Wd Γ (.blk bx (.cells #[.slice a n c] 22)::(I (xs.take k)++R)) w) n ⟨0,by omega,⟨rfl,rfl,rfl,rfl,trivial⟩,hw⟩ ?_
 clear hw;rintro μ ρ w ⟨k,hμ,hρ,hw⟩
 rw[hρ.eq];clear hρ;refine byG ?_;refine W_cond rfl (fun h=>?_) (fun h=>?_)
 ·have hk:k<n:=by have:=of_decide_eq_true h;omega
  clear h;obtain⟨x,hx⟩:=get_lt (l:=xs) (k:=k) (by omega)
  have hx2:(intRows xs)[k]? = some [.int .i64 x]:=by unfold intRows;rw[List.getElem?_map,hx];rfl
  iterate 10 (refine byW ?_)
  refine W_regionX ?_
  refine xY ?_
  refine xY ?_
  refine LX_yield (x:=x) (xs:=xs.take k) (R:=.blk bx (.cells #[.slice a n c] 22)::R) hY (by rw[List.length_take];omega) ?_ ?_
  ·exact Wd.swapApp (A:=[_]) (B:=I (xs.take k)) (C:=R) hw
  intro w hw;refine xY ?_
  refine LX_nil ?_
  refine byG ?_;refine W_cond_false rfl ?_
  refine byG ?_;refine⟨μ-1,by omega,k+1,by omega,⟨rfl,rfl,rfl,rfl,trivial⟩,?_⟩
  rw[take_succ_of hx];exact Wd.swapApp (A:=I (xs.take k++[x])) (B:=[_]) (C:=R) hw
 ·have hk:n≤k:=by have:=of_decide_eq_false h;omega
  rw[List.take_of_length_le (by omega)]at hw
  refine byG ?_;exact⟨_,rfl,⟨_,rfl⟩,xs,rfl,hw.perm (List.perm_middle (l₁:=I xs)).symm⟩
theorem Values_int{Γ:Gho}{S:List Res}{w:World}{m:Value}(hw:Wd Γ S w) :
  Calls Tryz.prog 55 #[m] w fun e w'=>∃bx,e=.returned (.func (.func 88) #[] #[.pointer (some ⟨bx,0,none⟩)])∧Wd Γ (.blk bx (.cells m.cells 22)::S) w':=by
 refine calls_of_W Tryz.func55 rfl rfl ?_
 refine byG ?_;refine lBox ?_;intro bx w hw;refine byG ?_;exact⟨_,rfl,bx,rfl,hw⟩
def ptrV(b:Nat):Value:=.pointer (some ⟨b,0,none⟩)
abbrev hoC(u0 u1 u2 u3 u4 u5:Value)(cap:Int)(vl:Value)(bm:Nat):Obj:=.cells #[u0,u1,u2,u3,u4,u5,.int .i64 cap,vl,.map (some bm)] 89
abbrev linM(bm:Nat)(ml:List (Int×Nat)):Res:=Res.mpT Tryz.prog 3 ptrV bm ml
abbrev LnT:=Nat×IntrT
abbrev lnC(p:LnT):Res:=.blk p.1 (.cells (enc p.2).toArray 92)
def lnR(pl:List LnT):List Res:=pl.map lnC
def kM(pl:List LnT):List (Int×Nat):=pl.map fun p=>(p.2.IRQ,p.1)
def lsO(pl:List LnT):List IntrT:=pl.map (·.2)
def mapP(F:IntrT→IntrT)(pl:List LnT):List LnT:=pl.map fun p=>(p.1,F p.2)
def setP(pl:List LnT)(irq:Int)(f:IntrT→IntrT):List LnT:=mapP (fun x=>if x.IRQ=irq then f x else x) pl
theorem lsO_mapP(F:IntrT→IntrT)(pl:List LnT):lsO (mapP F pl)=(lsO pl).map F:=by unfold lsO mapP;rw[List.map_map,List.map_map];rfl
theorem lsO_setP(pl:List LnT)(irq:Int)(f:IntrT→IntrT):lsO (setP pl irq f)=setI (lsO pl) irq f:=lsO_mapP _ _
theorem lsO_dlv(pl:List LnT):lsO (mapP dlvX pl)=dlvL (lsO pl):=lsO_mapP _ _
theorem kM_mapP{F:IntrT→IntrT}(hF:∀x,(F x).IRQ=x.IRQ)(pl:List LnT):kM (mapP F pl)=kM pl:=by
 unfold kM mapP;rw[List.map_map];exact List.map_congr_left fun p _=>by simp[hF]
theorem kM_setP{f:IntrT→IntrT}(hF:∀x,(f x).IRQ=x.IRQ)(pl:List LnT)(irq:Int):kM (setP pl irq f)=kM pl:=kM_mapP (F:=fun x=>if x.IRQ=irq then f x else x) (fun x=>by
 by_cases e:x.IRQ=irq
 ·simp only[e,if_true];rw[hF,e]
 ·simp only[e,if_false]) pl
theorem mapP_app(F:IntrT→IntrT)(a b:List LnT):mapP F (a++b)=mapP F a++mapP F b:=List.map_append
structure HoOk(ml:List (Int×Nat))(pl:List LnT):Prop where
 perm:ml.Perm (kM pl)
 asc:(kM pl).Pairwise fun a b=>a.1<b.1
theorem HoOk.of{ml:List (Int×Nat)}{pl pl':List LnT}(h:HoOk ml pl)(e:kM pl'=kM pl):HoOk ml pl':=⟨by rw[e];exact h.perm,by rw[e];exact h.asc⟩
theorem HoOk.ascI{ml:List (Int×Nat)}{pl:List LnT}(h:HoOk ml pl):AscI (lsO pl):=by
 have:=h.asc
 unfold kM at this;unfold AscI lsO;rw[List.pairwise_map]at this ⊢
 exact this
theorem HoOk.nodup{ml:List (Int×Nat)}{pl:List LnT}(h:HoOk ml pl):(ml.map (·.1)).Nodup:=by
 refine((h.perm.map _).nodup_iff).2 ?_
 have h2:((kM pl).map (·.1)).Pairwise (· < ·):=by rw[List.pairwise_map];exact h.asc
 exact h2.imp fun {a b} h=>by omega
theorem HoOk.len{ml:List (Int×Nat)}{pl:List LnT}(h:HoOk ml pl):ml.length=pl.length:=by
 rw[h.perm.length_eq];unfold kM;rw[List.length_map]
theorem HoOk.keys{ml:List (Int×Nat)}{pl:List LnT}(h:HoOk ml pl):(lsO pl).map (·.IRQ)=sortZ (ml.map (·.1)):=by
 have h1:(lsO pl).map (·.IRQ)=(kM pl).map (·.1):=by unfold lsO kM;rw[List.map_map,List.map_map];rfl
 rw[h1];refine(sortZ_eq ?_ (h.perm.map _).symm).symm
 rw[List.pairwise_map];exact h.asc
theorem aGet_of_mem{l:List (Int×Nat)}(hn:(l.map (·.1)).Nodup){a:Int}{b:Nat}(h:(a,b)∈l):aGet l a=some b:=by
 cases hg:aGet l a with
 | none=>exact absurd (List.mem_map_of_mem (f:=(·.1)) h) (aGet_none'.1 hg)
 | some b'=>
  have hp:=aGet_perm hn hg
  have h1:=(hp.mem_iff).1 h
  rcases List.mem_cons.1 h1 with h2|h2
  ·cases h2;rfl
  ·have:=(List.mem_filter.1 h2).2;simp at this
theorem HoOk.at{ml:List (Int×Nat)}{pl:List LnT}(h:HoOk ml pl){k b:Nat}{x:IntrT}(hx:pl[k]? = some (b,x)):aGet ml x.IRQ=some b:=by
 refine aGet_of_mem h.nodup ((h.perm.mem_iff).2 ?_)
 exact List.mem_map.2 ⟨(b,x),List.mem_of_getElem? hx,rfl⟩
theorem HoOk.get{ml:List (Int×Nat)}{pl:List LnT}(h:HoOk ml pl)(irq:Int):(∃(k b:Nat) (x:IntrT),pl[k]? = some (b,x)∧x.IRQ=irq∧getI (lsO pl) irq=some x∧aGet ml irq=some b∧∀f,setP pl irq f=pl.take k++(b,f x)::pl.drop (k+1))∨(getI (lsO pl) irq=none∧aGet ml irq=none):=by
 cases hg:getI (lsO pl) irq with
 | none=>
  refine .inr ⟨rfl,aGet_none'.2 fun hm=>?_⟩
  obtain⟨⟨a,b⟩,h1,rfl⟩:=List.mem_map.1 hm
  obtain⟨p,h2,h3⟩:=List.mem_map.1 ((h.perm.mem_iff).1 h1)
  refine getI_none hg p.2 (List.mem_map_of_mem h2) ?_
  exact congrArg Prod.fst h3
 | some x=>
  obtain⟨k,h1,rfl⟩:=getI_some hg
  have h2:(pl.map (·.2))[k]? = some x:=h1
  rw[List.getElem?_map]at h2;cases hp:pl[k]? with
  | none=>rw[hp]at h2;cases h2
  | some p=>
   rw[hp]at h2;obtain⟨b,y⟩:=p;obtain rfl:y=x:=Option.some.inj h2
   refine .inl ⟨k,b,y,hp,rfl,rfl,h.at hp,fun f=>?_⟩
   have hk:=(List.getElem?_eq_some_iff.1 hp).1
   have hset:pl.take k++(b,f y)::pl.drop (k+1)=pl.set k (b,f y):=by
    rw[List.set_eq_take_append_cons_drop,if_pos hk]
   rw[hset];refine List.ext_getElem? fun i=>?_
   unfold setP mapP;rw[List.getElem?_map,List.getElem?_set];cases hi:pl[i]? with
   | none=>
    have:pl.length≤i:=by simpa using hi
    rw[if_neg (by omega)];rfl
   | some z=>
    simp only[Option.map_some]
    have hz:(lsO pl)[i]? = some z.2:=by unfold lsO;rw[List.getElem?_map,hi];rfl
    by_cases e:k=i
    ·subst e;obtain rfl:(b,y)=z:=by rw[hp]at hi;exact Option.some.inj hi
     rw[if_pos rfl,if_pos hk,if_pos rfl]
    ·rw[if_neg e,if_neg fun e2=>e (asc_get h.ascI hz h1 e2).symm]
theorem HoOk.set{ml:List (Int×Nat)}{pl:List LnT}(h:HoOk ml pl)(irq:Int){f:IntrT→IntrT}(hf:∀x,(f x).IRQ=x.IRQ):HoOk ml (setP pl irq f):=h.of (kM_setP hf pl irq)
theorem HoOk.dlv{ml:List (Int×Nat)}{pl:List LnT}(h:HoOk ml pl):HoOk ml (mapP dlvX pl):=h.of (kM_mapP dlvX_irq pl)
theorem ln_open{Γ:Gho}{w:World}{S:List Res}(R:List Res){A B:List LnT}{p:LnT}(h:Wd Γ (R++(lnR (A++p::B)++S)) w):Wd Γ (lnC p::(R++(lnR (A++B)++S))) w:=by
 refine h.perm ?_
 have h1:(lnR (A++p::B)).Perm (lnC p::lnR (A++B)):=by unfold lnR;exact(List.perm_middle.map lnC)
 exact((h1.append_right S).append_left R).trans List.perm_middle
theorem ln_close{Γ:Gho}{w:World}{S:List Res}(R:List Res){A B:List LnT}{p:LnT}(h:Wd Γ (lnC p::(R++(lnR (A++B)++S))) w):Wd Γ (R++(lnR (A++p::B)++S)) w:=by
 refine h.perm ?_
 have h1:(lnR (A++p::B)).Perm (lnC p::lnR (A++B)):=by unfold lnR;exact(List.perm_middle.map lnC)
 exact(((h1.append_right S).append_left R).trans List.perm_middle).symm
theorem pl_split{pl:List LnT}{k:Nat}{p:LnT}(h:pl[k]? = some p):pl=pl.take k++p::pl.drop (k+1):=by
 obtain⟨hk,rfl⟩:=List.getElem?_eq_some_iff.1 h
 rw[←List.drop_eq_getElem_cons hk,List.take_append_drop]
section
variable {Γ:Gho}{S:List Res}{w:World}{b bm:Nat}{u0 u1 u2 u3 u4 u5 vl:Value}{cap:Int}{ml:List (Int×Nat)}{pl:List LnT}
theorem irqs_any(hO:HoOk ml pl)(hN:pl.length≤1000)(hw:Wd Γ (.blk b (hoC u0 u1 u2 u3 u4 u5 cap vl bm)::linM bm ml::(lnR pl++S)) w) :
  Calls Tryz.prog 42 #[.pointer (some ⟨b,0,none⟩)] w fun e w'=>∃v,e=.returned v∧Wd Γ (.own v 3 1 (intRows ((lsO pl).map (·.IRQ)))::.blk b (hoC u0 u1 u2 u3 u4 u5 cap vl bm)::linM bm ml::(lnR pl++S)) w':=by
 refine calls_of_W Tryz.func42 rfl rfl ?_
 refine byG ?_;refine lCall ((Keys_any hw).mono fun e w hq=>?_)
 clear hw;obtain⟨bx,rfl,hw⟩:=hq;refine⟨_,rfl,?_⟩;refine byG ?_;have hw:=hw.ps [2]
 obtain⟨en,clock,hw,he,hb,hc⟩:=Wd.openMp hw
 have hml:=hO.len
 have hw:=hw.ps [1]
 refine lCall ((Sorted_int (cap:=[.pointer (some ⟨bx,0,none⟩)]) (fst:=[]) (Keys1_any he hb hc) (by omega) (fun xs h=>by rw[h.length_eq,List.length_map];omega) hw).mono fun e w hq=>?_)
 clear hw;obtain⟨v,xs,rfl,hxs,hw⟩:=hq;refine⟨_,rfl,?_⟩;rw[sortZ_uniq hxs,←hO.keys]at hw;have hw:=Wd.closeMp (hw.ps [2]) he hb hc
 refine byG ?_;exact⟨_,rfl,v,rfl,(hw.ps [3,2]).ds [3]⟩
theorem deliverable_any{x:IntrT}(hw:Wd Γ (lnC (b,x)::S) w) :
  Calls Tryz.prog 89 #[.pointer (some ⟨b,0,none⟩)] w fun e w'=>e=.returned (.bool (dlv x))∧Wd Γ (lnC (b,x)::S) w':=by
 refine calls_of_W Tryz.func89 rfl rfl ?_
 refine byG ?_;exact⟨_,rfl,ret_b rfl (by unfold dlv;simp),hw⟩
theorem lnR_step{i:Nat}{bk:Nat}{x:IntrT}(hx:pl[i]? = some (bk,x)):mapP dlvX (pl.take i)++(bk,dlvX x)::pl.drop (i+1)=mapP dlvX (pl.take (i+1))++pl.drop (i+1):=by
 rw[take_succ_of hx,mapP_app,List.append_assoc];rfl
theorem deliver_any(hO:HoOk ml pl)(hN:pl.length≤1000)(hw:Wd Γ (.blk b (hoC u0 u1 u2 u3 u4 u5 cap vl bm)::linM bm ml::(lnR pl++S)) w) :
  Calls Tryz.prog 56 #[.pointer (some ⟨b,0,none⟩)] w fun e w'=>∃v,e=.returned v∧Wd Γ (.own v 62 3 ((ntsL (lsO pl)).map enc)::.blk b (hoC u0 u1 u2 u3 u4 u5 cap vl bm)::linM bm ml::(lnR (mapP dlvX pl)++S)) w':=by
 refine calls_of_W Tryz.func56 rfl rfl ?_
 refine byG ?_;refine lCall ((irqs_any hO hN hw).mono fun e w hq=>?_)
 clear hw;obtain⟨v,rfl,hw⟩:=hq;refine⟨_,rfl,?_⟩;obtain⟨ai,ni,ci,rfl,hni,hnci,-⟩:=hw.own_shape (i:=0) rfl
 have hni:ni=pl.length:=by simpa[intRows,lsO] using hni
 refine byG ?_;have hw:=Wd.addNil (a:=none) (E:=62) (sz:=3) hw
 have hw:Wd Γ (.own (.slice none 0 0) 62 3 ((ntsL ((lsO pl).take 0)).map enc)::.own (.slice ai ni ci) 3 1 (intRows ((lsO pl).map (·.IRQ)))::.blk b (hoC u0 u1 u2 u3 u4 u5 cap vl bm)::linM bm ml::(lnR (mapP dlvX (pl.take 0)++pl.drop 0)++S)) w:=hw
 refine W_loop (fun μ ρ w=>∃(i:Nat) (q:Option Addr) (m d:Nat),μ+i=ni∧Has ρ [(0,.pointer (some ⟨b,0,none⟩)),(3,.slice q m d),(8,.slice ai ni ci),(9,.int .i64 ni),(10,.int .i64 i)]∧Wd Γ (.own (.slice q m d) 62 3 ((ntsL ((lsO pl).take i)).map enc)::.own (.slice ai ni ci) 3 1 (intRows ((lsO pl).map (·.IRQ)))::.blk b (hoC u0 u1 u2 u3 u4 u5 cap vl bm)::linM bm ml::(lnR (mapP dlvX (pl.take i)++pl.drop i)++S)) w) ni ⟨0,none,0,0,by omega,⟨rfl,rfl,rfl,rfl,rfl,trivial⟩,hw⟩ ?_
 clear hw;rintro μ ρ w ⟨i,q,m,d,hμ,hρ,hw⟩
 rw[hρ.eq];clear hρ;refine byG ?_;refine W_cond rfl (fun h=>?_) (fun h=>?_)
 ·have hi:i<ni:=by have:=of_decide_eq_true h;omega
  clear h;obtain⟨⟨bk,x⟩,hx⟩:=get_lt (l:=pl) (k:=i) (by omega)
  have hxl:(lsO pl)[i]? = some x:=by unfold lsO;rw[List.getElem?_map,hx];rfl
  have hxr:((lsO pl).map (·.IRQ))[i]? = some x.IRQ:=by rw[List.getElem?_map,hxl];rfl
  have hlen:(ntsL ((lsO pl).take i)).length≤1000:=by
   unfold ntsL;rw[List.length_map];refine Nat.le_trans (List.length_filter_le _ _) ?_
   rw[List.length_take];omega
  rw[drop_at hx]at hw;have hw:=ln_open (R:=[_,_,_,_]) hw
  have hw:Wd Γ (lnC (bk,x)::.own (.slice q m d) 62 3 ((ntsL ((lsO pl).take i)).map enc)::.own (.slice ai ni ci) 3 1 (intRows ((lsO pl).map (·.IRQ)))::.blk b (hoC u0 u1 u2 u3 u4 u5 cap vl bm)::linM bm ml::(lnR (mapP dlvX (pl.take i)++pl.drop (i+1))++S)) w:=hw
  refine byG ?_;refine lY (v:=.pointer (some ⟨bk,0,none⟩)) ?_ (hy:=y_lookup_some (f:=ptrV) hw rfl rfl (i:=4) rfl (hO.at hx) false)
  refine byG ?_;refine lCall ((deliverable_any hw).mono fun e w hq=>?_)
  clear hw;obtain⟨rfl,hw⟩:=hq;refine⟨_,rfl,?_⟩;refine byG ?_;refine W_cond rfl (fun h=>?_) (fun h=>?_)
  ·have hdx:dlvX x=⟨x.IRQ,x.Core,x.Driver,x.Core,x.Masked,false⟩:=by unfold dlvX;rw[if_pos h]
   have hsn:(ntsL ((lsO pl).take i)).map enc++[enc (ntOf x)]=(ntsL ((lsO pl).take (i+1))).map enc:=by
    rw[ntsL_step hxl,if_pos h,List.map_append];rfl
   refine byG ?_;refine lStore ?_;intro w hw;refine byG ?_;refine lStore ?_;intro w hw;have hw:Wd Γ ([lnC (bk,⟨x.IRQ,x.Core,x.Driver,x.Core,x.Masked,false⟩)]++(.own (.slice q m d) 62 3 ((ntsL ((lsO pl).take i)).map enc)::.own (.slice ai ni ci) 3 1 (intRows ((lsO pl).map (·.IRQ)))::.blk b (hoC u0 u1 u2 u3 u4 u5 cap vl bm)::linM bm ml::(lnR (mapP dlvX (pl.take i)++pl.drop (i+1))++S))) w:=hw
   refine byG ?_;refine W_mixQ [lnC (bk,⟨x.IRQ,x.Core,x.Driver,x.Core,x.Masked,false⟩)] (.own (.slice q m d) 62 3 ((ntsL ((lsO pl).take i)).map enc)::.own (.slice ai ni ci) 3 1 (intRows ((lsO pl).map (·.IRQ)))::.blk b (hoC u0 u1 u2 u3 u4 u5 cap vl bm)::linM bm ml::(lnR (mapP dlvX (pl.take i)++pl.drop (i+1))++S)) [45,46] 3 (.slice q m d) [[],[],[],[],[],[],[],[],[],[],[],[],[0],[0],[0,1]] [[1],[],[],[],[],[],[],[],[],[],[],[],[0],[0],[0,1]] hw ?_
   refine mMoveR (dd:=3) ?_
   refine byM ?_;refine mY (v:=.agg (enc (ntOf x)).toArray) ?_ (hy:=fun Y w g hw=>y_build rfl)
   refine mStepY (φ:=fun (_:Unit) _=>True) (R:=fun _=>.own (.slice q m d) 62 3 ((ntsL ((lsO pl).take i)).map enc)::.own (.slice ai ni ci) 3 1 (intRows ((lsO pl).map (·.IRQ)))::.blk b (hoC u0 u1 u2 u3 u4 u5 cap vl bm)::linM bm ml::(lnR (mapP dlvX (pl.take i)++pl.drop (i+1))++S)) (v:=undef) (T':=Value) (fun t g=>g 45=t) (fun t=>.own t 62 3 [enc (ntOf x)]::.own (.slice q m d) 62 3 ((ntsL ((lsO pl).take i)).map enc)::.own (.slice ai ni ci) 3 1 (intRows ((lsO pl).map (·.IRQ)))::.blk b (hoC u0 u1 u2 u3 u4 u5 cap vl bm)::linM bm ml::(lnR (mapP dlvX (pl.take i)++pl.drop (i+1))++S)) (fun t g w Y ht hw=>s_buildSlice (rws:=[enc (ntOf x)]) hw rfl rfl rfl (fun r hm=>by simp at hm;subst hm;rfl) (by decide) fun a w' hw'=>⟨_,rfl,(fun h=>by cases h),hw'⟩) ?_
   refine mStepY (φ:=fun (t:Value) g=>g 45=t) (R:=(fun t=>.own t 62 3 [enc (ntOf x)]::.own (.slice q m d) 62 3 ((ntsL ((lsO pl).take i)).map enc)::.own (.slice ai ni ci) 3 1 (intRows ((lsO pl).map (·.IRQ)))::.blk b (hoC u0 u1 u2 u3 u4 u5 cap vl bm)::linM bm ml::(lnR (mapP dlvX (pl.take i)++pl.drop (i+1))++S))) (v:=undef) (T':=Value) (fun t g=>g 46=t) (fun t=>.own t 62 3 ((ntsL ((lsO pl).take i)).map enc++[enc (ntOf x)])::.own (.slice ai ni ci) 3 1 (intRows ((lsO pl).map (·.IRQ)))::.blk b (hoC u0 u1 u2 u3 u4 u5 cap vl bm)::linM bm ml::(lnR (mapP dlvX (pl.take i)++pl.drop (i+1))++S)) (fun t g w Y ht hw=>?_) ?_
   ·obtain⟨d1,e1,z1,rfl,hn1,-,-⟩:=hw.own_shape (i:=0) rfl
    obtain⟨d2,e2,z2,hq2,hn2,-,-⟩:=hw.own_shape (i:=1) rfl
    cases hq2
    exact s_append (i:=1) (rows2:=[enc (ntOf x)]) hw rfl ht rfl (Wd.own_rd (i:=0) hw rfl) hn1 (List.all_eq_true.1 rfl) (by simp at hn1 hn2 hlen;omega) (by simp at hn1 hn2 hlen;omega) fun v' w' hw'=>⟨v',rfl,(fun h=>by cases h),hw'.drop⟩
   refine mAssY (φ:=fun (t:Value) g=>g 46=t) (dx:=46) (dd:=3) (fun t g=>g 3=t) (fun t g ht=>ht) ?_
   refine mEndQ (φ:=fun (t:Value) g=>g 3=t) fun t w g ht hw=>?_
   rw[hsn]at hw;obtain⟨q',m',d',rfl,hm',-,-⟩:=hw.own_shape (i:=0) rfl
   rw[←hdx]at hw;have hw:Wd Γ (.own (.slice q' m' d') 62 3 ((ntsL ((lsO pl).take (i+1))).map enc)::.own (.slice ai ni ci) 3 1 (intRows ((lsO pl).map (·.IRQ)))::.blk b (hoC u0 u1 u2 u3 u4 u5 cap vl bm)::linM bm ml::(lnR (mapP dlvX (pl.take i)++pl.drop (i+1))++S++[lnC (bk,dlvX x)])) w:=by simpa using hw
   have hw:Wd Γ (lnC (bk,dlvX x)::([.own (.slice q' m' d') 62 3 ((ntsL ((lsO pl).take (i+1))).map enc),.own (.slice ai ni ci) 3 1 (intRows ((lsO pl).map (·.IRQ))),.blk b (hoC u0 u1 u2 u3 u4 u5 cap vl bm),linM bm ml]++(lnR (mapP dlvX (pl.take i)++pl.drop (i+1))++S))) w:=hw.perm ((List.perm_append_comm (l₁:=.own (.slice q' m' d') 62 3 ((ntsL ((lsO pl).take (i+1))).map enc)::.own (.slice ai ni ci) 3 1 (intRows ((lsO pl).map (·.IRQ)))::.blk b (hoC u0 u1 u2 u3 u4 u5 cap vl bm)::linM bm ml::(lnR (mapP dlvX (pl.take i)++pl.drop (i+1))++S)) (l₂:=[lnC (bk,dlvX x)])))
   have hw:=ln_close (R:=[_,_,_,_]) hw
   rw[lnR_step hx]at hw;refine W_has (l:=[(0,.pointer (some ⟨b,0,none⟩)),(3,.slice q' m' d'),(8,.slice ai ni ci),(9,.int .i64 ni),(10,.int .i64 i)]) ⟨rfl,ht,rfl,rfl,rfl,trivial⟩ fun ρ hρ=>?_
   rw[hρ.eq];refine byG ?_;exact⟨μ-1,by omega,i+1,q',m',d',by omega,⟨rfl,rfl,rfl,rfl,rfl,trivial⟩,hw⟩
  ·have hdx:dlvX x=x:=dlvX_no h
   have hsn:ntsL ((lsO pl).take i)=ntsL ((lsO pl).take (i+1)):=by
    rw[ntsL_step hxl,if_neg (by rw[h];decide),List.append_nil]
   rw[hsn]at hw;have hw:Wd Γ (lnC (bk,dlvX x)::([.own (.slice q m d) 62 3 ((ntsL ((lsO pl).take (i+1))).map enc),.own (.slice ai ni ci) 3 1 (intRows ((lsO pl).map (·.IRQ))),.blk b (hoC u0 u1 u2 u3 u4 u5 cap vl bm),linM bm ml]++(lnR (mapP dlvX (pl.take i)++pl.drop (i+1))++S))) w:=by rw[hdx];exact hw
   have hw:=ln_close (R:=[_,_,_,_]) hw
   rw[lnR_step hx]at hw;refine byG ?_;exact⟨μ-1,by omega,i+1,q,m,d,by omega,⟨rfl,rfl,rfl,rfl,rfl,trivial⟩,hw⟩
 have hi:ni≤i:=by have:=of_decide_eq_false h;omega
 have hlo:(lsO pl).length=pl.length:=by unfold lsO;rw[List.length_map]
 rw[List.take_of_length_le (by omega),List.take_of_length_le (by omega),List.drop_of_length_le (by omega),List.append_nil]at hw
 refine byG ?_;exact⟨_,rfl,_,rfl,hw.ds [1]⟩
end
set_option maxHeartbeats 64000000
abbrev rfC(u0 u1 u2 u3 u4 u5 vl:Value)(cap:Int)(q:Option Addr)(m d:Nat):Obj:=.cells #[u0,u1,u2,u3,u4,u5,vl,.int .i64 cap,.slice q m d] 107
def elP(q:Option Addr)(k:Nat):Value:=.pointer (some ⟨aB q,aO q+k*6,none⟩)
def RgI(ls:List IntrT):Prop:=∀x∈ls,-1≤x.Driver∧-1≤x.Serving
section
variable {Γ:Gho}{S:List Res}{w:World}{r:Nat}{u0 u1 u2 u3 u4 u5 vl:Value}{cap:Int}{q:Option Addr}{m d:Nat}{ls:List IntrT}
theorem getI_first{k:Nat}{x:IntrT}(hx:ls[k]? = some x)(hno:∀i y,i<k→ls[i]? = some y→decide (y.IRQ=x.IRQ)=false):getI ls x.IRQ=some x:=by
 unfold getI;obtain⟨hk,rfl⟩:=List.getElem?_eq_some_iff.1 hx
 rw[List.find?_eq_some_iff_getElem];refine⟨by simp,k,hk,rfl,fun j hj=>?_⟩
 rw[hno j _ hj (List.getElem?_eq_getElem (by omega))];rfl
theorem at_any(hN:ls.length≤1000)(irq:Int)(hw:Wd Γ (.blk r (rfC u0 u1 u2 u3 u4 u5 vl cap q m d)::.own (.slice q m d) 46 6 (ls.map enc)::S) w) :
  Calls Tryz.prog 60 #[.pointer (some ⟨r,0,none⟩),.int .i64 irq] w fun e w'=>((∃(k:Nat) (x:IntrT),ls[k]? = some x∧x.IRQ=irq∧getI ls irq=some x∧e=.returned (elP q k))∨(getI ls irq=none∧e=.returned (.pointer none)))∧Wd Γ (.blk r (rfC u0 u1 u2 u3 u4 u5 vl cap q m d)::.own (.slice q m d) 46 6 (ls.map enc)::S) w':=by
 have hm:=own_len (i:=1) hw rfl
 simp only[List.length_map]at hm
 refine calls_of_W Tryz.func60 rfl rfl ?_
 refine byG ?_;refine W_loop (fun μ ρ w=>∃(k:Nat),μ+k=m∧(∀i y,i<k→ls[i]? = some y→decide (y.IRQ=irq)=false)∧Has ρ [(0,.pointer (some ⟨r,0,none⟩)),(1,.int .i64 irq),(5,.int .i64 k)]∧Wd Γ (.blk r (rfC u0 u1 u2 u3 u4 u5 vl cap q m d)::.own (.slice q m d) 46 6 (ls.map enc)::S) w) m ⟨0,by omega,fun i y h=>absurd h (Nat.not_lt_zero i),⟨rfl,rfl,rfl,trivial⟩,hw⟩ ?_
 clear hw;rintro μ ρ w ⟨k,hμ,hno,hρ,hw⟩
 rw[hρ.eq];clear hρ;refine byG ?_;refine W_cond rfl (fun h=>?_) (fun h=>?_)
 ·have hk:k<m:=by have:=of_decide_eq_true h;omega
  clear h;obtain⟨x,hx⟩:=get_lt (l:=ls) (k:=k) (by omega)
  refine byG ?_;refine W_cond rfl (fun h=>?_) (fun h=>?_)
  ·have h:x.IRQ=irq:=of_decide_eq_true h
   subst h;refine byG ?_;exact⟨_,rfl,.inl ⟨k,x,hx,rfl,getI_first hx hno,rfl⟩,hw⟩
  ·refine byG ?_;refine⟨μ-1,by omega,k+1,by omega,fun i y hi hy=>?_,⟨rfl,rfl,rfl,trivial⟩,hw⟩
   by_cases e:i=k
   ·subst e;obtain rfl:x=y:=by rw[hx]at hy;exact Option.some.inj hy
    exact h
   ·exact hno i y (by omega) hy
 ·have hk:m≤k:=by have:=of_decide_eq_false h;omega
  have hg:getI ls irq=none:=by
   unfold getI;rw[List.find?_eq_none];intro y hy;obtain⟨i,hi⟩:=List.getElem?_of_mem hy
   have:=(List.getElem?_eq_some_iff.1 hi).1
   rw[hno i y (by omega) hi];decide
  refine byG ?_;exact⟨_,rfl,.inr ⟨hg,rfl⟩,hw⟩
theorem dlv_ref{x:IntrT}(h:-1≤x.Driver∧-1≤x.Serving):(x.Pending&&decide (x.Driver≥0) && !x.Masked&&decide (x.Serving<0))=dlv x:=by
 unfold dlv;congr 1
 ·congr 1
  congr 1
  by_cases e:x.Driver = -1
  ·rw[decide_eq_true e,decide_eq_false (by omega)];rfl
  ·rw[decide_eq_false e,decide_eq_true (by omega)];rfl
 ·by_cases e:x.Serving = -1
  ·rw[decide_eq_true e,decide_eq_true (by omega)]
  ·rw[decide_eq_false e,decide_eq_false (by omega)]
theorem dls_step{i:Nat}{x:IntrT}(hx:ls[i]? = some x):(dlvL (ls.take i)++ls.drop i).set i (dlvX x)=dlvL (ls.take (i+1))++ls.drop (i+1):=by
 have hi:=(List.getElem?_eq_some_iff.1 hx).1
 have hl:(dlvL (ls.take i)).length=i:=by unfold dlvL;rw[List.length_map,List.length_take];omega
 rw[List.set_append_right _ _ (by omega),hl,Nat.sub_self,drop_at hx,List.set_cons_zero,take_succ_of hx]
 unfold dlvL;rw[List.map_append,List.append_assoc];rfl
theorem dls_at{i:Nat}{x:IntrT}(hx:ls[i]? = some x):(dlvL (ls.take i)++ls.drop i)[i]? = some x:=by
 have hi:=(List.getElem?_eq_some_iff.1 hx).1
 have hl:(dlvL (ls.take i)).length=i:=by unfold dlvL;rw[List.length_map,List.length_take];omega
 rw[List.getElem?_append_right (by omega),hl,Nat.sub_self,List.getElem?_drop]
 simpa using hx
theorem rdeliver_any(hR:RgI ls)(hN:ls.length≤1000)(hw:Wd Γ (.blk r (rfC u0 u1 u2 u3 u4 u5 vl cap q m d)::.own (.slice q m d) 46 6 (ls.map enc)::S) w) :
  Calls Tryz.prog 61 #[.pointer (some ⟨r,0,none⟩)] w fun e w'=>∃v,e=.returned v∧Wd Γ (.own v 62 3 ((ntsL ls).map enc)::.blk r (rfC u0 u1 u2 u3 u4 u5 vl cap q m d)::.own (.slice q m d) 46 6 ((dlvL ls).map enc)::S) w':=by
 have hm:=own_len (i:=1) hw rfl
 simp only[List.length_map]at hm
 refine calls_of_W Tryz.func61 rfl rfl ?_
 refine byG ?_;have hw:=Wd.addNil (a:=none) (E:=62) (sz:=3) hw
 have hw:Wd Γ (.own (.slice none 0 0) 62 3 ((ntsL (ls.take 0)).map enc)::.blk r (rfC u0 u1 u2 u3 u4 u5 vl cap q m d)::.own (.slice q m d) 46 6 ((dlvL (ls.take 0)++ls.drop 0).map enc)::S) w:=hw
 refine W_loop (fun μ ρ w=>∃(i:Nat) (q2:Option Addr) (m2 d2:Nat),μ+i=m∧Has ρ [(0,.pointer (some ⟨r,0,none⟩)),(3,.slice q2 m2 d2),(4,.int .i64 i)]∧Wd Γ (.own (.slice q2 m2 d2) 62 3 ((ntsL (ls.take i)).map enc)::.blk r (rfC u0 u1 u2 u3 u4 u5 vl cap q m d)::.own (.slice q m d) 46 6 ((dlvL (ls.take i)++ls.drop i).map enc)::S) w) m ⟨0,none,0,0,by omega,⟨rfl,rfl,rfl,trivial⟩,hw⟩ ?_
 clear hw;rintro μ ρ w ⟨i,q2,m2,d2,hμ,hρ,hw⟩
 rw[hρ.eq];clear hρ;refine byG ?_;refine W_cond rfl (fun h=>?_) (fun h=>?_)
 ·have hi:i<m:=by have:=of_decide_eq_true h;omega
  clear h;obtain⟨x,hxl⟩:=get_lt (l:=ls) (k:=i) (by omega)
  have hx:=dls_at hxl
  have hxI:=hR x (List.mem_of_getElem? hxl)
  have hlen:(ntsL (ls.take i)).length≤1000:=by
   unfold ntsL;rw[List.length_map];refine Nat.le_trans (List.length_filter_le _ _) ?_
   rw[List.length_take];omega
  have hset:((dlvL (ls.take i)++ls.drop i).map enc).set i (enc (dlvX x))=(dlvL (ls.take (i+1))++ls.drop (i+1)).map enc:=by rw[←dls_step hxl,List.map_set]
  refine byG ?_;refine W_cond rfl (fun h=>?_) (fun h=>?_)
  ·have h:dlv x=true:=(dlv_ref hxI).symm.trans h
   have hdx:dlvX x=⟨x.IRQ,x.Core,x.Driver,x.Core,x.Masked,false⟩:=by unfold dlvX;rw[if_pos h]
   have hsn:(ntsL (ls.take i)).map enc++[enc (ntOf x)]=(ntsL (ls.take (i+1))).map enc:=by
    rw[ntsL_step hxl,if_pos h,List.map_append];rfl
   have hrow:((dlvL (ls.take i)++ls.drop i).map enc)[i]? = some (enc x):=rows_map hx
   have hil:i<(dlvL (ls.take i)++ls.drop i).length:=(List.getElem?_eq_some_iff.1 hx).1
   refine byG ?_;refine lStoreEf (i:=2) (k:=i) (f:=5) ?_ hrow
   intro w hw;have hw:Wd Γ (.own (.slice q2 m2 d2) 62 3 ((ntsL (ls.take i)).map enc)::.blk r (rfC u0 u1 u2 u3 u4 u5 vl cap q m d)::.own (.slice q m d) 46 6 (((dlvL (ls.take i)++ls.drop i).map enc).set i (enc { x with Pending:=false }))::S) w:=hw
   have hrow2:(((dlvL (ls.take i)++ls.drop i).map enc).set i (enc { x with Pending:=false }))[i]? = some (enc { x with Pending:=false }):=by rw[List.getElem?_set_self (by rw[List.length_map];exact hil)]
   refine byG ?_;refine lY (v:=.int .i64 x.Core) ?_ (hy:=y_loadEf rfl (Wd.own_rd (i:=2) hw rfl) hrow2 rfl)
   refine byG ?_;refine lStoreEf (i:=2) (k:=i) (f:=3) ?_ hrow2
   intro w hw;have hw:Wd Γ (.own (.slice q2 m2 d2) 62 3 ((ntsL (ls.take i)).map enc)::.blk r (rfC u0 u1 u2 u3 u4 u5 vl cap q m d)::.own (.slice q m d) 46 6 ((((dlvL (ls.take i)++ls.drop i).map enc).set i (enc { x with Pending:=false })).set i (enc (IntrT.mk x.IRQ x.Core x.Driver x.Core x.Masked false)))::S) w:=hw
   rw[List.set_set,←hdx,hset]at hw;have hx2:(dlvL (ls.take (i+1))++ls.drop (i+1))[i]? = some ⟨x.IRQ,x.Core,x.Driver,x.Core,x.Masked,false⟩:=by rw[←dls_step hxl,List.getElem?_set_self hil,hdx]
   have hrd:∀Y w,Wd Γ ([.own (.slice q m d) 46 6 ((dlvL (ls.take (i+1))++ls.drop (i+1)).map enc),.blk r (rfC u0 u1 u2 u3 u4 u5 vl cap q m d)]++Y) w→Rd w q 6 ((dlvL (ls.take (i+1))++ls.drop (i+1)).map enc):=fun Y w hw=>Wd.own_rd (i:=0) hw rfl
   have hw:Wd Γ ([.own (.slice q m d) 46 6 ((dlvL (ls.take (i+1))++ls.drop (i+1)).map enc),.blk r (rfC u0 u1 u2 u3 u4 u5 vl cap q m d)]++(.own (.slice q2 m2 d2) 62 3 ((ntsL (ls.take i)).map enc)::S)) w:=hw.ps [1,2]
   refine byG ?_;refine W_mixQ [.own (.slice q m d) 46 6 ((dlvL (ls.take (i+1))++ls.drop (i+1)).map enc),.blk r (rfC u0 u1 u2 u3 u4 u5 vl cap q m d)] (.own (.slice q2 m2 d2) 62 3 ((ntsL (ls.take i)).map enc)::S) [70,71] 3 (.slice q2 m2 d2) [[],[],[],[],[],[],[],[],[],[],[],[],[],[],[0],[0],[0,1]] [[1],[],[],[],[],[],[],[],[],[],[],[],[],[],[0],[0],[0,1]] hw ?_
   refine mMoveR (dd:=3) ?_
   refine byM ?_;refine mY (v:=.agg (enc (ntOf x)).toArray) ?_ (hy:=fun Y w g hw=>y_build rfl)
   refine mStepY (φ:=fun (_:Unit) _=>True) (R:=fun _=>.own (.slice q2 m2 d2) 62 3 ((ntsL (ls.take i)).map enc)::S) (v:=undef) (T':=Value) (fun t g=>g 70=t) (fun t=>.own t 62 3 [enc (ntOf x)]::.own (.slice q2 m2 d2) 62 3 ((ntsL (ls.take i)).map enc)::S) (fun t g w Y ht hw=>s_buildSlice (rws:=[enc (ntOf x)]) hw rfl rfl rfl (fun r hm=>by simp at hm;subst hm;rfl) (by decide) fun a w' hw'=>⟨_,rfl,(fun h=>by cases h),hw'⟩) ?_
   refine mStepY (φ:=fun (t:Value) g=>g 70=t) (R:=(fun t=>.own t 62 3 [enc (ntOf x)]::.own (.slice q2 m2 d2) 62 3 ((ntsL (ls.take i)).map enc)::S)) (v:=undef) (T':=Value) (fun t g=>g 71=t) (fun t=>.own t 62 3 ((ntsL (ls.take i)).map enc++[enc (ntOf x)])::S) (fun t g w Y ht hw=>?_) ?_
   ·obtain⟨d1,e1,z1,rfl,hn1,-,-⟩:=hw.own_shape (i:=0) rfl
    obtain⟨d2',e2,z2,hq2,hn2,-,-⟩:=hw.own_shape (i:=1) rfl
    cases hq2
    exact s_append (i:=1) (rows2:=[enc (ntOf x)]) hw rfl ht rfl (Wd.own_rd (i:=0) hw rfl) hn1 (List.all_eq_true.1 rfl) (by simp at hn1 hn2 hlen;omega) (by simp at hn1 hn2 hlen;omega) fun v' w' hw'=>⟨v',rfl,(fun h=>by cases h),hw'.drop⟩
   refine mAssY (φ:=fun (t:Value) g=>g 71=t) (dx:=71) (dd:=3) (fun t g=>g 3=t) (fun t g ht=>ht) ?_
   refine mEndQ (φ:=fun (t:Value) g=>g 3=t) fun t w g ht hw=>?_
   rw[hsn]at hw;obtain⟨q',m',d',rfl,hm',-,-⟩:=hw.own_shape (i:=0) rfl
   have hw:Wd Γ (.own (.slice q' m' d') 62 3 ((ntsL (ls.take (i+1))).map enc)::.blk r (rfC u0 u1 u2 u3 u4 u5 vl cap q m d)::.own (.slice q m d) 46 6 ((dlvL (ls.take (i+1))++ls.drop (i+1)).map enc)::S) w:=by
    have h1:Wd Γ ([.own (.slice q m d) 46 6 ((dlvL (ls.take (i+1))++ls.drop (i+1)).map enc),.blk r (rfC u0 u1 u2 u3 u4 u5 vl cap q m d)]++(.own (.slice q' m' d') 62 3 ((ntsL (ls.take (i+1))).map enc)::S)) w:=hw.perm List.perm_append_comm
    exact h1.ps [1,2]
   refine W_has (l:=[(0,.pointer (some ⟨r,0,none⟩)),(3,.slice q' m' d'),(4,.int .i64 i)]) ⟨rfl,ht,rfl,trivial⟩ fun ρ hρ=>?_
   rw[hρ.eq];refine byG ?_;exact⟨μ-1,by omega,i+1,q',m',d',by omega,⟨rfl,rfl,rfl,trivial⟩,hw⟩
  ·have h:dlv x=false:=(dlv_ref hxI).symm.trans h
   have hdx:dlvX x=x:=dlvX_no h
   have hsn:ntsL (ls.take i)=ntsL (ls.take (i+1)):=by
    rw[ntsL_step hxl,if_neg (by rw[h];decide),List.append_nil]
   have hls:dlvL (ls.take i)++ls.drop i=dlvL (ls.take (i+1))++ls.drop (i+1):=by
    rw[drop_at hxl,take_succ_of hxl];unfold dlvL;rw[List.map_append,List.append_assoc];simp[hdx]
   rw[hsn,hls]at hw;refine byG ?_;exact⟨μ-1,by omega,i+1,q2,m2,d2,by omega,⟨rfl,rfl,rfl,trivial⟩,hw⟩
 have hi:m≤i:=by have:=of_decide_eq_false h;omega
 rw[List.take_of_length_le (by omega),List.drop_of_length_le (by omega),List.append_nil]at hw
 refine byG ?_;exact⟨_,rfl,_,rfl,hw⟩
def RfPost(Γ:Gho)(S:List Res)(r:Nat)(u0 u1 u2 u3 u4 u5 vl:Value)(cap:Int)(q:Option Addr)(m d:Nat)(a:AnsT)(e:Ending)(w:World):Prop:=
 ∃v:Value,e=.returned (.tuple #[v,.int .i64 a.2.2])∧Wd Γ (.own v 62 3 (a.2.1.map enc)::.blk r (rfC u0 u1 u2 u3 u4 u5 vl cap q m d)::.own (.slice q m d) 46 6 (a.1.map enc)::S) w
theorem rfPost_no{a:AnsT}{c:Int}(ha:a=(ls,[],c))(hw:Wd Γ (.blk r (rfC u0 u1 u2 u3 u4 u5 vl cap q m d)::.own (.slice q m d) 46 6 (ls.map enc)::S) w):RfPost Γ S r u0 u1 u2 u3 u4 u5 vl cap q m d a (.returned (.tuple #[.slice none 0 0,.int .i64 c])) w:=by
 subst ha;exact⟨_,rfl,Wd.addNil hw⟩
theorem set_rowsI{k:Nat}{x:IntrT}(hA:AscI ls)(hx:ls[k]? = some x){irq:Int}(he:x.IRQ=irq)(f:IntrT→IntrT):(ls.map enc).set k (enc (f x))=(setI ls irq f).map enc:=by
 subst he;rw[setI_at hA hx,List.map_set]
theorem set_rg{irq:Int}{f:IntrT→IntrT}(hR:RgI ls)(hf:∀x,-1≤x.Driver∧-1≤x.Serving→-1≤(f x).Driver∧-1≤(f x).Serving):RgI (setI ls irq f):=fun y hy=>by
 obtain⟨x,hx,⟨rfl,-⟩|⟨rfl,-⟩⟩:=set_mem hy
 ·exact hf x (hR x hx)
 ·exact hR y hx
theorem rRaise_any(hA:AscI ls)(hR:RgI ls)(hN:ls.length≤1000)(irq:Int)(hw:Wd Γ (.blk r (rfC u0 u1 u2 u3 u4 u5 vl cap q m d)::.own (.slice q m d) 46 6 (ls.map enc)::S) w) :
  Calls Tryz.prog 30 #[.pointer (some ⟨r,0,none⟩),.int .i64 irq] w (RfPost Γ S r u0 u1 u2 u3 u4 u5 vl cap q m d (rseS ls irq)):=by
 have hm:=own_len (i:=1) hw rfl
 simp only[List.length_map]at hm
 refine calls_of_W Tryz.func30 rfl rfl ?_
 refine byG ?_;refine lCall ((at_any hN irq hw).mono fun e w hq=>?_)
 clear hw;obtain⟨⟨k,x,hx,he,hg,rfl⟩|⟨hg,rfl⟩,hw⟩:=hq
 ·refine⟨_,rfl,?_⟩;have hk:=(List.getElem?_eq_some_iff.1 hx).1
  have hrow:(ls.map enc)[k]? = some (enc x):=rows_map hx
  refine byG ?_;refine W_cond_false rfl ?_
  refine byG ?_;refine lStoreEf (i:=1) (k:=k) (f:=5) ?_ hrow
  intro w hw;have hw:Wd Γ (.blk r (rfC u0 u1 u2 u3 u4 u5 vl cap q m d)::.own (.slice q m d) 46 6 ((ls.map enc).set k (enc (rseF x)))::S) w:=hw
  rw[set_rowsI hA hx he]at hw;refine byG ?_;refine lCall ((rdeliver_any (set_rg (irq:=irq) (f:=rseF) hR fun x h=>h) (by unfold setI;rw[List.length_map];exact hN) hw).mono fun e w hq=>?_)
  clear hw;obtain⟨v,rfl,hw⟩:=hq;refine⟨_,rfl,?_⟩;have e1:rseS ls irq=delS (setI ls irq rseF):=by unfold rseS;rw[hg]
  refine byG ?_;exact⟨_,rfl,by rw[e1];exact⟨v,rfl,hw⟩⟩
 ·refine⟨_,rfl,?_⟩;refine byG ?_;refine W_cond_true rfl ?_
  refine byG ?_;exact⟨_,rfl,rfPost_no (by unfold rseS;rw[hg]) hw⟩
theorem rMask_any(hA:AscI ls)(hR:RgI ls)(hN:ls.length≤1000)(irq:Int)(on:Bool)(hw:Wd Γ (.blk r (rfC u0 u1 u2 u3 u4 u5 vl cap q m d)::.own (.slice q m d) 46 6 (ls.map enc)::S) w) :
  Calls Tryz.prog 33 #[.pointer (some ⟨r,0,none⟩),.int .i64 irq,.bool on] w (RfPost Γ S r u0 u1 u2 u3 u4 u5 vl cap q m d (mskS ls irq on)):=by
 have hm:=own_len (i:=1) hw rfl
 simp only[List.length_map]at hm
 refine calls_of_W Tryz.func33 rfl rfl ?_
 refine byG ?_;refine lCall ((at_any hN irq hw).mono fun e w hq=>?_)
 clear hw;obtain⟨⟨k,x,hx,he,hg,rfl⟩|⟨hg,rfl⟩,hw⟩:=hq
 ·refine⟨_,rfl,?_⟩;have hk:=(List.getElem?_eq_some_iff.1 hx).1
  have hrow:(ls.map enc)[k]? = some (enc x):=rows_map hx
  refine byG ?_;refine W_cond_false rfl ?_
  refine byG ?_;refine lStoreEf (i:=1) (k:=k) (f:=4) ?_ hrow
  intro w hw;have hw:Wd Γ (.blk r (rfC u0 u1 u2 u3 u4 u5 vl cap q m d)::.own (.slice q m d) 46 6 ((ls.map enc).set k (enc (mskF on x)))::S) w:=hw
  rw[set_rowsI hA hx he]at hw;refine byG ?_;refine lCall ((rdeliver_any (set_rg (irq:=irq) (f:=(mskF on)) hR fun x h=>h) (by unfold setI;rw[List.length_map];exact hN) hw).mono fun e w hq=>?_)
  clear hw;obtain⟨v,rfl,hw⟩:=hq;refine⟨_,rfl,?_⟩;have e1:mskS ls irq on=delS (setI ls irq (mskF on)):=by unfold mskS;rw[hg]
  refine byG ?_;exact⟨_,rfl,by rw[e1];exact⟨v,rfl,hw⟩⟩
 ·refine⟨_,rfl,?_⟩;refine byG ?_;refine W_cond_true rfl ?_
  refine byG ?_;exact⟨_,rfl,rfPost_no (by unfold mskS;rw[hg]) hw⟩
theorem rAttach_any(hA:AscI ls)(hR:RgI ls)(hN:ls.length≤1000)(irq drv:Int)(hw:Wd Γ (.blk r (rfC u0 u1 u2 u3 u4 u5 vl cap q m d)::.own (.slice q m d) 46 6 (ls.map enc)::S) w) :
  Calls Tryz.prog 34 #[.pointer (some ⟨r,0,none⟩),.int .i64 irq,.int .i64 drv] w (RfPost Γ S r u0 u1 u2 u3 u4 u5 vl cap q m d (attS ls irq drv)):=by
 have hm:=own_len (i:=1) hw rfl
 simp only[List.length_map]at hm
 refine calls_of_W Tryz.func34 rfl rfl ?_
 refine byG ?_;refine lCall ((at_any hN irq hw).mono fun e w hq=>?_)
 clear hw;obtain⟨⟨k,x,hx,he,hg,rfl⟩|⟨hg,rfl⟩,hw⟩:=hq
 ·refine⟨_,rfl,?_⟩;have hk:=(List.getElem?_eq_some_iff.1 hx).1
  have hxI:=hR x (List.mem_of_getElem? hx)
  have hrow:(ls.map enc)[k]? = some (enc x):=rows_map hx
  refine byG ?_;refine W_cond_false rfl ?_
  refine byG ?_;refine W_cond rfl (fun h=>?_) (fun h=>?_)
  ·have h:drv<0∨32≤drv:=by simpa using h
   refine byG ?_;exact⟨_,rfl,rfPost_no (by unfold attS;rw[hg];exact if_pos h) hw⟩
  have h1:¬(drv<0∨32≤drv):=by simp at h;omega
  clear h;refine byG ?_;refine W_cond rfl (fun h=>?_) (fun h=>?_)
  ·have h:x.Driver≠-1:=by have:=of_decide_eq_true h;omega
   refine byG ?_;exact⟨_,rfl,rfPost_no (by unfold attS;rw[hg];dsimp only;rw[if_neg h1,if_pos h]) hw⟩
  have h2:¬x.Driver≠-1:=by have:=of_decide_eq_false h;omega
  clear h;refine byG ?_;refine lStoreEf (i:=1) (k:=k) (f:=2) ?_ hrow
  intro w hw;have hw:Wd Γ (.blk r (rfC u0 u1 u2 u3 u4 u5 vl cap q m d)::.own (.slice q m d) 46 6 ((ls.map enc).set k (enc (attF drv x)))::S) w:=hw
  rw[set_rowsI hA hx he]at hw;refine byG ?_;refine lCall ((rdeliver_any (set_rg (irq:=irq) (f:=(attF drv)) hR fun x h=>⟨by show -1≤drv;omega,h.2⟩) (by unfold setI;rw[List.length_map];exact hN) hw).mono fun e w hq=>?_)
  clear hw;obtain⟨v,rfl,hw⟩:=hq;refine⟨_,rfl,?_⟩;have e1:attS ls irq drv=delS (setI ls irq (attF drv)):=by unfold attS;rw[hg];dsimp only;rw[if_neg h1,if_neg h2]
  refine byG ?_;exact⟨_,rfl,by rw[e1];exact⟨v,rfl,hw⟩⟩
 ·refine⟨_,rfl,?_⟩;refine byG ?_;refine W_cond_true rfl ?_
  refine byG ?_;exact⟨_,rfl,rfPost_no (by unfold attS;rw[hg]) hw⟩
theorem rAck_any(hA:AscI ls)(hR:RgI ls)(hN:ls.length≤1000)(irq c:Int)(hw:Wd Γ (.blk r (rfC u0 u1 u2 u3 u4 u5 vl cap q m d)::.own (.slice q m d) 46 6 (ls.map enc)::S) w) :
  Calls Tryz.prog 31 #[.pointer (some ⟨r,0,none⟩),.int .i64 irq,.int .i64 c] w (RfPost Γ S r u0 u1 u2 u3 u4 u5 vl cap q m d (ackS ls irq c)):=by
 have hm:=own_len (i:=1) hw rfl
 simp only[List.length_map]at hm
 refine calls_of_W Tryz.func31 rfl rfl ?_
 refine byG ?_;refine lCall ((at_any hN irq hw).mono fun e w hq=>?_)
 clear hw;obtain⟨⟨k,x,hx,he,hg,rfl⟩|⟨hg,rfl⟩,hw⟩:=hq
 ·refine⟨_,rfl,?_⟩;have hk:=(List.getElem?_eq_some_iff.1 hx).1
  have hxI:=hR x (List.mem_of_getElem? hx)
  have hrow:(ls.map enc)[k]? = some (enc x):=rows_map hx
  refine byG ?_;refine W_cond_false rfl ?_
  refine byG ?_;refine W_cond rfl (fun h=>?_) (fun h=>?_)
  ·have h:x.Serving = -1∨x.Serving≠c:=by
    have h:x.Serving<0∨x.Serving≠c:=by simpa using h
    omega
   refine byG ?_;exact⟨_,rfl,rfPost_no (by unfold ackS;rw[hg];exact if_pos h) hw⟩
  have h1:¬(x.Serving = -1∨x.Serving≠c):=by
   simp at h
   omega
  clear h;refine byG ?_;refine lStoreEf (i:=1) (k:=k) (f:=3) ?_ hrow
  intro w hw;have hw:Wd Γ (.blk r (rfC u0 u1 u2 u3 u4 u5 vl cap q m d)::.own (.slice q m d) 46 6 ((ls.map enc).set k (enc (ackF x)))::S) w:=hw
  rw[set_rowsI hA hx he]at hw;refine byG ?_;refine lCall ((rdeliver_any (set_rg (irq:=irq) (f:=ackF) hR fun x h=>⟨h.1,Int.le_refl _⟩) (by unfold setI;rw[List.length_map];exact hN) hw).mono fun e w hq=>?_)
  clear hw;obtain⟨v,rfl,hw⟩:=hq;refine⟨_,rfl,?_⟩;have e1:ackS ls irq c=delS (setI ls irq ackF):=by unfold ackS;rw[hg];exact if_neg h1
  refine byG ?_;exact⟨_,rfl,by rw[e1];exact⟨v,rfl,hw⟩⟩
 ·refine⟨_,rfl,?_⟩;refine byG ?_;refine W_cond_true rfl ?_
  refine byG ?_;exact⟨_,rfl,rfPost_no (by unfold ackS;rw[hg]) hw⟩
theorem rDetach_any(hA:AscI ls)(hR:RgI ls)(hN:ls.length≤1000)(irq:Int)(hw:Wd Γ (.blk r (rfC u0 u1 u2 u3 u4 u5 vl cap q m d)::.own (.slice q m d) 46 6 (ls.map enc)::S) w) :
  Calls Tryz.prog 36 #[.pointer (some ⟨r,0,none⟩),.int .i64 irq] w fun e w'=>e=.returned (.int .i64 (detS ls irq).2.2)∧Wd Γ (.blk r (rfC u0 u1 u2 u3 u4 u5 vl cap q m d)::.own (.slice q m d) 46 6 ((detS ls irq).1.map enc)::S) w':=by
 have hm:=own_len (i:=1) hw rfl
 simp only[List.length_map]at hm
 refine calls_of_W Tryz.func36 rfl rfl ?_
 refine byG ?_;refine lCall ((at_any hN irq hw).mono fun e w hq=>?_)
 clear hw;obtain⟨⟨k,x,hx,he,hg,rfl⟩|⟨hg,rfl⟩,hw⟩:=hq
 ·refine⟨_,rfl,?_⟩;have hk:=(List.getElem?_eq_some_iff.1 hx).1
  have hxI:=hR x (List.mem_of_getElem? hx)
  have hrow:(ls.map enc)[k]? = some (enc x):=rows_map hx
  refine byG ?_;refine W_cond_false rfl ?_
  refine byG ?_;refine W_cond rfl (fun h=>?_) (fun h=>?_)
  ·have h:x.Driver = -1:=by have:=of_decide_eq_true h;omega
   have e1:detS ls irq=(ls,[],2):=by unfold detS;rw[hg];exact if_pos h
   refine byG ?_;exact⟨_,rfl,by rw[e1];rfl,by rw[e1];exact hw⟩
  have h1:¬x.Driver = -1:=by have:=of_decide_eq_false h;omega
  clear h;have e1:detS ls irq=(setI ls irq detF,[],0):=by unfold detS;rw[hg];exact if_neg h1
  have hp:(x.Pending||decide (x.Serving≥0))=(detF x).Pending:=by
   unfold detF;congr 1
   by_cases e:x.Serving = -1
   ·rw[decide_eq_true e,decide_eq_false (by omega)];rfl
   ·rw[decide_eq_false e,decide_eq_true (by omega)];rfl
  refine byG ?_;refine lStoreEf (i:=1) (k:=k) (f:=5) ?_ hrow
  intro w hw;have hw:Wd Γ (.blk r (rfC u0 u1 u2 u3 u4 u5 vl cap q m d)::.own (.slice q m d) 46 6 ((ls.map enc).set k (enc (IntrT.mk x.IRQ x.Core x.Driver x.Serving x.Masked (x.Pending||decide (x.Serving≥0)))))::S) w:=hw
  rw[hp]at hw;have hkl:k<(ls.map enc).length:=by rw[List.length_map];exact hk
  refine byG ?_;refine lStoreEf (i:=1) (k:=k) (f:=2) (row:=enc (IntrT.mk x.IRQ x.Core x.Driver x.Serving x.Masked (detF x).Pending)) ?_ (List.getElem?_set_self hkl)
  intro w hw;rw[List.set_set]at hw;have hw:Wd Γ (.blk r (rfC u0 u1 u2 u3 u4 u5 vl cap q m d)::.own (.slice q m d) 46 6 ((ls.map enc).set k (enc (IntrT.mk x.IRQ x.Core (-1) x.Serving x.Masked (detF x).Pending)))::S) w:=hw
  refine byG ?_;refine lStoreEf (i:=1) (k:=k) (f:=3) (row:=enc (IntrT.mk x.IRQ x.Core (-1) x.Serving x.Masked (detF x).Pending)) ?_ (List.getElem?_set_self hkl)
  intro w hw;rw[List.set_set]at hw;have hw:Wd Γ (.blk r (rfC u0 u1 u2 u3 u4 u5 vl cap q m d)::.own (.slice q m d) 46 6 ((ls.map enc).set k (enc (detF x)))::S) w:=hw
  rw[set_rowsI hA hx he]at hw;refine byG ?_;exact⟨_,rfl,by rw[e1];rfl,by rw[e1];exact hw⟩
 ·refine⟨_,rfl,?_⟩;have e1:detS ls irq=(ls,[],17):=by unfold detS;rw[hg]
  refine byG ?_;refine W_cond_true rfl ?_
  refine byG ?_;exact⟨_,rfl,by rw[e1];rfl,by rw[e1];exact hw⟩
end
set_option maxHeartbeats 16000000
section
variable {Γ:Gho}{S:List Res}{w:World}{b bm:Nat}{u0 u1 u2 u3 u4 u5 vl:Value}{cap:Int}{ml:List (Int×Nat)}{pl:List LnT}
def HoPost(Γ:Gho)(S:List Res)(b bm:Nat)(u0 u1 u2 u3 u4 u5 vl:Value)(cap:Int)(ml:List (Int×Nat))(a:AnsT)(e:Ending)(w:World):Prop:=
 ∃(v:Value) (pl:List LnT),e=.returned (.tuple #[v,.int .i64 a.2.2])∧HoOk ml pl∧lsO pl=a.1∧Wd Γ (.own v 62 3 (a.2.1.map enc)::.blk b (hoC u0 u1 u2 u3 u4 u5 cap vl bm)::linM bm ml::(lnR pl++S)) w
theorem hoPost_no{a:AnsT}{c:Int}(ha:a=(lsO pl,[],c))(hO:HoOk ml pl)(hw:Wd Γ (.blk b (hoC u0 u1 u2 u3 u4 u5 cap vl bm)::linM bm ml::(lnR pl++S)) w):HoPost Γ S b bm u0 u1 u2 u3 u4 u5 vl cap ml a (.returned (.tuple #[.slice none 0 0,.int .i64 c])) w:=by
 subst ha;exact⟨_,pl,rfl,hO,rfl,Wd.addNil hw⟩
theorem hoPost_yes{a:AnsT}{irq:Int}{f:IntrT→IntrT}{v:Value}(hf:∀x,(f x).IRQ=x.IRQ)(ha:a=delS (setI (lsO pl) irq f))(hO:HoOk ml pl)(hw:Wd Γ (.own v 62 3 ((ntsL (lsO (setP pl irq f))).map enc)::.blk b (hoC u0 u1 u2 u3 u4 u5 cap vl bm)::linM bm ml::(lnR (mapP dlvX (setP pl irq f))++S)) w):HoPost Γ S b bm u0 u1 u2 u3 u4 u5 vl cap ml a (.returned (.tuple #[v,.int .i64 0])) w:=by
 subst ha;rw[lsO_setP]at hw;exact⟨_,mapP dlvX (setP pl irq f),rfl,(hO.set irq hf).dlv,by rw[lsO_dlv,lsO_setP];rfl,hw⟩
theorem setP_len{irq:Int}{f:IntrT→IntrT}:(setP pl irq f).length=pl.length:=List.length_map ..
theorem bring{k bk:Nat}{x:IntrT}(hx:pl[k]? = some (bk,x))(hw:Wd Γ (.blk b (hoC u0 u1 u2 u3 u4 u5 cap vl bm)::linM bm ml::(lnR pl++S)) w):Wd Γ (lnC (bk,x)::.blk b (hoC u0 u1 u2 u3 u4 u5 cap vl bm)::linM bm ml::(lnR (pl.take k++pl.drop (k+1))++S)) w:=by
 rw[pl_split hx]at hw;exact ln_open (R:=[_,_]) hw
theorem back{k bk:Nat}{f:IntrT→IntrT}{y:IntrT}{i:Int}(hs:setP pl i f=pl.take k++(bk,y)::pl.drop (k+1))(hw:Wd Γ (lnC (bk,y)::.blk b (hoC u0 u1 u2 u3 u4 u5 cap vl bm)::linM bm ml::(lnR (pl.take k++pl.drop (k+1))++S)) w):Wd Γ (.blk b (hoC u0 u1 u2 u3 u4 u5 cap vl bm)::linM bm ml::(lnR (setP pl i f)++S)) w:=by
 rw[hs];exact ln_close (R:=[_,_]) hw
theorem Raise_any(hO:HoOk ml pl)(hN:pl.length≤1000)(irq:Int)(hw:Wd Γ (.blk b (hoC u0 u1 u2 u3 u4 u5 cap vl bm)::linM bm ml::(lnR pl++S)) w) :
  Calls Tryz.prog 23 #[.pointer (some ⟨b,0,none⟩),.int .i64 irq] w (HoPost Γ S b bm u0 u1 u2 u3 u4 u5 vl cap ml (rseS (lsO pl) irq)):=by
 refine calls_of_W Tryz.func23 rfl rfl ?_
 refine byG ?_;rcases hO.get irq with⟨k,bk,x,hx,hirq,hg,ha,hs⟩|⟨hg,ha⟩
 ·have hw:=bring hx hw
  refine lY (v:=.pointer (some ⟨bk,0,none⟩)) ?_ (hy:=y_lookup_some (f:=ptrV) hw rfl rfl (i:=2) rfl ha false)
  refine byG ?_;refine W_cond_false rfl ?_
  refine byG ?_;refine lStore ?_;intro w hw;have hw:=back (hs rseF) hw
  refine byG ?_;refine lCall ((deliver_any (hO.set irq (f:=rseF) (fun _=>rfl)) (by rw[setP_len];exact hN) hw).mono fun e w hq=>?_)
  clear hw;obtain⟨v,rfl,hw⟩:=hq;refine⟨_,rfl,?_⟩;refine byG ?_;exact⟨_,rfl,hoPost_yes (f:=rseF) (fun _=>rfl) (by unfold rseS;rw[hg]) hO hw⟩
 ·refine lY (v:=.pointer none) ?_ (hy:=y_lookup_none (f:=ptrV) hw rfl rfl (i:=1) rfl ha false)
  refine byG ?_;refine W_cond_true rfl ?_
  refine byG ?_;exact⟨_,rfl,hoPost_no (by unfold rseS;rw[hg]) hO hw⟩
theorem Mask_any(hO:HoOk ml pl)(hN:pl.length≤1000)(irq:Int)(on:Bool)(hw:Wd Γ (.blk b (hoC u0 u1 u2 u3 u4 u5 cap vl bm)::linM bm ml::(lnR pl++S)) w) :
  Calls Tryz.prog 32 #[.pointer (some ⟨b,0,none⟩),.int .i64 irq,.bool on] w (HoPost Γ S b bm u0 u1 u2 u3 u4 u5 vl cap ml (mskS (lsO pl) irq on)):=by
 refine calls_of_W Tryz.func32 rfl rfl ?_
 refine byG ?_;rcases hO.get irq with⟨k,bk,x,hx,hirq,hg,ha,hs⟩|⟨hg,ha⟩
 ·have hw:=bring hx hw
  refine lY (v:=.pointer (some ⟨bk,0,none⟩)) ?_ (hy:=y_lookup_some (f:=ptrV) hw rfl rfl (i:=2) rfl ha false)
  refine byG ?_;refine W_cond_false rfl ?_
  refine byG ?_;refine lStore ?_;intro w hw;have hw:=back (hs (mskF on)) hw
  refine byG ?_;refine lCall ((deliver_any (hO.set irq (f:=(mskF on)) (fun _=>rfl)) (by rw[setP_len];exact hN) hw).mono fun e w hq=>?_)
  clear hw;obtain⟨v,rfl,hw⟩:=hq;refine⟨_,rfl,?_⟩;refine byG ?_;exact⟨_,rfl,hoPost_yes (f:=mskF on) (fun _=>rfl) (by unfold mskS;rw[hg]) hO hw⟩
 ·refine lY (v:=.pointer none) ?_ (hy:=y_lookup_none (f:=ptrV) hw rfl rfl (i:=1) rfl ha false)
  refine byG ?_;refine W_cond_true rfl ?_
  refine byG ?_;exact⟨_,rfl,hoPost_no (by unfold mskS;rw[hg]) hO hw⟩
theorem Attach_any(hO:HoOk ml pl)(hN:pl.length≤1000)(irq drv:Int)(hw:Wd Γ (.blk b (hoC u0 u1 u2 u3 u4 u5 cap vl bm)::linM bm ml::(lnR pl++S)) w) :
  Calls Tryz.prog 24 #[.pointer (some ⟨b,0,none⟩),.int .i64 irq,.int .i64 drv] w (HoPost Γ S b bm u0 u1 u2 u3 u4 u5 vl cap ml (attS (lsO pl) irq drv)):=by
 refine calls_of_W Tryz.func24 rfl rfl ?_
 refine byG ?_;rcases hO.get irq with⟨k,bk,x,hx,hirq,hg,ha,hs⟩|⟨hg,ha⟩
 ·have hw2:=bring hx hw
  refine lY (v:=.pointer (some ⟨bk,0,none⟩)) ?_ (hy:=y_lookup_some (f:=ptrV) hw rfl rfl (i:=1) rfl ha false)
  have hwK:=hw
  clear hw;have hw:=hw2
  clear hw2;refine byG ?_;refine W_cond_false rfl ?_
  refine byG ?_;refine W_cond rfl (fun h=>?_) (fun h=>?_)
  ·have h:drv<0∨32≤drv:=by simpa using h
   refine byG ?_;exact⟨_,rfl,hoPost_no (by unfold attS;rw[hg];exact if_pos h) hO hwK⟩
  have h1:¬(drv<0∨32≤drv):=by simp at h;omega
  clear h;refine byG ?_;refine W_cond rfl (fun h=>?_) (fun h=>?_)
  ·have h:x.Driver≠-1:=by simpa using h
   refine byG ?_;exact⟨_,rfl,hoPost_no (by unfold attS;rw[hg];dsimp only;rw[if_neg h1,if_pos h]) hO hwK⟩
  have h2:¬x.Driver≠-1:=by simpa using h
  clear h hwK;refine byG ?_;refine lStore ?_;intro w hw;have hw:=back (hs (attF drv)) hw
  refine byG ?_;refine lCall ((deliver_any (hO.set irq (f:=(attF drv)) (fun _=>rfl)) (by rw[setP_len];exact hN) hw).mono fun e w hq=>?_)
  clear hw;obtain⟨v,rfl,hw⟩:=hq;refine⟨_,rfl,?_⟩;refine byG ?_;exact⟨_,rfl,hoPost_yes (f:=attF drv) (fun _=>rfl) (by unfold attS;rw[hg];dsimp only;rw[if_neg h1,if_neg h2]) hO hw⟩
 ·refine lY (v:=.pointer none) ?_ (hy:=y_lookup_none (f:=ptrV) hw rfl rfl (i:=1) rfl ha false)
  refine byG ?_;refine W_cond_true rfl ?_
  refine byG ?_;exact⟨_,rfl,hoPost_no (by unfold attS;rw[hg]) hO hw⟩
theorem Ack_any(hO:HoOk ml pl)(hN:pl.length≤1000)(irq c:Int)(hw:Wd Γ (.blk b (hoC u0 u1 u2 u3 u4 u5 cap vl bm)::linM bm ml::(lnR pl++S)) w) :
  Calls Tryz.prog 25 #[.pointer (some ⟨b,0,none⟩),.int .i64 irq,.int .i64 c] w (HoPost Γ S b bm u0 u1 u2 u3 u4 u5 vl cap ml (ackS (lsO pl) irq c)):=by
 refine calls_of_W Tryz.func25 rfl rfl ?_
 refine byG ?_;rcases hO.get irq with⟨k,bk,x,hx,hirq,hg,ha,hs⟩|⟨hg,ha⟩
 ·have hw2:=bring hx hw
  refine lY (v:=.pointer (some ⟨bk,0,none⟩)) ?_ (hy:=y_lookup_some (f:=ptrV) hw rfl rfl (i:=1) rfl ha false)
  have hwK:=hw
  clear hw;have hw:=hw2
  clear hw2;refine byG ?_;refine W_cond_false rfl ?_
  refine byG ?_;refine W_cond rfl (fun h=>?_) (fun h=>?_)
  ·have h:x.Serving = -1∨x.Serving≠c:=by simpa using h
   refine byG ?_;exact⟨_,rfl,hoPost_no (by unfold ackS;rw[hg];exact if_pos h) hO hwK⟩
  have h1:¬(x.Serving = -1∨x.Serving≠c):=by simpa using h
  clear h hwK;refine byG ?_;refine lStore ?_;intro w hw;have hw:=back (hs ackF) hw
  refine byG ?_;refine lCall ((deliver_any (hO.set irq (f:=ackF) (fun _=>rfl)) (by rw[setP_len];exact hN) hw).mono fun e w hq=>?_)
  clear hw;obtain⟨v,rfl,hw⟩:=hq;refine⟨_,rfl,?_⟩;refine byG ?_;exact⟨_,rfl,hoPost_yes (f:=ackF) (fun _=>rfl) (by unfold ackS;rw[hg];exact if_neg h1) hO hw⟩
 ·refine lY (v:=.pointer none) ?_ (hy:=y_lookup_none (f:=ptrV) hw rfl rfl (i:=1) rfl ha false)
  refine byG ?_;refine W_cond_true rfl ?_
  refine byG ?_;exact⟨_,rfl,hoPost_no (by unfold ackS;rw[hg]) hO hw⟩
theorem release_any{x:IntrT}(hw:Wd Γ (lnC (b,x)::S) w) :
  Calls Tryz.prog 62 #[.pointer (some ⟨b,0,none⟩)] w fun e w'=>e=.returned (.tuple #[])∧Wd Γ (lnC (b,{ x with Serving:=-1,Pending:=true })::S) w':=by
 refine calls_of_W Tryz.func62 rfl rfl ?_
 refine byG ?_;refine lStore ?_;intro w hw;refine byG ?_;refine lStore ?_;intro w hw;have hw:Wd Γ (lnC (b,{ x with Serving:=-1,Pending:=true })::S) w:=hw
 refine byG ?_;exact⟨_,rfl,rfl,hw⟩
theorem Detach_any(hO:HoOk ml pl)(irq:Int)(hw:Wd Γ (.blk b (hoC u0 u1 u2 u3 u4 u5 cap vl bm)::linM bm ml::(lnR pl++S)) w) :
  Calls Tryz.prog 35 #[.pointer (some ⟨b,0,none⟩),.int .i64 irq] w fun e w'=>∃pl':List LnT,e=.returned (.int .i64 (detS (lsO pl) irq).2.2)∧HoOk ml pl'∧lsO pl'=(detS (lsO pl) irq).1∧Wd Γ (.blk b (hoC u0 u1 u2 u3 u4 u5 cap vl bm)::linM bm ml::(lnR pl'++S)) w':=by
 refine calls_of_W Tryz.func35 rfl rfl ?_
 refine byG ?_;rcases hO.get irq with⟨k,bk,x,hx,hirq,hg,ha,hs⟩|⟨hg,ha⟩
 ·have hw2:=bring hx hw
  refine lY (v:=.pointer (some ⟨bk,0,none⟩)) ?_ (hy:=y_lookup_some (f:=ptrV) hw rfl rfl (i:=1) rfl ha false)
  have hwK:=hw
  clear hw;have hw:=hw2
  clear hw2;refine byG ?_;refine W_cond_false rfl ?_
  refine byG ?_;refine W_cond rfl (fun h=>?_) (fun h=>?_)
  ·have h:x.Driver = -1:=by simpa using h
   have e1:detS (lsO pl) irq=(lsO pl,[],2):=by unfold detS;rw[hg];exact if_pos h
   refine byG ?_;exact⟨_,rfl,pl,by rw[e1];rfl,hO,by rw[e1],hwK⟩
  have h1:¬x.Driver = -1:=by simpa using h
  clear h hwK;have e1:detS (lsO pl) irq=(setI (lsO pl) irq detF,[],0):=by unfold detS;rw[hg];exact if_neg h1
  have hO2:HoOk ml (setP pl irq detF):=hO.set irq (fun _=>rfl)
  refine byG ?_;refine lStore ?_;intro w hw;have hw:Wd Γ (lnC (bk,{ x with Driver:=-1 })::.blk b (hoC u0 u1 u2 u3 u4 u5 cap vl bm)::linM bm ml::(lnR (pl.take k++pl.drop (k+1))++S)) w:=hw
  refine byG ?_;refine W_cond rfl (fun h=>?_) (fun h=>?_)
  ·have h:x.Serving≠-1:=by simpa using h
   refine byG ?_;refine lCall ((release_any hw).mono fun e w hq=>?_)
   clear hw;obtain⟨rfl,hw⟩:=hq;refine⟨_,rfl,?_⟩;have hw:Wd Γ (lnC (bk,detF x)::.blk b (hoC u0 u1 u2 u3 u4 u5 cap vl bm)::linM bm ml::(lnR (pl.take k++pl.drop (k+1))++S)) w:=by
    have:detF x = { x with Driver:=-1,Serving:=-1,Pending:=true }:=by unfold detF;simp[h]
    rw[this];exact hw
   have hw:=back (hs detF) hw
   refine byG ?_;exact⟨_,rfl,setP pl irq detF,by rw[e1];rfl,hO2,by rw[e1,lsO_setP],hw⟩
  ·have h:x.Serving = -1:=by simpa using h
   have hw:Wd Γ (lnC (bk,detF x)::.blk b (hoC u0 u1 u2 u3 u4 u5 cap vl bm)::linM bm ml::(lnR (pl.take k++pl.drop (k+1))++S)) w:=by
    have:detF x = { x with Driver:=-1 }:=by unfold detF;simp[h]
    rw[this];exact hw
   have hw:=back (hs detF) hw
   refine byG ?_;exact⟨_,rfl,setP pl irq detF,by rw[e1];rfl,hO2,by rw[e1,lsO_setP],hw⟩
 ·have e1:detS (lsO pl) irq=(lsO pl,[],17):=by unfold detS;rw[hg]
  refine lY (v:=.pointer none) ?_ (hy:=y_lookup_none (f:=ptrV) hw rfl rfl (i:=1) rfl ha false)
  refine byG ?_;refine W_cond_true rfl ?_
  refine byG ?_;exact⟨_,rfl,pl,by rw[e1];rfl,hO,by rw[e1],hw⟩
end
set_option maxHeartbeats 64000000
def ixI(xs:List Int)(x:Int):Int:=match xs.findIdx? (fun y=>decide (x=y)) with|some i=>i|none=>-1
section
variable {Γ:Gho}{S:List Res}{w:World}{v:Value}{xs:List Int}
theorem IndexI_any(hr:RdS Γ S v 1 (intRows xs))(x:Int)(hw:Wd Γ S w):Calls Tryz.prog 71 #[v,.int .i64 x] w fun e w'=>e=.returned (.int .i64 (ixI xs x))∧Wd Γ S w':=by
 obtain⟨a,n,c,rfl,hn,hnc,hc⟩:=hr.shape;have hnr:=hn
 simp only[intRows,List.length_map]at hn
 refine calls_of_W Tryz.func71 rfl rfl ?_
 refine byG ?_;refine W_loop (fun μ ρ w=>∃(k:Nat),μ+k=n∧Has ρ [(0,.slice a n c),(1,.int .i64 x),(7,.int .i64 n),(8,.int .i64 k)]∧(∀i y,i<k→xs[i]? = some y→decide (x=y)=false)∧Wd Γ S w) n ⟨0,by omega,⟨rfl,rfl,rfl,rfl,trivial⟩,fun i y h=>absurd h (Nat.not_lt_zero i),hw⟩ ?_
 clear hw;rintro μ ρ w ⟨k,hk,hρ,hno,hw⟩
 rw[hρ.eq];clear hρ;refine byG ?_;refine W_cond rfl (fun h=>?_) (fun h=>?_)
 ·have hkn:k<n:=by simpa using h
  clear h;obtain⟨y,hy⟩:=get_lt (l:=xs) (k:=k) (by omega)
  refine byG ?_;refine W_cond rfl (fun h2=>?_) (fun h2=>?_)
  ·have e:ixI xs x=k:=by
    unfold ixI;obtain⟨hkl,rfl⟩:=List.getElem?_eq_some_iff.1 hy
    rw[show xs.findIdx? (fun y=>decide (x=y))=some k from by
     rw[List.findIdx?_eq_some_iff_getElem];exact⟨hkl,h2,fun j hj=>by have:=hno j _ hj (List.getElem?_eq_getElem (by omega));simp[this]⟩]
   refine byG ?_;exact⟨_,rfl,by rw[e];rfl,hw⟩
  ·refine byG ?_;refine⟨μ-1,by omega,k+1,by omega,⟨rfl,rfl,rfl,rfl,trivial⟩,fun i z hi hz=>?_,hw⟩
   by_cases e:i=k
   ·subst e;obtain rfl:y=z:=by rw[hy]at hz;exact Option.some.inj hz
    exact h2
   ·exact hno i z (by omega) hz
 ·have hkn:¬k<n:=by simpa using h
  have e:ixI xs x = -1:=by
   unfold ixI;rw[show xs.findIdx? (fun y=>decide (x=y))=none from by
    rw[List.findIdx?_eq_none_iff];intro y hy;obtain⟨i,hi⟩:=List.getElem?_of_mem hy
    have:=(List.getElem?_eq_some_iff.1 hi).1
    exact hno i y (by omega) hi]
  refine byG ?_;exact⟨_,rfl,by rw[e];rfl,hw⟩
theorem ixI_cases(xs:List Int)(x:Int):(x∉xs∧ixI xs x = -1)∨∃k:Nat,ixI xs x=k∧xs[k]? = some x:=by
 unfold ixI;cases h:xs.findIdx? (fun y=>decide (x=y)) with
 | none=>
  rw[List.findIdx?_eq_none_iff]at h;exact .inl ⟨fun hm=>by have:=h x hm;simp at this,rfl⟩
 | some k=>
  rw[List.findIdx?_eq_some_iff_getElem]at h;obtain⟨hk,he,-⟩:=h;refine .inr ⟨k,rfl,?_⟩
  rw[List.getElem?_eq_getElem hk];have:x=xs[k]:=of_decide_eq_true he
  rw[←this]
theorem intRows_one(xs:List Int):∀u∈(intRows xs).flatten,u.oneCell'=true:=List.all_eq_true.1 (ints_one xs)
theorem DeleteI_any(k:Nat)(hw:Wd Γ (.own v 3 1 (intRows xs)::S) w)(hk:k<xs.length)(hN:xs.length≤1000000) :
  Calls Tryz.prog 72 #[v,.int .i64 k,.int .i64 (k+1:Nat)] w fun e w'=>∃v',e=.returned v'∧Wd Γ (.own v' 3 1 (intRows (xs.eraseIdx k))::S) w':=by
 obtain⟨a,n,c,rfl,hn,hnc,hc⟩:=hw.own_shape (i:=0) rfl
 rw[intRows_ln]at hn;refine calls_of_W Tryz.func72 rfl rfl ?_
 refine byG ?_;refine W_cond_false (by simp[ev,putO,upd];omega) ?_
 refine byG ?_;refine W_mix1 [] (.own (.slice a n c) 3 1 (intRows xs)::S) [[],[],[],[],[],[],[0],[]] [[],[],[],[],[],[],[0],[]] hw ?_
 repeat(first|refine mY ?_|refine mP ?_|refine mEndAt ?_|refine mEnd0 ?_|refine mEnd ?_)
 refine mM (v:=.slice a (k+(n-(k+1))) c) (fun _=>.own (.slice a (k+(n-(k+1))) c) 3 1 (intRows (xs.eraseIdx k))::S) (fun Y w g hw=>?_) ?_
 ·have hrd:=(Wd.own_rd (i:=0) hw rfl).cut (c:=c) (by rw[intRows_ln];omega) (k+1) (by rw[intRows_ln];omega)
  have hw2:=Wd.own_take (i:=0) (m:=k) hw rfl (by omega)
  refine s_appendF (i:=0) hw2 rfl rfl rfl hrd (by rw[List.length_drop,intRows_ln];omega) (fun u hu=>?_) (by omega) (by omega) fun v' w' hfit hw'=>?_
  ·have h1:=intRows_one (xs.drop (k+1)) u
   unfold intRows at h1 hu;rw[List.map_drop]at h1;exact h1 hu
  ·have hv:=hfit (by show k+(n-(k+1))≤c;omega)
   have hv:v'=.slice a (k+(n-(k+1))) c:=hv
   subst hv;refine⟨?_,fun _=>rfl⟩
   have he:(intRows xs).take k++(intRows xs).drop (k+1)=intRows (xs.eraseIdx k):=by
    unfold intRows;rw[←List.map_take,←List.map_drop,←List.map_append,List.eraseIdx_eq_take_drop_succ]
   rw[he]at hw';exact hw'
 repeat(first|refine mY ?_|refine mP ?_|refine mEndAt ?_|refine mEnd0 ?_|refine mEnd ?_)
 intro w hw;have hw:Wd Γ (.own (.slice a (k+(n-(k+1))) c) 3 1 (intRows (xs.eraseIdx k))::S++[]) w:=hw
 rw[List.append_nil]at hw;refine byG ?_;refine lClear ?_;intro w hw;refine byG ?_;exact⟨_,rfl,_,rfl,hw⟩
theorem erase_filter{xs:List Int}(h:xs.Nodup){k:Nat}{c:Int}(hk:xs[k]? = some c):xs.eraseIdx k=xs.filter fun x=>!decide (x=c):=by
 induction xs generalizing k with
 | nil=>simp at hk
 | cons x xs ih=>
  simp only[List.nodup_cons]at h
  cases k with
  | zero=>
   simp at hk
   subst hk;rw[List.eraseIdx_cons_zero,List.filter_cons];simp only[decide_true,Bool.not_true,Bool.false_eq_true,if_false]
   exact(List.filter_eq_self.2 fun y hy=>by simp;intro e;exact h.1 (e ▸ hy)).symm
  | succ k=>
   have hk:xs[k]? = some c:=by simpa using hk
   have hm:=List.mem_of_getElem? hk
   have hne:x≠c:=fun e=>h.1 (e ▸ hm)
   rw[List.eraseIdx_cons_succ,List.filter_cons,decide_eq_false hne];simp only[Bool.not_false,if_true]
   rw[ih h.2 hk]
end
section
variable {Γ:Gho}{S:List Res}{w:World}{b bm:Nat}{u0 u1 u2 u3 u4 u5 vl:Value}{cap:Int}{ml:List (Int×Nat)}{pl:List LnT}
theorem join1_any{b6 i:Nat}{id:Int}(x:CoreT)(hi:S[i]? = some (.blk b6 (.cells #[.int .i64 id] 3)))(hw:Wd Γ S w) :
  Calls Tryz.prog 64 #[.agg (enc x).toArray,.pointer (some ⟨b6,0,none⟩)] w fun e w'=>e=.returned (.bool (decide (x.ID=id)))∧Wd Γ S w':=by
 refine calls_of_W Tryz.func64 rfl rfl ?_
 refine byG ?_;refine lBox ?_;intro b2 w hw;have hw:Wd Γ (.blk b2 (.cells (enc x).toArray 69)::S) w:=hw
 refine byG ?_;have hi2:(Res.blk b2 (.cells (enc x).toArray 69)::S)[i+1]? = some (.blk b6 (.cells #[.int .i64 id] 3)):=by simpa using hi
 refine lY (v:=.int .i64 id) ?_ (hy:=y_l1b (i:=i+1) hw rfl hi2 rfl)
 refine byG ?_;exact⟨_,rfl,rfl,hw.drop⟩
theorem any_find(l:List CoreT)(id:Int):(l.any fun x=>decide (x.ID=id))=(findC l id).2:=by
 unfold findC;cases h:l.find? (fun x=>decide (x.ID=id)) with
 | none=>
  rw[List.find?_eq_none]at h;rw[List.any_eq_false.2 fun x hx=>h x hx]
 | some c=>exact List.any_eq_true.2 ⟨c,List.mem_of_find?_eq_some h,List.find?_some (p:=fun x:CoreT=>decide (x.ID=id)) h⟩
def recP(pl:List LnT)(rs:List (Int×Int)):List LnT:=(pl.zip rs).map fun p=>(p.1.1,{ p.1.2 with Core:=p.2.2 })
theorem lsO_rec(pl:List LnT)(rs:List (Int×Int)):lsO (recP pl rs)=recI (lsO pl) rs:=by
 unfold lsO recP recI;rw[List.map_map,List.zip_map_left,List.map_map];rfl
theorem recP_step{rs:List (Int×Int)}{i bk:Nat}{x:IntrT}{r:Int×Int}(hx:pl[i]? = some (bk,x))(hr:rs[i]? = some r):recP (pl.take i) (rs.take i)++(bk,{ x with Core:=r.2 })::pl.drop (i+1)=recP (pl.take (i+1)) (rs.take (i+1))++pl.drop (i+1):=by
 rw[take_succ_of hx,take_succ_of hr];unfold recP;have h1:=(List.getElem?_eq_some_iff.1 hx).1
 have h2:=(List.getElem?_eq_some_iff.1 hr).1
 rw[List.zip_append (by rw[List.length_take,List.length_take];omega),List.map_append,List.append_assoc];rfl
theorem kM_rec{rs:List (Int×Int)}(h:rs.map (·.1)=(lsO pl).map (·.IRQ)):kM (recP pl rs)=kM pl:=by
 have hl:rs.length=pl.length:=by have:=congrArg List.length h;simpa[lsO] using this
 refine List.ext_getElem? fun k=>?_
 unfold kM recP;rw[List.getElem?_map,List.getElem?_map,List.getElem?_map];cases hp:pl[k]? with
 | none=>
  have:pl.length≤k:=by simpa using hp
  rw[List.getElem?_eq_none (l:=pl.zip rs) (by rw[List.length_zip];omega)];rfl
 | some p=>
  have hk:=(List.getElem?_eq_some_iff.1 hp).1
  obtain⟨r,hr⟩:=get_lt (l:=rs) (k:=k) (by omega)
  have h2:(pl.zip rs)[k]? = some (p,r):=List.getElem?_zip_eq_some.2 ⟨hp,hr⟩
  rw[h2];rfl
theorem route_any(hO:HoOk ml pl)(hPl:pl.length≤1000){H:HwT}[hh:HwR Γ (.agg #[u0,u1,u2,u3,u4,u5]) H](hsub:∀L:List Int,∀c∈(liveS H L).1,c∈H.Cores){v:Value}{L:List Int}(hr:RepS Γ v 1 (intRows L))(hN:L.length≤1000)(hLen:(liveS H L).1.length≤64)(hDev:H.Devs.length≤1000){rs:List (Int×Int)}{tot code:Int}(hip:IntPost H L cap rs tot code)(hi:code=0→rs.map (·.1)=(lsO pl).map (·.IRQ))(hw:Wd Γ (.blk b (hoC u0 u1 u2 u3 u4 u5 cap vl bm)::linM bm ml::(lnR pl++S)) w) :
  Calls Tryz.prog 67 #[.pointer (some ⟨b,0,none⟩),v] w fun e w'=>e=.returned (.int .i64 code)∧(code≠0→Wd Γ (.blk b (hoC u0 u1 u2 u3 u4 u5 cap vl bm)::linM bm ml::(lnR pl++S)) w')∧(code=0→Wd Γ (.blk b (hoC u0 u1 u2 u3 u4 u5 cap v bm)::linM bm ml::(lnR (recP pl rs)++S)) w'):=by
 refine calls_of_W Tryz.func67 rfl rfl ?_
 refine byG ?_;have hwm:Wd Γ ((.blk b (hoC u0 u1 u2 u3 u4 u5 cap vl bm)::linM bm ml::(lnR pl++S))++[]) w:=by rw[List.append_nil];exact hw
 refine W_mixed (.blk b (hoC u0 u1 u2 u3 u4 u5 cap vl bm)::linM bm ml::(lnR pl++S)) [fun _=>[],fun _=>[],fun _=>[]] [[],[],[],[],[],[],[],[],[],[0],[0,1,2],[1],[],[],[1],[],[]] [[],[],[],[],[],[],[],[],[],[0],[0,1,2],[1],[2],[2],[1],[],[]] [[20,10],[10,21,5],[10]] hwm ?_
 clear hwm hw;refine byM ?_;refine mS (c:=0) (v:=undef) (F:=fun _=>[]) (exC (T:=Value) (fun t g=>g 20=.tuple #[t,.int .i64 tot,.int .i64 code]) fun t=>[.own t 55 2 (rs.map prI)]) (fun g w Y hw=>?_) ?_
 ·refine s_call (vs:=#[.agg #[u0,u1,u2,u3,u4,u5],v,.int .i64 cap]) ?_ ((int_fix (hh:=hh) hip hr hN hLen hDev (hsub L) hw).mono fun e w' hq=>?_)
  ·exact EvL.eqA (xs:=[.tmp 14,.tmp 15,.tmp 19]) (vs:=[.agg #[u0,u1,u2,u3,u4,u5],v,.int .i64 cap]) (EvL.cons (by rfl) (EvL.cons (by rfl) (EvL.cons (by rfl) EvL.nil)))
  obtain⟨t,rfl,hw2⟩:=hq;refine⟨_,rfl,fun h=>(by cases h),?_⟩
  exact exC_mk (T:=Value) (φ:=fun t g=>g 20=.tuple #[t,.int .i64 tot,.int .i64 code]) (R:=fun t=>[.own t 55 2 (rs.map prI)]) t rfl hw2
 refine mM3 (c:=0) (c2:=1) (c3:=2) (v:=undef) (exC (T:=Value) (fun t g=>g 10=.tuple #[t,.int .i64 tot,.int .i64 code]) fun t=>[.own t 55 2 (rs.map prI)]) (exC (T:=Value) (fun t g=>g 10=.tuple #[t,.int .i64 tot,.int .i64 code]) fun _=>[]) (exC (T:=Value) (fun t g=>g 10=.tuple #[t,.int .i64 tot,.int .i64 code]) fun _=>[]) (fun Y w g hw=>?_) ?_ rfl rfl
 ·have hw1:Wd Γ ((.blk b (hoC u0 u1 u2 u3 u4 u5 cap vl bm)::linM bm ml::(lnR pl++S))++(((exC (T:=Value) (fun t g=>g 20=.tuple #[t,.int .i64 tot,.int .i64 code]) fun t=>[.own t 55 2 (rs.map prI)]) (ovr [20,10] g noFr))++([]++([]++[]))++Y)) w:=hw
  obtain⟨t,ht,hw2⟩:=exC_open (hw1.perm perm3.symm)
  have ht:g 20=.tuple #[t,.int .i64 tot,.int .i64 code]:=ht
  refine Yields.step (y_move (v:=.tuple #[t,.int .i64 tot,.int .i64 code]) ht) ⟨?_,fun h=>(by cases h)⟩
  have hw3:=exC_mk (T:=Value) (φ:=fun t g=>g 10=.tuple #[t,.int .i64 tot,.int .i64 code]) (R:=fun t=>[.own t 55 2 (rs.map prI)]) (g:=ovr [20,10] (putO g (some 10) (.tuple #[t,.int .i64 tot,.int .i64 code])) noFr) t rfl hw2
  have hw4:=hw3.perm List.perm_append_comm
  have hw5:=exC_mk (T:=Value) (φ:=fun t g=>g 10=.tuple #[t,.int .i64 tot,.int .i64 code]) (R:=fun _=>[]) (g:=ovr [10,21,5] (putO g (some 10) (.tuple #[t,.int .i64 tot,.int .i64 code])) noFr) t rfl hw4
  have hw6:=exC_mk (T:=Value) (φ:=fun t g=>g 10=.tuple #[t,.int .i64 tot,.int .i64 code]) (R:=fun _=>[]) (g:=ovr [10] (putO g (some 10) (.tuple #[t,.int .i64 tot,.int .i64 code])) noFr) t rfl hw5
  have hw7:Wd Γ (((exC (T:=Value) (fun t g=>g 10=.tuple #[t,.int .i64 tot,.int .i64 code]) fun _=>[]) (ovr [10] (putO g (some 10) (.tuple #[t,.int .i64 tot,.int .i64 code])) noFr))++(((exC (T:=Value) (fun t g=>g 10=.tuple #[t,.int .i64 tot,.int .i64 code]) fun _=>[]) (ovr [10,21,5] (putO g (some 10) (.tuple #[t,.int .i64 tot,.int .i64 code])) noFr))++(([]++([]++((.blk b (hoC u0 u1 u2 u3 u4 u5 cap vl bm)::linM bm ml::(lnR pl++S))++Y)))++((exC (T:=Value) (fun t g=>g 10=.tuple #[t,.int .i64 tot,.int .i64 code]) fun t=>[.own t 55 2 (rs.map prI)]) (ovr [20,10] (putO g (some 10) (.tuple #[t,.int .i64 tot,.int .i64 code])) noFr))))) w:=hw6
  exact hw7.perm perm6
 refine mS (c:=1) (v:=undef) (F:=(exC (T:=Value) (fun t g=>g 10=.tuple #[t,.int .i64 tot,.int .i64 code]) fun _=>[])) (exC (T:=Value) (fun t g=>g 10=.tuple #[t,.int .i64 tot,.int .i64 code]∧g 21=t) fun _=>[]) (fun g w Y hw=>?_) ?_
 ·obtain⟨t,ht,hw1⟩:=exC_open hw
  have ht:g 10=.tuple #[t,.int .i64 tot,.int .i64 code]:=ht
  refine Yields.step (y_extract (v:=t) ht rfl) ⟨fun h=>(by cases h),?_⟩
  exact exC_mk (T:=Value) (φ:=fun t g=>g 10=.tuple #[t,.int .i64 tot,.int .i64 code]∧g 21=t) (R:=fun _=>[]) t ⟨ht,rfl⟩ hw1
 refine mC (v:=.int .i64 tot) (fun Y w g hw=>?_) rfl rfl rfl ?_
 ·have hw1:Wd Γ ((.blk b (hoC u0 u1 u2 u3 u4 u5 cap vl bm)::linM bm ml::(lnR pl++S))++((((exC (T:=Value) (fun t g=>g 10=.tuple #[t,.int .i64 tot,.int .i64 code]) fun _=>[]) (ovr [10] g noFr))++[])++Y)) w:=hw
  obtain⟨t,ht,-⟩:=exC_open (hw1.perm perm1)
  exact Yields.step (y_extract (v:=.int .i64 tot) ht rfl) ⟨rfl,hw⟩
 refine mC (v:=.int .i64 code) (fun Y w g hw=>?_) rfl rfl rfl ?_
 ·have hw1:Wd Γ ((.blk b (hoC u0 u1 u2 u3 u4 u5 cap vl bm)::linM bm ml::(lnR pl++S))++((((exC (T:=Value) (fun t g=>g 10=.tuple #[t,.int .i64 tot,.int .i64 code]) fun _=>[]) (ovr [10] g noFr))++[])++Y)) w:=hw
  obtain⟨t,ht,-⟩:=exC_open (hw1.perm perm1)
  exact Yields.step (y_extract (v:=.int .i64 code) ht rfl) ⟨rfl,hw⟩
 refine mS (c:=1) (v:=undef) (F:=(exC (T:=Value) (fun t g=>g 10=.tuple #[t,.int .i64 tot,.int .i64 code]∧g 21=t) fun _=>[])) (exC (T:=Value) (fun t g=>g 10=.tuple #[t,.int .i64 tot,.int .i64 code]∧g 5=t) fun _=>[]) (fun g w Y hw=>?_) ?_
 ·obtain⟨t,⟨ht,ht2⟩,hw1⟩:=exC_open hw
  have ht:g 10=.tuple #[t,.int .i64 tot,.int .i64 code]:=ht
  have ht2:g 21=t:=ht2
  refine Yields.step (y_assign (v:=t) ht2) ⟨fun h=>(by cases h),?_⟩
  exact exC_mk (T:=Value) (φ:=fun t g=>g 10=.tuple #[t,.int .i64 tot,.int .i64 code]∧g 5=t) (R:=fun _=>[]) t ⟨ht,rfl⟩ hw1
 refine byM ?_;refine mEnd fun w g hw=>?_
 have hw1:Wd Γ ((.blk b (hoC u0 u1 u2 u3 u4 u5 cap vl bm)::linM bm ml::(lnR pl++S))++((((exC (T:=Value) (fun t g=>g 10=.tuple #[t,.int .i64 tot,.int .i64 code]) fun t=>[.own t 55 2 (rs.map prI)]) (ovr [20,10] g noFr))++(((exC (T:=Value) (fun t g=>g 10=.tuple #[t,.int .i64 tot,.int .i64 code]∧g 5=t) fun _=>[]) (ovr [10,21,5] g noFr))++(((exC (T:=Value) (fun t g=>g 10=.tuple #[t,.int .i64 tot,.int .i64 code]) fun _=>[]) (ovr [10] g noFr))++[])))++[])) w:=by rw[List.append_nil];exact hw
 obtain⟨t,ht,hw2⟩:=exC_open (hw1.perm perm3.symm)
 have ht:g 10=.tuple #[t,.int .i64 tot,.int .i64 code]:=ht
 have hw3:Wd Γ (((exC (T:=Value) (fun t g=>g 10=.tuple #[t,.int .i64 tot,.int .i64 code]∧g 5=t) fun _=>[]) (ovr [10,21,5] g noFr))++(((exC (T:=Value) (fun t g=>g 10=.tuple #[t,.int .i64 tot,.int .i64 code]) fun _=>[]) (ovr [10] g noFr))++(((.blk b (hoC u0 u1 u2 u3 u4 u5 cap vl bm)::linM bm ml::(lnR pl++S))++[])++[.own t 55 2 (rs.map prI)]))) w:=hw2.perm perm4
 obtain⟨t2,⟨ht2,ht3⟩,hw4⟩:=exC_open hw3
 have ht2:g 10=.tuple #[t2,.int .i64 tot,.int .i64 code]:=ht2
 have ht3:g 5=t2:=ht3
 obtain rfl:t2=t:=by
  have:=ht2.symm.trans ht
  simp at this
  exact this
 rw[List.nil_append]at hw4;obtain⟨-,-,hw5⟩:=exC_open hw4
 clear hw hw1 hw2 hw3 hw4;rw[List.append_nil,List.nil_append]at hw5;have hw:Wd Γ ([.own t2 55 2 (rs.map prI)]++(.blk b (hoC u0 u1 u2 u3 u4 u5 cap vl bm)::linM bm ml::(lnR pl++S))) w:=hw5.perm List.perm_append_comm
 clear hw5;refine W_has (l:=[(0,.pointer (some ⟨b,0,none⟩)),(1,v),(5,t2),(7,.int .i64 code)]) ⟨rfl,rfl,ht3,rfl,trivial⟩ fun ρ hρ=>?_
 clear ht ht2 ht3;rw[hρ.eq];clear hρ;have hw:Wd Γ (.own t2 55 2 (rs.map prI)::.blk b (hoC u0 u1 u2 u3 u4 u5 cap vl bm)::linM bm ml::(lnR pl++S)) w:=hw
 obtain⟨ar,nr,cr,rfl,hnr,hncr,-⟩:=hw.own_shape (i:=0) rfl
 simp only[List.length_map]at hnr
 refine byG ?_;refine W_cond rfl (fun h=>?_) (fun h=>?_)
 ·have h:code≠0:=of_decide_eq_true h
  refine byG ?_;exact⟨_,rfl,rfl,fun _=>hw.drop,fun e=>absurd e h⟩
 have hc:code=0:=by have:=of_decide_eq_false h;simpa using this
 clear h;have hirq:=hi hc
 have hlen:rs.length=pl.length:=by have:=congrArg List.length hirq;simpa[lsO] using this
 refine byG ?_;obtain⟨al,nl,cl,rfl,-,-,-⟩:=hr.shape;refine lStore ?_;intro w hw;have hw:Wd Γ (.own (.slice ar nr cr) 55 2 (rs.map prI)::.blk b (hoC u0 u1 u2 u3 u4 u5 cap (.slice al nl cl) bm)::linM bm ml::(lnR (recP (pl.take 0) (rs.take 0)++pl.drop 0)++S)) w:=hw
 refine byG ?_;refine W_loop (fun μ ρ w=>∃(i:Nat),μ+i=nr∧Has ρ [(0,.pointer (some ⟨b,0,none⟩)),(31,.slice ar nr cr),(32,.int .i64 nr),(33,.int .i64 i)]∧Wd Γ (.own (.slice ar nr cr) 55 2 (rs.map prI)::.blk b (hoC u0 u1 u2 u3 u4 u5 cap (.slice al nl cl) bm)::linM bm ml::(lnR (recP (pl.take i) (rs.take i)++pl.drop i)++S)) w) nr ⟨0,by omega,⟨rfl,rfl,rfl,rfl,trivial⟩,hw⟩ ?_
 clear hw;rintro μ ρ w ⟨i,hμ,hρ,hw⟩
 rw[hρ.eq];clear hρ;refine byG ?_;refine W_cond rfl (fun h=>?_) (fun h=>?_)
 ·have hin:i<nr:=by have:=of_decide_eq_true h;omega
  clear h;obtain⟨⟨bk,x⟩,hx⟩:=get_lt (l:=pl) (k:=i) (by omega)
  obtain⟨⟨r1,r2⟩,hrr⟩:=get_lt (l:=rs) (k:=i) (by omega)
  have hrow:(rs.map prI)[i]? = some (prI (r1,r2)):=by rw[List.getElem?_map,hrr];rfl
  obtain rfl:r1=x.IRQ:=by
   have h1:=congrArg (fun l=>l[i]?) hirq
   unfold lsO at h1;simp only[List.getElem?_map,hrr,hx,Option.map_some,Option.some.injEq]at h1
   exact h1
  rw[drop_at hx]at hw;have hw:=ln_open (R:=[_,_,_]) hw
  have hw:Wd Γ (lnC (bk,x)::.own (.slice ar nr cr) 55 2 (rs.map prI)::.blk b (hoC u0 u1 u2 u3 u4 u5 cap (.slice al nl cl) bm)::linM bm ml::(lnR (recP (pl.take i) (rs.take i)++pl.drop (i+1))++S)) w:=hw
  refine byG ?_;refine lAlloc ?_;intro b9 w hw;refine lStore ?_;intro w hw;have hw:Wd Γ (.blk b9 (.cells (prI (x.IRQ,r2)).toArray 55)::lnC (bk,x)::.own (.slice ar nr cr) 55 2 (rs.map prI)::.blk b (hoC u0 u1 u2 u3 u4 u5 cap (.slice al nl cl) bm)::linM bm ml::(lnR (recP (pl.take i) (rs.take i)++pl.drop (i+1))++S)) w:=hw
  have hw:Wd Γ ([.blk b9 (.cells (prI (x.IRQ,r2)).toArray 55),.blk b (hoC u0 u1 u2 u3 u4 u5 cap (.slice al nl cl) bm),linM bm ml]++(lnC (bk,x)::.own (.slice ar nr cr) 55 2 (rs.map prI)::(lnR (recP (pl.take i) (rs.take i)++pl.drop (i+1))++S))) w:=hw.ps [4,4,2]
  refine byG ?_;refine W_mix1 [.blk b9 (.cells (prI (x.IRQ,r2)).toArray 55),.blk b (hoC u0 u1 u2 u3 u4 u5 cap (.slice al nl cl) bm),linM bm ml] (lnC (bk,x)::.own (.slice ar nr cr) 55 2 (rs.map prI)::(lnR (recP (pl.take i) (rs.take i)++pl.drop (i+1))++S)) [[],[],[],[],[],[],[],[],[],[],[],[],[0]] [[],[],[],[],[],[],[],[],[],[],[],[],[0]] hw ?_
  refine byM ?_;refine mY (v:=.pointer (some ⟨bk,0,none⟩)) ?_ (hy:=fun Y w g hw=>y_lookup_some (f:=ptrV) hw rfl rfl (i:=2) rfl (hO.at hx) false)
  refine byM ?_;refine mStoreC (c:=0) (j:=0) ?_
  refine mEnd fun w g hw=>?_
  have hw:Wd Γ ([.blk b9 (.cells (prI (x.IRQ,r2)).toArray 55),.blk b (hoC u0 u1 u2 u3 u4 u5 cap (.slice al nl cl) bm),linM bm ml]++((lnC (bk,{ x with Core:=r2 })::.own (.slice ar nr cr) 55 2 (rs.map prI)::(lnR (recP (pl.take i) (rs.take i)++pl.drop (i+1))++S))++[])) w:=hw
  rw[List.append_nil]at hw;have hw:Wd Γ (lnC (bk,{ x with Core:=r2 })::([.own (.slice ar nr cr) 55 2 (rs.map prI),.blk b (hoC u0 u1 u2 u3 u4 u5 cap (.slice al nl cl) bm),linM bm ml]++(lnR (recP (pl.take i) (rs.take i)++pl.drop (i+1))++S))) w:=(hw.ps [2,2,4,4]).ds [4]
  have hw:=ln_close (R:=[_,_,_]) hw
  rw[recP_step hx hrr]at hw;refine byG ?_;exact⟨μ-1,by omega,i+1,by omega,⟨rfl,rfl,rfl,rfl,trivial⟩,hw⟩
 have hin:nr≤i:=by have:=of_decide_eq_false h;omega
 rw[List.take_of_length_le (by omega),List.take_of_length_le (by omega),List.drop_of_length_le (by omega),List.append_nil]at hw
 refine byG ?_;exact⟨_,rfl,by rw[hc];rfl,fun e=>absurd hc e,fun _=>hw.drop⟩
theorem HoOk.recd(hO:HoOk ml pl){rs:List (Int×Int)}(h:rs.map (·.1)=(lsO pl).map (·.IRQ)):HoOk ml (recP pl rs):=hO.of (kM_rec h)
end
end Go.Proofs.YthgighljhoneeaaGreat
end
section
open Go
namespace Mk
attribute [local irreducible] Calls
section
variable {P:Program}{n:Nat}{ops:List Oper}{Γ:Gho}{K:List Res}{wr tc stab:List (List Nat)}{Q:Fr→World→Prop}{i:Nat}{rest:List Oper}{ρ:Fr}{M:Nat→Fr→List Res}
variable {ty:TypeId}{pos:String}{es:Array Edge}
theorem mNewP{c dd f sz:Nat}{E:TypeId}{rows:List (List Value)}{args:List Operand}{tys:Array TypeId}{u:Value}[FnOk P f](hcall:∀S w,Wd Γ S w→Calls P f #[u] w fun e w'=>∃v',e=.returned v'∧Wd Γ (.own v' E sz rows::S) w')
  (h:MSw (mV P n ops Γ K wr tc stab) Q (i+1) rest ⟨putO ρ (some dd) undef,setC M c fun g=>[.own (g dd) E sz rows]⟩)
  (ht:tc.getD i []=[c]:=by exact rfl) (hM:M c=(fun _=>[]):=by exact rfl) (hs:(stab.getD c []).contains dd=true:=by exact rfl) (hfr:freeD stab (some dd)=true:=by exact rfl) (hw0:wr.getD i []=[c]:=by exact rfl) (ha:∀g,EvL (ovr stab.flatten g ρ) args [u]:=by intro g;exact byEV) :
  MSw (mV P n ops Γ K wr tc stab) Q i (⟨some dd,.call { callee:=.value (.func f),args:=args.toArray,argTypes:=tys },ty,pos,es,none⟩::rest) ⟨ρ,M⟩:=by
 refine mM (v:=undef) _ (fun Y w g hw=>?_) h hw0 rfl
 rw[cells1 ht,hM]at hw;refine s_call (ha g).eqA ((hcall _ _ hw).mono fun e w' ⟨u',h1,h2⟩=>⟨u',h1,?_,fun hh=>by rw[hfr]at hh;cases hh⟩)
 rw[cells1 ht,setC_self];have h3:ovr (stab.getD c []) (putO g (some dd) u') noFr dd=u':=by
  rw[ovr_in (by simpa using hs)];exact upd_same _ _ _
 rw[h3];exact Wd.unmid h2
end
end Mk
end
section
open Go Mk
namespace Go.Proofs.YthgighljhoneeaaGreat
set_option maxHeartbeats 64000000
attribute [local irreducible] Calls
attribute [local irreducible] matL
section
variable {c:Int}{V:List Int}{ml:List (Int×Nat)}{pl:List LnT}
def relV(c:Int)(V:List Int)(x:IntrT):IntrT:=if x.IRQ∈V then relF c x else x
theorem relV_irq(x:IntrT):(relV c V x).IRQ=x.IRQ:=by unfold relV;split <;> simp only[relF_irq]
theorem setP_rel{irq:Int}(h:irq∉V)(pl:List LnT):setP (mapP (relV c V) pl) irq (relF c)=mapP (relV c (V++[irq])) pl:=by
 unfold setP mapP;rw[List.map_map];refine List.map_congr_left fun p _=>?_
 simp only[Function.comp,relV_irq]
 by_cases e:p.2.IRQ=irq
 ·rw[if_pos e];unfold relV;rw[if_neg (by rw[e];exact h),if_pos (by rw[e];simp)]
 ·rw[if_neg e];unfold relV;by_cases e2:p.2.IRQ∈V
  ·rw[if_pos e2,if_pos (by simp[e2])]
  ·rw[if_neg e2,if_neg (by simp[e2,e])]
theorem relV_nil(pl:List LnT):mapP (relV c []) pl=pl:=by
 unfold mapP relV;refine(List.map_congr_left fun p _=>?_).trans (List.map_id pl)
 simp
theorem relV_all(hO:HoOk ml pl)(h:∀x,x∈ml.map (·.1)→x∈V):mapP (relV c V) pl=mapP (relF c) pl:=by
 unfold mapP;refine List.map_congr_left fun p hp=>?_
 unfold relV;rw[if_pos];refine h _ ?_
 have h1:(p.2.IRQ,p.1)∈kM pl:=List.mem_map.2 ⟨p,hp,rfl⟩
 exact List.mem_map.2 ⟨_,(hO.perm.mem_iff).2 h1,rfl⟩
theorem HoOk.rel(hO:HoOk ml pl):HoOk ml (mapP (relV c V) pl):=hO.of (kM_mapP relV_irq pl)
theorem HoOk.relA(hO:HoOk ml pl):HoOk ml (mapP (relF c) pl):=hO.of (kM_mapP (relF_irq c) pl)
theorem keys_inj{l:List (Int×Nat)}(hn:(l.map (·.1)).Nodup){idx:List Nat}{i:Nat}{p:Int×Nat}(hp:l[i]? = some p)(hlt:∀j∈idx,j<l.length)(hi:i∉idx):p.1∉idx.map fun j=>((l.map (·.1)).getD j default):=by
 intro hm;obtain⟨j,hj,e⟩:=List.mem_map.1 hm
 have hjl:=hlt j hj
 have h1:(l.map (·.1))[i]? = some p.1:=by rw[List.getElem?_map,hp];rfl
 have h2:(l.map (·.1))[j]? = some p.1:=by
  rw[List.getElem?_eq_getElem (by rw[List.length_map];exact hjl)]
  rw[←e,List.getD_eq_getElem?_getD,List.getElem?_eq_getElem (by rw[List.length_map];exact hjl)];rfl
 have:=(List.getElem?_inj (by rw[List.length_map];exact hjl) hn).1 (h2.trans h1.symm)
 exact hi (this ▸ hj)
end
section
variable {Γ:Gho}{S:List Res}{w:World}{b bm:Nat}{u0 u1 u2 u3 u4 u5 vl:Value}{cap:Int}{ml:List (Int×Nat)}{pl:List LnT}{H:HwT}{L:List Int}
theorem Join_any(hO:HoOk ml pl)(hN:pl.length≤1000)[hh:HwR Γ (Value.agg #[u0,u1,u2,u3,u4,u5]) H](hc:CapOk H cap)(hD:H.Devs.length≤1000)(hl:RepS Γ vl 1 (intRows L))(hS:DSt H cap L (lsO pl))(c:Int)(hw:Wd Γ (.blk b (hoC u0 u1 u2 u3 u4 u5 cap vl bm)::linM bm ml::(lnR pl++S)) w) :
  Calls Tryz.prog 37 #[.pointer (some ⟨b,0,none⟩),.int .i64 c] w fun e w'=>∃(Γ':Gho) (vl':Value) (pl':List LnT),Γ.le Γ'∧e=.returned (.int .i64 (joinS H cap L (lsO pl) c).2.2.2)∧HoOk ml pl'∧lsO pl'=(joinS H cap L (lsO pl) c).2.1∧RepS Γ' vl' 1 (intRows (joinS H cap L (lsO pl) c).1)∧Wd Γ' (.blk b (hoC u0 u1 u2 u3 u4 u5 cap vl' bm)::linM bm ml::(lnR pl'++S)) w':=by
 have hh':=hh
 obtain⟨a1,n1,c1,a2,n2,c2,a3,n3,c3,a4,n4,c4,a5,n5,c5,cs',hu,hcs,hok,hsz,r1,r2,r3,r4,r5⟩:=hh.h;simp only[Value.agg.injEq,Array.mk.injEq,List.cons.injEq,and_true]at hu
 obtain⟨-,rfl,-,-,-,-⟩:=hu;have hll:=hS.ln hc.v
 refine calls_of_W Tryz.func37 rfl rfl ?_
 refine byG ?_;refine lBox ?_;intro b3 w hw;have hw:Wd Γ (.blk b3 (.cells #[.int .i64 c] 3)::.blk b (hoC u0 (.slice a1 n1 c1) u2 u3 u4 u5 cap vl bm)::linM bm ml::(lnR pl++S)) w:=hw
 refine byG ?_;refine lCall (vs:=[.slice a1 n1 c1,.func (.func 64) #[] #[.pointer (some ⟨b3,0,none⟩)]]) ((ContainsFunc_any (fun x=>decide (x.ID=c)) 64 [] [.pointer (some ⟨b3,0,none⟩)] (RepS.rdS r1) (fun x w hw=>join1_any x (i:=0) rfl hw) hw).mono fun e w hq=>?_)
 clear hw;obtain⟨rfl,hw⟩:=hq;refine⟨_,rfl,?_⟩;rw[any_find];refine byG ?_;refine W_cond rfl (fun h=>?_) (fun h=>?_)
 ·have h:(findC H.Cores c).2=false:=by simpa using h
  have e1:joinS H cap L (lsO pl) c=(L,lsO pl,[],57):=by unfold joinS;rw[if_pos h]
  refine byG ?_;exact⟨_,rfl,Γ,vl,pl,.refl _,by rw[e1];rfl,hO,by rw[e1],by rw[e1];exact hl,hw.drop⟩
 have hf:(findC H.Cores c).2=true:=by simpa using h
 clear h;haveI hlc:SlC Γ vl 1 (intRows L):=⟨hl⟩
 obtain⟨al,nl,cl,rfl,hnl,hncl,hccl⟩:=hl.shape;have hnl:nl=L.length:=by simpa[intRows] using hnl
 refine byG ?_;refine W_quiet (by kernel_rfl) (by kernel_rfl) hw ?_
 refine byQ ?_;intro w hw;refine byG ?_;refine W_cond rfl (fun h=>?_) (fun h=>?_)
 ·have h:c∈L:=by simpa[memI] using h
  have e1:joinS H cap L (lsO pl) c=(L,lsO pl,[],56):=by unfold joinS;rw[if_neg (by rw[hf];decide),if_pos h]
  refine byG ?_;exact⟨_,rfl,Γ,_,pl,.refl _,by rw[e1];rfl,hO,by rw[e1],by rw[e1];exact hl,hw.drop⟩
 have hnc:c∉L:=fun hm=>by
  have:=List.any_eq_false.1 h c hm
  simp at this
 clear h;obtain⟨g1,g2,tot,g3⟩:=hS.addPost hc hf hnc
 have e1:joinS H cap L (lsO pl) c=(addL L c,recI (lsO pl) (rtS H (addL L c) cap),[],0):=by unfold joinS;rw[if_neg (by rw[hf];decide),if_neg hnc]
 have hll2:(addL L c).length=L.length+1:=by rw[(addL_perm L c).length_eq,List.length_append];rfl
 refine byG ?_;refine W_mixE 2 [[],[],[],[],[0],[],[1],[0],[0]] [[],[],[],[],[0],[],[1],[0,1],[0]] [[28,31,6],[30]] ?_
 refine byM ?_;refine mNewP (rows:=intRows L) (E:=3) (sz:=1) (fun S w hw=>cloneI_any hl (by omega) hw) ?_
 refine mY (v:=.int .i64 c) ?_ (hy:=fun Y w g hw=>y_l1b (i:=0) hw rfl rfl rfl)
 refine mBuild (cells:=[.int .i64 c]) [[.int .i64 c]] ?_
 refine mAppOwn2 (rows2:=[[.int .i64 c]]) ?_ (List.all_eq_true.1 rfl) (hb:=by rw[intRows_ln];simp;omega) (h63:=by rw[intRows_ln];simp;omega)
 refine mAssV ?_
 refine mEnd fun w g hw=>?_
 have hw:=hw.perm List.perm_append_comm
 have hw:Wd Γ (.own (g 6) 3 1 (intRows (L++[c]))::.own (g 30) 3 1 [[.int .i64 c]]::.blk b3 (.cells #[.int .i64 c] 3)::.blk b (hoC u0 (.slice a1 n1 c1) u2 u3 u4 u5 cap (.slice al nl cl) bm)::linM bm ml::(lnR pl++S)) w:=by rw[intRows_snoc];exact hw
 obtain⟨a6,n6,c6,e6,hn6,hnc6,hc6⟩:=hw.own_shape (i:=0) rfl
 rw[e6]at hw;have hw:=hw.dropAt 1
 have hw:Wd Γ (.own (.slice a6 n6 c6) 3 1 (intRows (L++[c]))::.blk b3 (.cells #[.int .i64 c] 3)::.blk b (hoC u0 (.slice a1 n1 c1) u2 u3 u4 u5 cap (.slice al nl cl) bm)::linM bm ml::(lnR pl++S)) w:=hw
 refine W_has (l:=[(0,.pointer (some ⟨b,0,none⟩)),(6,.slice a6 n6 c6)]) ⟨rfl,e6,trivial⟩ fun ρ hρ=>?_
 rw[hρ.eq];clear hρ;refine byG ?_;refine lCall ((Sort_int lay_sorti (L++[c]) _ (i:=0) hw rfl (by rw[List.length_append];simp;omega)).mono fun e w hq=>?_)
 clear hw;obtain⟨rfl,hw⟩:=hq;refine⟨_,rfl,?_⟩;have hw1:Wd Γ (.own (.slice a6 n6 c6) 3 1 (intRows (addL L c))::.blk b3 (.cells #[.int .i64 c] 3)::.blk b (hoC u0 (.slice a1 n1 c1) u2 u3 u4 u5 cap (.slice al nl cl) bm)::linM bm ml::(lnR pl++S)) w:=hw
 clear hw;obtain⟨Γ1,hle1,rl1,hw2⟩:=hw1.freeze;clear hw1;have hw:=hw2.drop
 clear hw2;refine byG ?_;refine lCall ((route_any hO hN (hh:=hh'.mono hle1) (fun _=>live_subD.2) rl1 (by omega) (Nat.le_trans live_subD.1 (by omega)) hD g3 (fun _=>by rw[(rt_facts g3).1,hS.irq]) hw).mono fun e w hq=>?_)
 clear hw;obtain⟨rfl,-,hw⟩:=hq;have hw:=hw rfl
 refine⟨_,rfl,?_⟩;refine byG ?_;exact⟨_,rfl,Γ1,_,recP pl (rtS H (addL L c) cap),hle1,by rw[e1];rfl,hO.recd (by rw[(rt_facts g3).1,hS.irq]),by rw[e1,lsO_rec],by rw[e1];exact rl1,hw⟩
theorem Depart_any(hO:HoOk ml pl)(hN:pl.length≤1000)[hh:HwR Γ (Value.agg #[u0,u1,u2,u3,u4,u5]) H](hc:CapOk H cap)(hD:H.Devs.length≤1000)(hl:RepS Γ vl 1 (intRows L))(hS:DSt H cap L (lsO pl))(c:Int)(hw:Wd Γ (.blk b (hoC u0 u1 u2 u3 u4 u5 cap vl bm)::linM bm ml::(lnR pl++S)) w) :
  Calls Tryz.prog 39 #[.pointer (some ⟨b,0,none⟩),.int .i64 c] w fun e w'=>∃(Γ':Gho) (v vl':Value) (pl':List LnT),Γ.le Γ'∧e=.returned (.tuple #[v,.int .i64 (depS H cap L (lsO pl) c).2.2.2])∧HoOk ml pl'∧lsO pl'=(depS H cap L (lsO pl) c).2.1∧RepS Γ' vl' 1 (intRows (depS H cap L (lsO pl) c).1)∧Wd Γ' (.own v 62 3 ((depS H cap L (lsO pl) c).2.2.1.map enc)::.blk b (hoC u0 u1 u2 u3 u4 u5 cap vl' bm)::linM bm ml::(lnR pl'++S)) w':=by
 have hll:=hS.ln hc.v
 refine calls_of_W Tryz.func39 rfl rfl ?_
 obtain⟨al,nl,cl,rfl,hnl,hncl,hccl⟩:=hl.shape;refine byG ?_;refine lCall ((IndexI_any (RepS.rdS hl) c hw).mono fun e w hq=>?_)
 clear hw;obtain⟨rfl,hw⟩:=hq;refine⟨_,rfl,?_⟩;rcases ixI_cases L c with⟨hnc,hix⟩|⟨k,hix,hk⟩
 ·have e1:depS H cap L (lsO pl) c=(L,lsO pl,[],10):=by unfold depS;rw[if_pos hnc]
  rw[hix];refine byG ?_;refine W_cond_true rfl ?_
  refine byG ?_;exact⟨_,rfl,Γ,_,_,pl,.refl _,by rw[e1];rfl,hO,by rw[e1],by rw[e1];exact hl,by rw[e1];exact Wd.addNil hw⟩
 have hkl:=(List.getElem?_eq_some_iff.1 hk).1
 have hin:c∈L:=List.mem_of_getElem? hk
 have hcut:L.eraseIdx k=cutL L c:=erase_filter (strict_nodup hS.live) hk
 rw[hix];refine byG ?_;refine W_cond_false (by simp[ev,putO,upd]) ?_
 refine byG ?_;refine lCall ((cloneI_any hl (by omega) hw).mono fun e w hq=>?_)
 clear hw;obtain⟨v1,rfl,hw⟩:=hq;refine⟨_,rfl,?_⟩;obtain⟨aw,nw,cw,rfl,-,-,-⟩:=hw.own_shape (i:=0) rfl
 refine byG ?_;rw[show ((k:Int)+1)=((k+1:Nat):Int) from by push_cast;rfl]
 refine lCall ((DeleteI_any k hw hkl (by omega)).mono fun e w hq=>?_)
 clear hw;obtain⟨v2,rfl,hw⟩:=hq;refine⟨_,rfl,?_⟩;rw[hcut]at hw;obtain⟨ax,nx,cx,rfl,-,-,-⟩:=hw.own_shape (i:=0) rfl
 have hw1:=hw
 clear hw;obtain⟨Γ1,hle1,rl1,hw⟩:=hw1.freeze;clear hw1;have hcl:(cutL L c).length≤32:=by
  refine Nat.le_trans ?_ hll
  unfold cutL;exact List.length_filter_le _ _
 refine byG ?_;by_cases h0:cutL L c=[]
 ·have e1:depS H cap L (lsO pl) c=(L,lsO pl,[],64):=by unfold depS;rw[if_neg (fun e=>e hin),if_pos h0]
  obtain⟨rs,tot,code,hip⟩:=intPost_ex H (cutL L c) cap
  obtain⟨-,-,rfl⟩:rs=[]∧tot=0∧code=64:=by rw[h0]at hip;exact rt_none hc hip
  refine lCall ((route_any hO hN (hh:=hh.mono hle1) (fun _=>live_subD.2) rl1 (by omega) (Nat.le_trans live_subD.1 (by omega)) hD hip (fun e=>by cases e) hw).mono fun e w hq=>?_)
  clear hw;obtain⟨rfl,hw,-⟩:=hq;have hw:=hw (by decide)
  refine⟨_,rfl,?_⟩;refine byG ?_;refine W_cond_true rfl ?_
  refine byG ?_;exact⟨_,rfl,Γ1,_,_,pl,hle1,by rw[e1];rfl,hO,by rw[e1],by rw[e1];exact hl.mono hle1,by rw[e1];exact Wd.addNil hw⟩
 have e1:depS H cap L (lsO pl) c=(cutL L c,delS ((recI (lsO pl) (rtS H (cutL L c) cap)).map (relF c))):=by unfold depS;rw[if_neg (fun e=>e hin),if_neg h0]
 obtain⟨tot,g3⟩:=hS.cutPost hc h0
 have hirq:(rtS H (cutL L c) cap).map (·.1)=(lsO pl).map (·.IRQ):=by rw[(rt_facts g3).1,hS.irq]
 refine lCall ((route_any hO hN (hh:=hh.mono hle1) (fun _=>live_subD.2) rl1 (by omega) (Nat.le_trans live_subD.1 (by omega)) hD g3 (fun _=>hirq) hw).mono fun e w hq=>?_)
 clear hw;obtain⟨rfl,-,hw⟩:=hq;have hw:=hw rfl
 refine⟨_,rfl,?_⟩;have hO1:HoOk ml (recP pl (rtS H (cutL L c) cap)):=hO.recd hirq
 have hN1:(recP pl (rtS H (cutL L c) cap)).length≤1000:=by rw[←hO1.len,hO.len];exact hN
 have els:lsO (recP pl (rtS H (cutL L c) cap))=recI (lsO pl) (rtS H (cutL L c) cap):=lsO_rec _ _
 rw[←els]at e1;generalize recP pl (rtS H (cutL L c) cap)=pm at *
 clear hO hN els;refine byG ?_;refine W_cond_false rfl ?_
 refine byG ?_;have hw:=hw.ps [1]
 obtain⟨en,clock,hw,he,hb,hclk⟩:=Wd.openMp hw
 have hsz:en.size=ml.length:=by have:=congrArg List.length he;simpa using this
 have hw:Wd Γ1 (.blk bm (.map en clock)::.blk b (hoC u0 u1 u2 u3 u4 u5 cap (.slice ax nx cx) bm)::(lnR pm++S)) w:=hw
 refine lRange ?_;intro r w hw;refine byG ?_;refine W_loop (fun μ ρ w=>∃(seen:Array Nat) (idx:List Nat) (c0:Nat),Seen en seen idx∧μ+idx.length=ml.length∧clock≤c0∧Has ρ [(0,.pointer (some ⟨b,0,none⟩)),(1,.int .i64 c),(36,.pointer (some ⟨r,0,none⟩))]∧Wd Γ1 (.blk r (.mapIter (some bm) clock seen c0)::.blk bm (.map en clock)::.blk b (hoC u0 u1 u2 u3 u4 u5 cap (.slice ax nx cx) bm)::(lnR (mapP (relV c (idx.map fun i=>((ml.map (·.1)).getD i default))) pm)++S)) w) ml.length ⟨#[],[],clock,Seen.nil,rfl,Nat.le_refl _,⟨rfl,rfl,rfl,trivial⟩,by rw[show (([]:List Nat).map fun i=>((ml.map (·.1)).getD i default))=[] from rfl,relV_nil];exact hw⟩ ?_
 clear hw;rintro μ ρ w ⟨seen,idx,c0,hseen,hμ,hc0,hρ,hw⟩
 rw[hρ.eq];clear hρ;refine byG ?_;refine lNext (fun h0=>?_) (fun e w hmem hw=>?_) hclk hc0
 ·have hp:=hseen.all hb h0
  have hall:mapP (relV c (idx.map fun i=>((ml.map (·.1)).getD i default))) pm=mapP (relF c) pm:=relV_all hO1 fun x hx=>by
   have h1:=hp.map fun i=>((ml.map (·.1)).getD i default)
   rw[hsz,show ml.length=(ml.map (·.1)).length by rw[List.length_map],keys_range]at h1
   exact(h1.mem_iff).2 hx
  rw[hall]at hw;have hw:=hw.drop
  have hw:=Wd.closeMp hw he hb hclk
  have hw:Wd Γ1 (.blk b (hoC u0 u1 u2 u3 u4 u5 cap (.slice ax nx cx) bm)::linM bm ml::(lnR (mapP (relF c) pm)++S)) w:=hw.ps [1]
  refine byG ?_;refine W_cond_false rfl ?_
  refine byG ?_;refine lCall ((deliver_any hO1.relA (by unfold mapP;rw[List.length_map];exact hN1) hw).mono fun e w hq=>?_)
  clear hw;obtain⟨v,rfl,hw⟩:=hq;refine⟨_,rfl,?_⟩;rw[lsO_mapP]at hw;refine byG ?_;exact⟨_,rfl,Γ1,v,_,mapP dlvX (mapP (relF c) pm),hle1,by rw[e1];rfl,hO1.relA.dlv,by rw[e1,lsO_dlv,lsO_mapP];rfl,by rw[e1];exact rl1,by rw[e1];exact hw⟩
 ·obtain⟨i,hie,hini,hil,hseen'⟩:=hseen.next hmem
  have hem:e∈en.toList:=(left_mem.1 hmem).1
  obtain⟨⟨irq,bk'⟩,hlx⟩:=get_lt (l:=ml) (k:=i) (by omega)
  have hev:e.val=.pointer (some ⟨bk',0,none⟩):=by
   have h1:(en.toList.map (fun e=>(e.key,e.val)))[i]? = some (e.key,e.val):=by rw[List.getElem?_map,Array.getElem?_toList,hie];rfl
   rw[he,List.getElem?_map,hlx]at h1;simp at h1
   exact h1.2.symm
  have hlen:=hseen'.len
  have hni:irq∉(idx.map fun i=>((ml.map (·.1)).getD i default)):=keys_inj (p:=(irq,bk')) hO1.nodup hlx (fun j hj=>by have:=hseen.lt j hj;omega) hini
  have hOV:HoOk ml (mapP (relV c (idx.map fun i=>((ml.map (·.1)).getD i default))) pm):=hO1.rel
  have hga:aGet ml irq=some bk':=aGet_of_mem hO1.nodup (List.mem_of_getElem? hlx)
  obtain⟨k2,bk,x,hx,hirq2,-,ha,hs⟩|⟨-,ha⟩:=hOV.get irq
  rotate_left
  ·rw[hga]at ha;cases ha
  obtain rfl:bk=bk':=by rw[hga]at ha;exact(Option.some.inj ha).symm
  have hsR:=setP_rel (c:=c) hni pm
  have hkv:(idx.map fun i=>((ml.map (·.1)).getD i default))++[irq]=((idx++[i]).map fun i=>((ml.map (·.1)).getD i default)):=by
   rw[List.map_append,List.map_singleton];congr 2
   rw[List.getD_eq_getElem?_getD,List.getElem?_map,hlx];rfl
  rw[hkv]at hsR;have hs2:=hs (relF c)
  rw[hsR]at hs2;clear hsR hs;rw[pl_split hx]at hw;have hw:=ln_open (R:=[_,_,_]) hw
  generalize (mapP (relV c (idx.map fun i=>((ml.map (·.1)).getD i default))) pm).take k2=A at *
  generalize (mapP (relV c (idx.map fun i=>((ml.map (·.1)).getD i default))) pm).drop (k2+1)=B at *
  have hw:Wd Γ1 (lnC (bk,x)::.blk r (.mapIter (some bm) clock (seen.push e.born) clock)::.blk bm (.map en clock)::.blk b (hoC u0 u1 u2 u3 u4 u5 cap (.slice ax nx cx) bm)::(lnR (A++B)++S)) w:=hw
  refine byG ?_;refine W_cond_true rfl ?_
  refine byG ?_;refine lEntry ?_ hem hb
  rw[hev];refine byG ?_;refine W_cond rfl (fun h=>?_) (fun h=>?_)
  ·have h:x.Serving=c:=of_decide_eq_true h
   have hrx:relF c x = { x with Serving:=-1,Pending:=true }:=by unfold relF;rw[if_pos h]
   refine byG ?_;refine lCall ((release_any hw).mono fun e w hq=>?_)
   clear hw;obtain⟨rfl,hw⟩:=hq;refine⟨_,rfl,?_⟩;rw[←hrx]at hw;have hw:=ln_close (R:=[.blk r (.mapIter (some bm) clock (seen.push e.born) clock),.blk bm (.map en clock),.blk b (hoC u0 u1 u2 u3 u4 u5 cap (.slice ax nx cx) bm)]) hw
   rw[←hs2]at hw;refine byG ?_;exact⟨μ-1,by simp at *;omega,_,_,clock,hseen',by simp at *;omega,Nat.le_refl _,⟨rfl,rfl,rfl,trivial⟩,hw⟩
  ·have h:¬x.Serving=c:=of_decide_eq_false h
   have hrx:relF c x=x:=by unfold relF;rw[if_neg h]
   rw[hrx]at hs2;have hw:=ln_close (R:=[.blk r (.mapIter (some bm) clock (seen.push e.born) clock),.blk bm (.map en clock),.blk b (hoC u0 u1 u2 u3 u4 u5 cap (.slice ax nx cx) bm)]) hw
   rw[←hs2]at hw;refine byG ?_;exact⟨μ-1,by simp at *;omega,_,_,clock,hseen',by simp at *;omega,Nat.le_refl _,⟨rfl,rfl,rfl,trivial⟩,hw⟩
end
section
variable {Γ:Gho}{S:List Res}{w:World}{r:Nat}{u0 u1 u2 u3 u4 u5 vl:Value}{cap:Int}{q:Option Addr}{m d:Nat}{ls:List IntrT}{L:List Int}{H:HwT}
theorem isLive_any{i:Nat}(hl:RepS Γ vl 1 (intRows L))(hN:L.length≤1000)(c:Int)(hi:S[i]? = some (.blk r (rfC u0 u1 u2 u3 u4 u5 vl cap q m d)))(hw:Wd Γ S w) :
  Calls Tryz.prog 69 #[.pointer (some ⟨r,0,none⟩),.int .i64 c] w fun e w'=>e=.returned (.bool (memI c L))∧Wd Γ S w':=by
 obtain⟨al,nl,cl,rfl,hnl,hncl,hccl⟩:=hl.shape;have hnl:nl=L.length:=by simpa[intRows] using hnl
 refine calls_of_W Tryz.func69 rfl rfl ?_
 refine byG ?_;refine W_loop (fun μ ρ w=>∃(k:Nat),μ+k=nl∧(∀i y,i<k→L[i]? = some y→decide (y=c)=false)∧Has ρ [(0,.pointer (some ⟨r,0,none⟩)),(1,.int .i64 c),(5,.int .i64 k)]∧Wd Γ S w) nl ⟨0,by omega,fun i y h=>absurd h (Nat.not_lt_zero i),⟨rfl,rfl,rfl,trivial⟩,hw⟩ ?_
 clear hw;rintro μ ρ w ⟨k,hμ,hno,hρ,hw⟩
 rw[hρ.eq];clear hρ;refine byG ?_;refine lY (v:=.slice al nl cl) ?_ (hy:=y_l1b (i:=i) hw rfl hi rfl)
 refine byG ?_;refine W_cond rfl (fun h=>?_) (fun h=>?_)
 ·have hk:k<nl:=by have:=of_decide_eq_true h;omega
  clear h;obtain⟨x,hx⟩:=get_lt (l:=L) (k:=k) (by omega)
  refine byG ?_;refine lY (v:=.slice al nl cl) ?_ (hy:=y_l1b (i:=i) hw rfl hi rfl)
  refine byG ?_;refine W_cond rfl (fun h=>?_) (fun h=>?_)
  ·have h:x=c:=of_decide_eq_true h
   subst h;refine byG ?_;exact⟨_,rfl,ret_b rfl (List.any_eq_true.2 ⟨x,List.mem_of_getElem? hx,decide_eq_true rfl⟩).symm,hw⟩
  ·refine byG ?_;refine⟨μ-1,by omega,k+1,by omega,fun i y hi hy=>?_,⟨rfl,rfl,rfl,trivial⟩,hw⟩
   by_cases e:i=k
   ·subst e;obtain rfl:x=y:=by rw[hx]at hy;exact Option.some.inj hy
    exact h
   ·exact hno i y (by omega) hy
 ·have hk:nl≤k:=by have:=of_decide_eq_false h;omega
  have hg:memI c L=false:=by
   unfold memI;rw[List.any_eq_false];intro y hy;obtain⟨i,hi⟩:=List.getElem?_of_mem hy
   have:=(List.getElem?_eq_some_iff.1 hi).1
   have:=hno i y (by omega) hi
   simp at this ⊢
   exact fun e=>this e.symm
  refine byG ?_;exact⟨_,rfl,ret_b rfl hg.symm,hw⟩
theorem rec_step{rs:List (Int×Int)}{i:Nat}{x:IntrT}{r:Int×Int}(hx:ls[i]? = some x)(hr:rs[i]? = some r):(recI (ls.take i) (rs.take i)++ls.drop i).set i { x with Core:=r.2 }=recI (ls.take (i+1)) (rs.take (i+1))++ls.drop (i+1):=by
 have h1:=(List.getElem?_eq_some_iff.1 hx).1
 have h2:=(List.getElem?_eq_some_iff.1 hr).1
 have hl:(recI (ls.take i) (rs.take i)).length=i:=by unfold recI;rw[List.length_map,List.length_zip,List.length_take,List.length_take];omega
 rw[List.set_append_right _ _ (by omega),hl,Nat.sub_self,drop_at hx,List.set_cons_zero,take_succ_of hx,take_succ_of hr]
 unfold recI;rw[List.zip_append (by rw[List.length_take,List.length_take];omega),List.map_append,List.append_assoc];rfl
theorem rec_at2{rs:List (Int×Int)}{i:Nat}{x:IntrT}(hx:ls[i]? = some x)(hi:i≤rs.length):(recI (ls.take i) (rs.take i)++ls.drop i)[i]? = some x:=by
 have h1:=(List.getElem?_eq_some_iff.1 hx).1
 have hl:(recI (ls.take i) (rs.take i)).length=i:=by unfold recI;rw[List.length_map,List.length_zip,List.length_take,List.length_take];omega
 rw[List.getElem?_append_right (by omega),hl,Nat.sub_self,List.getElem?_drop]
 simpa using hx
theorem rroute_any[hh:HwR Γ (Value.agg #[u0,u1,u2,u3,u4,u5]) H][hwd:WideH H](hN:ls.length≤1000){v:Value}{L:List Int}(hr:RepS Γ v 1 (intRows L))(hn:L.Nodup)(hL:L.length≤64)(hLe:HwLe H)(hDev:H.Devs.length≤1000){rs:List (Int×Int)}{tot code:Int}(hip:IntPost H L cap rs tot code)(hi:code=0→rs.map (·.1)=ls.map (·.IRQ))(hw:Wd Γ (.blk r (rfC u0 u1 u2 u3 u4 u5 vl cap q m d)::.own (.slice q m d) 46 6 (ls.map enc)::S) w) :
  Calls Tryz.prog 70 #[.pointer (some ⟨r,0,none⟩),v] w fun e w'=>e=.returned (.int .i64 code)∧(code≠0→Wd Γ (.blk r (rfC u0 u1 u2 u3 u4 u5 vl cap q m d)::.own (.slice q m d) 46 6 (ls.map enc)::S) w')∧(code=0→∃(Γ':Gho) (v':Value),Γ.le Γ'∧RepS Γ' v' 1 (intRows (sortZ L))∧Wd Γ' (.blk r (rfC u0 u1 u2 u3 u4 u5 v' cap q m d)::.own (.slice q m d) 46 6 ((recI ls rs).map enc)::S) w'):=by
 have hm:=own_len (i:=1) hw rfl
 simp only[List.length_map]at hm
 refine calls_of_W Tryz.func70 rfl rfl ?_
 refine byG ?_;have hwm:Wd Γ ((.blk r (rfC u0 u1 u2 u3 u4 u5 vl cap q m d)::.own (.slice q m d) 46 6 (ls.map enc)::S)++[]) w:=by rw[List.append_nil];exact hw
 refine W_mixed (.blk r (rfC u0 u1 u2 u3 u4 u5 vl cap q m d)::.own (.slice q m d) 46 6 (ls.map enc)::S) [fun _=>[],fun _=>[],fun _=>[]] [[],[],[],[],[],[],[],[],[],[0],[0,1,2],[1],[],[],[1],[],[]] [[],[],[],[],[],[],[],[],[],[0],[0,1,2],[1],[2],[2],[1],[],[]] [[19,9],[9,20,5],[9]] hwm ?_
 clear hwm hw;refine byM ?_;refine mS (c:=0) (v:=undef) (F:=fun _=>[]) (exC (T:=Value) (fun t g=>g 19=.tuple #[t,.int .i64 tot,.int .i64 code]) fun t=>[.own t 55 2 (rs.map prI)]) (fun g w Y hw=>?_) ?_
 ·refine s_call (vs:=#[Value.agg #[u0,u1,u2,u3,u4,u5],v,.int .i64 cap]) ?_ ((rint_fix (hh:=hh) hip hr (by omega) (Nat.le_trans live_subD.1 (by omega)) hDev hLe hw).mono fun e w' hq=>?_)
  ·exact EvL.eqA (xs:=[.tmp 13,.tmp 14,.tmp 18]) (vs:=[Value.agg #[u0,u1,u2,u3,u4,u5],v,.int .i64 cap]) (EvL.cons (by rfl) (EvL.cons (by rfl) (EvL.cons (by rfl) EvL.nil)))
  obtain⟨t,rfl,hw2⟩:=hq;refine⟨_,rfl,fun h=>(by cases h),?_⟩
  exact exC_mk (T:=Value) (φ:=fun t g=>g 19=.tuple #[t,.int .i64 tot,.int .i64 code]) (R:=fun t=>[.own t 55 2 (rs.map prI)]) t rfl hw2
 refine mM3 (c:=0) (c2:=1) (c3:=2) (v:=undef) (exC (T:=Value) (fun t g=>g 9=.tuple #[t,.int .i64 tot,.int .i64 code]) fun t=>[.own t 55 2 (rs.map prI)]) (exC (T:=Value) (fun t g=>g 9=.tuple #[t,.int .i64 tot,.int .i64 code]) fun _=>[]) (exC (T:=Value) (fun t g=>g 9=.tuple #[t,.int .i64 tot,.int .i64 code]) fun _=>[]) (fun Y w g hw=>?_) ?_ rfl rfl
 ·have hw1:Wd Γ ((.blk r (rfC u0 u1 u2 u3 u4 u5 vl cap q m d)::.own (.slice q m d) 46 6 (ls.map enc)::S)++(((exC (T:=Value) (fun t g=>g 19=.tuple #[t,.int .i64 tot,.int .i64 code]) fun t=>[.own t 55 2 (rs.map prI)]) (ovr [19,9] g noFr))++([]++([]++[]))++Y)) w:=hw
  obtain⟨t,ht,hw2⟩:=exC_open (hw1.perm perm3.symm)
  have ht:g 19=.tuple #[t,.int .i64 tot,.int .i64 code]:=ht
  refine Yields.step (y_move (v:=.tuple #[t,.int .i64 tot,.int .i64 code]) ht) ⟨?_,fun h=>(by cases h)⟩
  have hw3:=exC_mk (T:=Value) (φ:=fun t g=>g 9=.tuple #[t,.int .i64 tot,.int .i64 code]) (R:=fun t=>[.own t 55 2 (rs.map prI)]) (g:=ovr [19,9] (putO g (some 9) (.tuple #[t,.int .i64 tot,.int .i64 code])) noFr) t rfl hw2
  have hw4:=hw3.perm List.perm_append_comm
  have hw5:=exC_mk (T:=Value) (φ:=fun t g=>g 9=.tuple #[t,.int .i64 tot,.int .i64 code]) (R:=fun _=>[]) (g:=ovr [9,20,5] (putO g (some 9) (.tuple #[t,.int .i64 tot,.int .i64 code])) noFr) t rfl hw4
  have hw6:=exC_mk (T:=Value) (φ:=fun t g=>g 9=.tuple #[t,.int .i64 tot,.int .i64 code]) (R:=fun _=>[]) (g:=ovr [9] (putO g (some 9) (.tuple #[t,.int .i64 tot,.int .i64 code])) noFr) t rfl hw5
  have hw7:Wd Γ (((exC (T:=Value) (fun t g=>g 9=.tuple #[t,.int .i64 tot,.int .i64 code]) fun _=>[]) (ovr [9] (putO g (some 9) (.tuple #[t,.int .i64 tot,.int .i64 code])) noFr))++(((exC (T:=Value) (fun t g=>g 9=.tuple #[t,.int .i64 tot,.int .i64 code]) fun _=>[]) (ovr [9,20,5] (putO g (some 9) (.tuple #[t,.int .i64 tot,.int .i64 code])) noFr))++(([]++([]++((.blk r (rfC u0 u1 u2 u3 u4 u5 vl cap q m d)::.own (.slice q m d) 46 6 (ls.map enc)::S)++Y)))++((exC (T:=Value) (fun t g=>g 9=.tuple #[t,.int .i64 tot,.int .i64 code]) fun t=>[.own t 55 2 (rs.map prI)]) (ovr [19,9] (putO g (some 9) (.tuple #[t,.int .i64 tot,.int .i64 code])) noFr))))) w:=hw6
  exact hw7.perm perm6
 refine mS (c:=1) (v:=undef) (F:=(exC (T:=Value) (fun t g=>g 9=.tuple #[t,.int .i64 tot,.int .i64 code]) fun _=>[])) (exC (T:=Value) (fun t g=>g 9=.tuple #[t,.int .i64 tot,.int .i64 code]∧g 20=t) fun _=>[]) (fun g w Y hw=>?_) ?_
 ·obtain⟨t,ht,hw1⟩:=exC_open hw
  have ht:g 9=.tuple #[t,.int .i64 tot,.int .i64 code]:=ht
  refine Yields.step (y_extract (v:=t) ht rfl) ⟨fun h=>(by cases h),?_⟩
  exact exC_mk (T:=Value) (φ:=fun t g=>g 9=.tuple #[t,.int .i64 tot,.int .i64 code]∧g 20=t) (R:=fun _=>[]) t ⟨ht,rfl⟩ hw1
 refine mC (v:=.int .i64 tot) (fun Y w g hw=>?_) rfl rfl rfl ?_
 ·have hw1:Wd Γ ((.blk r (rfC u0 u1 u2 u3 u4 u5 vl cap q m d)::.own (.slice q m d) 46 6 (ls.map enc)::S)++((((exC (T:=Value) (fun t g=>g 9=.tuple #[t,.int .i64 tot,.int .i64 code]) fun _=>[]) (ovr [9] g noFr))++[])++Y)) w:=hw
  obtain⟨t,ht,-⟩:=exC_open (hw1.perm perm1)
  exact Yields.step (y_extract (v:=.int .i64 tot) ht rfl) ⟨rfl,hw⟩
 refine mC (v:=.int .i64 code) (fun Y w g hw=>?_) rfl rfl rfl ?_
 ·have hw1:Wd Γ ((.blk r (rfC u0 u1 u2 u3 u4 u5 vl cap q m d)::.own (.slice q m d) 46 6 (ls.map enc)::S)++((((exC (T:=Value) (fun t g=>g 9=.tuple #[t,.int .i64 tot,.int .i64 code]) fun _=>[]) (ovr [9] g noFr))++[])++Y)) w:=hw
  obtain⟨t,ht,-⟩:=exC_open (hw1.perm perm1)
  exact Yields.step (y_extract (v:=.int .i64 code) ht rfl) ⟨rfl,hw⟩
 refine mS (c:=1) (v:=undef) (F:=(exC (T:=Value) (fun t g=>g 9=.tuple #[t,.int .i64 tot,.int .i64 code]∧g 20=t) fun _=>[])) (exC (T:=Value) (fun t g=>g 9=.tuple #[t,.int .i64 tot,.int .i64 code]∧g 5=t) fun _=>[]) (fun g w Y hw=>?_) ?_
 ·obtain⟨t,⟨ht,ht2⟩,hw1⟩:=exC_open hw
  have ht:g 9=.tuple #[t,.int .i64 tot,.int .i64 code]:=ht
  have ht2:g 20=t:=ht2
  refine Yields.step (y_assign (v:=t) ht2) ⟨fun h=>(by cases h),?_⟩
  exact exC_mk (T:=Value) (φ:=fun t g=>g 9=.tuple #[t,.int .i64 tot,.int .i64 code]∧g 5=t) (R:=fun _=>[]) t ⟨ht,rfl⟩ hw1
 refine byM ?_;refine mEnd fun w g hw=>?_
 have hw1:Wd Γ ((.blk r (rfC u0 u1 u2 u3 u4 u5 vl cap q m d)::.own (.slice q m d) 46 6 (ls.map enc)::S)++((((exC (T:=Value) (fun t g=>g 9=.tuple #[t,.int .i64 tot,.int .i64 code]) fun t=>[.own t 55 2 (rs.map prI)]) (ovr [19,9] g noFr))++(((exC (T:=Value) (fun t g=>g 9=.tuple #[t,.int .i64 tot,.int .i64 code]∧g 5=t) fun _=>[]) (ovr [9,20,5] g noFr))++(((exC (T:=Value) (fun t g=>g 9=.tuple #[t,.int .i64 tot,.int .i64 code]) fun _=>[]) (ovr [9] g noFr))++[])))++[])) w:=by rw[List.append_nil];exact hw
 obtain⟨t,ht,hw2⟩:=exC_open (hw1.perm perm3.symm)
 have ht:g 9=.tuple #[t,.int .i64 tot,.int .i64 code]:=ht
 have hw3:Wd Γ (((exC (T:=Value) (fun t g=>g 9=.tuple #[t,.int .i64 tot,.int .i64 code]∧g 5=t) fun _=>[]) (ovr [9,20,5] g noFr))++(((exC (T:=Value) (fun t g=>g 9=.tuple #[t,.int .i64 tot,.int .i64 code]) fun _=>[]) (ovr [9] g noFr))++(((.blk r (rfC u0 u1 u2 u3 u4 u5 vl cap q m d)::.own (.slice q m d) 46 6 (ls.map enc)::S)++[])++[.own t 55 2 (rs.map prI)]))) w:=hw2.perm perm4
 obtain⟨t2,⟨ht2,ht3⟩,hw4⟩:=exC_open hw3
 have ht2:g 9=.tuple #[t2,.int .i64 tot,.int .i64 code]:=ht2
 have ht3:g 5=t2:=ht3
 obtain rfl:t2=t:=by
  have:=ht2.symm.trans ht
  simp at this
  exact this
 rw[List.nil_append]at hw4;obtain⟨-,-,hw5⟩:=exC_open hw4
 clear hw hw1 hw2 hw3 hw4;rw[List.append_nil,List.nil_append]at hw5;have hw:Wd Γ ([.own t2 55 2 (rs.map prI)]++(.blk r (rfC u0 u1 u2 u3 u4 u5 vl cap q m d)::.own (.slice q m d) 46 6 (ls.map enc)::S)) w:=hw5.perm List.perm_append_comm
 clear hw5;refine W_has (l:=[(0,.pointer (some ⟨r,0,none⟩)),(1,v),(5,t2),(7,.int .i64 code)]) ⟨rfl,rfl,ht3,rfl,trivial⟩ fun ρ hρ=>?_
 clear ht ht2 ht3;rw[hρ.eq];clear hρ;have hw:Wd Γ (.own t2 55 2 (rs.map prI)::.blk r (rfC u0 u1 u2 u3 u4 u5 vl cap q m d)::.own (.slice q m d) 46 6 (ls.map enc)::S) w:=hw
 obtain⟨ar,nr,cr,rfl,hnr,hncr,-⟩:=hw.own_shape (i:=0) rfl
 simp only[List.length_map]at hnr
 refine byG ?_;refine W_cond rfl (fun h=>?_) (fun h=>?_)
 ·have h:code≠0:=of_decide_eq_true h
  refine byG ?_;exact⟨_,rfl,rfl,fun _=>hw.drop,fun e=>absurd e h⟩
 have hc:code=0:=by have:=of_decide_eq_false h;simpa using this
 clear h;have hirq:=hi hc
 have hlen:rs.length=ls.length:=rec_len hirq
 refine byG ?_;have hw:Wd Γ (.own (.slice ar nr cr) 55 2 (rs.map prI)::.blk r (rfC u0 u1 u2 u3 u4 u5 vl cap q m d)::.own (.slice q m d) 46 6 ((recI (ls.take 0) (rs.take 0)++ls.drop 0).map enc)::S) w:=hw
 refine W_loop (fun μ ρ w=>∃(i:Nat),μ+i=nr∧Has ρ [(0,.pointer (some ⟨r,0,none⟩)),(1,v),(5,.slice ar nr cr),(8,.int .i64 i)]∧Wd Γ (.own (.slice ar nr cr) 55 2 (rs.map prI)::.blk r (rfC u0 u1 u2 u3 u4 u5 vl cap q m d)::.own (.slice q m d) 46 6 ((recI (ls.take i) (rs.take i)++ls.drop i).map enc)::S) w) nr ⟨0,by omega,⟨rfl,rfl,rfl,rfl,trivial⟩,hw⟩ ?_
 clear hw;rintro μ ρ w ⟨i,hμ,hρ,hw⟩
 rw[hρ.eq];clear hρ;refine byG ?_;refine W_cond rfl (fun h=>?_) (fun h=>?_)
 ·have hin:i<nr:=by have:=of_decide_eq_true h;omega
  clear h;obtain⟨x,hxl⟩:=get_lt (l:=ls) (k:=i) (by omega)
  obtain⟨rr,hrr⟩:=get_lt (l:=rs) (k:=i) (by omega)
  have hx:=rec_at2 (rs:=rs) hxl (by omega)
  have hrow:(rs.map prI)[i]? = some (prI rr):=by rw[List.getElem?_map,hrr];rfl
  have hrow2:((recI (ls.take i) (rs.take i)++ls.drop i).map enc)[i]? = some (enc x):=rows_map hx
  have hw:Wd Γ ([.own (.slice ar nr cr) 55 2 (rs.map prI),.blk r (rfC u0 u1 u2 u3 u4 u5 vl cap q m d)]++(.own (.slice q m d) 46 6 ((recI (ls.take i) (rs.take i)++ls.drop i).map enc)::S)) w:=hw
  refine byG ?_;refine W_mix1 [.own (.slice ar nr cr) 55 2 (rs.map prI),.blk r (rfC u0 u1 u2 u3 u4 u5 vl cap q m d)] (.own (.slice q m d) 46 6 ((recI (ls.take i) (rs.take i)++ls.drop i).map enc)::S) [[],[],[],[],[],[],[],[],[],[],[],[],[0]] [[],[],[],[],[],[],[],[],[],[],[0],[],[0]] hw ?_
  refine byM ?_;refine mM (v:=undef) (fun _=>.own (.slice q m d) 46 6 ((recI (ls.take (i+1)) (rs.take (i+1))++ls.drop (i+1)).map enc)::S) (fun Y w g hw=>?_) ?_
  ·have hT:TSz Tryz.prog 3 1:=inferInstance
   refine s_storeEf hT.h hw (k:=i) (f:=1) rfl rfl rfl rfl rfl (i:=2) rfl (by omega) hrow2 (by omega) fun w' hw'=>⟨?_,fun _=>rfl⟩
   have hw2:Wd Γ ([.own (.slice ar nr cr) 55 2 (rs.map prI),.blk r (rfC u0 u1 u2 u3 u4 u5 vl cap q m d)]++((.own (.slice q m d) 46 6 (((recI (ls.take i) (rs.take i)++ls.drop i).map enc).set i (enc { x with Core:=rr.2 }))::S)++[]++Y)) w':=hw'
   rw[←List.map_set,rec_step hxl hrr]at hw2;exact hw2
  refine mEnd fun w g hw=>?_
  have hw:Wd Γ ([.own (.slice ar nr cr) 55 2 (rs.map prI),.blk r (rfC u0 u1 u2 u3 u4 u5 vl cap q m d)]++((.own (.slice q m d) 46 6 ((recI (ls.take (i+1)) (rs.take (i+1))++ls.drop (i+1)).map enc)::S)++[])) w:=hw
  rw[List.append_nil]at hw;have hw:Wd Γ (.own (.slice ar nr cr) 55 2 (rs.map prI)::.blk r (rfC u0 u1 u2 u3 u4 u5 vl cap q m d)::.own (.slice q m d) 46 6 ((recI (ls.take (i+1)) (rs.take (i+1))++ls.drop (i+1)).map enc)::S) w:=hw
  refine byG ?_;exact⟨μ-1,by omega,i+1,by omega,⟨rfl,rfl,rfl,rfl,trivial⟩,hw⟩
 have hin:nr≤i:=by have:=of_decide_eq_false h;omega
 rw[List.take_of_length_le (by omega),List.take_of_length_le (by omega),List.drop_of_length_le (by omega),List.append_nil]at hw
 refine byG ?_;refine lCall ((SortInts_any (RepS.rdS hr) (by omega) hw).mono fun e w hq=>?_)
 clear hw;obtain⟨v',rfl,hw⟩:=hq;refine⟨_,rfl,?_⟩;rw[bsortI_sortZ hn]at hw;obtain⟨av,nv,cv,rfl,-,-,-⟩:=hw.own_shape (i:=0) rfl
 have hw1:=hw
 clear hw;obtain⟨Γ1,hle1,rl1,hw⟩:=hw1.freeze;clear hw1;refine byG ?_;refine lStore ?_;intro w hw;have hw:Wd Γ1 (.own (.slice ar nr cr) 55 2 (rs.map prI)::.blk r (rfC u0 u1 u2 u3 u4 u5 (.slice av nv cv) cap q m d)::.own (.slice q m d) 46 6 ((recI ls rs).map enc)::S) w:=hw
 refine byG ?_;exact⟨_,rfl,by rw[hc];rfl,fun e=>absurd hc e,fun _=>⟨Γ1,_,hle1,rl1,hw.drop⟩⟩
theorem rJoin_any[hh:HwR Γ (Value.agg #[u0,u1,u2,u3,u4,u5]) H][hwd:WideH H](hc:CapOk H cap)(hLe:HwLe H)(hD:H.Devs.length≤1000)(hN:ls.length≤1000)(hl:RepS Γ vl 1 (intRows L))(hS:DSt H cap L ls)(c:Int)(hw:Wd Γ (.blk r (rfC u0 u1 u2 u3 u4 u5 vl cap q m d)::.own (.slice q m d) 46 6 (ls.map enc)::S) w) :
  Calls Tryz.prog 38 #[.pointer (some ⟨r,0,none⟩),.int .i64 c] w fun e w'=>∃(Γ':Gho) (vl':Value),Γ.le Γ'∧e=.returned (.int .i64 (joinS H cap L ls c).2.2.2)∧RepS Γ' vl' 1 (intRows (joinS H cap L ls c).1)∧Wd Γ' (.blk r (rfC u0 u1 u2 u3 u4 u5 vl' cap q m d)::.own (.slice q m d) 46 6 ((joinS H cap L ls c).2.1.map enc)::S) w':=by
 have hll:=hS.ln hc.v
 obtain⟨al,nl,cl,rfl,hnl,hncl,hccl⟩:=hl.shape;have hnl:nl=L.length:=by simpa[intRows] using hnl
 haveI pcA:=pg_CoreAt (Γ:=Γ) (hh:=hh) (id:=c)
 refine calls_of_W Tryz.func38 rfl rfl ?_
 refine byG ?_;refine lPg (vs:=[Value.agg #[u0,u1,u2,u3,u4,u5],.int .i64 c]) (hp:=pcA) ?_
 intro w hw;refine byG ?_;refine W_cond rfl (fun h=>?_) (fun h=>?_)
 ·have h:(findC H.Cores c).2=false:=coreAt_neg2.1 (of_decide_eq_true h)
  have e1:joinS H cap L ls c=(L,ls,[],57):=by unfold joinS;rw[if_pos h]
  refine byG ?_;exact⟨_,rfl,Γ,_,.refl _,by rw[e1];rfl,by rw[e1];exact hl,by rw[e1];exact hw⟩
 have hf:(findC H.Cores c).2=true:=by
  cases e:(findC H.Cores c).2 with
  | true=>rfl
  | false=>exact absurd (coreAt_neg2.2 e) (of_decide_eq_false h)
 clear h;refine byG ?_;refine lCall ((isLive_any hl (by omega) c (i:=0) rfl hw).mono fun e w hq=>?_)
 clear hw;obtain⟨rfl,hw⟩:=hq;refine⟨_,rfl,?_⟩;refine byG ?_;refine W_cond rfl (fun h=>?_) (fun h=>?_)
 ·have h:c∈L:=by simpa[memI] using h
  have e1:joinS H cap L ls c=(L,ls,[],56):=by unfold joinS;rw[if_neg (by rw[hf];decide),if_pos h]
  refine byG ?_;exact⟨_,rfl,Γ,_,.refl _,by rw[e1];rfl,by rw[e1];exact hl,by rw[e1];exact hw⟩
 have hnc:c∉L:=fun hm=>by
  have:=List.any_eq_false.1 h c hm
  simp at this
 clear h;obtain⟨g1,g2,tot,g3⟩:=hS.addPost hc hf hnc
 have e1:joinS H cap L ls c=(addL L c,recI ls (rtS H (addL L c) cap),[],0):=by unfold joinS;rw[if_neg (by rw[hf];decide),if_neg hnc]
 have hll2:(L++[c]).length=L.length+1:=by rw[List.length_append];rfl
 have hirq:(rtS H (addL L c) cap).map (·.1)=ls.map (·.IRQ):=by rw[(rt_facts g3).1,hS.irq]
 have hw:=Wd.addNil (a:=none) (E:=3) (sz:=1) hw
 refine byG ?_;refine lApp (i:=0) (rows2:=intRows L) ?_ (hl.rd hw) rfl rfl hw rfl (ints_one L) (by rw[intRows_ln];omega)
 intro v1 w hw;obtain⟨a6,n6,c6,rfl,hn6,-,-⟩:=hw.own_shape (i:=0) rfl
 have hn6:n6=L.length:=by simpa[intRows] using hn6
 refine byG ?_;refine lBuildSlice [[.int .i64 c]] ?_
 intro a7 w hw;refine byG ?_;refine lApp (i:=1) (rows2:=[[.int .i64 c]]) ?_ (Wd.own_rd (i:=0) hw rfl)
 intro v2 w hw;have hw:Wd Γ (.own (.slice (some a7) 1 1) 3 1 [[.int .i64 c]]::.own v2 3 1 (intRows (L++[c]))::.blk r (rfC u0 u1 u2 u3 u4 u5 (.slice al nl cl) cap q m d)::.own (.slice q m d) 46 6 (ls.map enc)::S) w:=by rw[intRows_snoc];exact hw
 have hw1:=hw.drop
 clear hw;obtain⟨a8,n8,c8,rfl,-,-,-⟩:=hw1.own_shape (i:=0) rfl
 obtain⟨Γ1,hle1,rl1,hw⟩:=hw1.freeze;clear hw1;refine byG ?_;refine lCall ((rroute_any (hh:=hh.mono hle1) hN rl1 (((addL_perm L c).nodup_iff).1 (strict_nodup g1)) (by omega) hLe hD (intPost_perm (addL_perm L c) g3) (fun _=>hirq) hw).mono fun e w hq=>?_)
 clear hw;obtain⟨rfl,-,hq⟩:=hq;obtain⟨Γ2,v3,hle2,rl2,hw⟩:=hq rfl
 refine⟨_,rfl,?_⟩;refine byG ?_;exact⟨_,rfl,Γ2,v3,hle1.trans hle2,by rw[e1];rfl,by rw[e1];exact rl2,by rw[e1];exact hw⟩
end
section
variable {Γ:Gho}{S:List Res}{w:World}{r:Nat}{u0 u1 u2 u3 u4 u5 vl:Value}{cap:Int}{q:Option Addr}{m d:Nat}{ls:List IntrT}{L:List Int}{H:HwT}
theorem DSt.rg(hv:validS H=0)(h:DSt H cap L ls):RgI ls:=fun x hx=>by
 refine⟨h.drv x hx,?_⟩
 rcases h.srv x hx with e|e
 ·omega
 ·have:=live_rng hv h.sub _ e;omega
theorem rg_rec{rs:List (Int×Int)}(h:RgI ls)(c:Int):RgI ((recI ls rs).map (relF c)):=fun y hy=>by
 obtain⟨z,hz,rfl⟩:=List.mem_map.1 hy
 obtain⟨x,hx,r,-,rfl⟩:=rec_mem hz
 have:=h x hx
 rw[relF_drv];refine⟨this.1,?_⟩
 unfold relF;split
 ·exact Int.le_refl _
 ·exact this.2
theorem rInterrupts_any(hN:ls.length≤1000)(hw:Wd Γ (.blk r (rfC u0 u1 u2 u3 u4 u5 vl cap q m d)::.own (.slice q m d) 46 6 (ls.map enc)::S) w) :
  Calls Tryz.prog 17 #[.pointer (some ⟨r,0,none⟩)] w fun e w'=>∃v,e=.returned v∧Wd Γ (.own v 46 6 (ls.map enc)::.blk r (rfC u0 u1 u2 u3 u4 u5 vl cap q m d)::.own (.slice q m d) 46 6 (ls.map enc)::S) w':=by
 have hm:=own_len (i:=1) hw rfl
 simp only[List.length_map]at hm
 refine calls_of_W Tryz.func17 rfl rfl ?_
 have hw:=Wd.addNil (a:=none) (E:=46) (sz:=6) hw
 refine byG ?_;refine lApp (i:=0) (rows2:=ls.map enc) ?_ (Wd.own_rd (i:=2) hw rfl) rfl rfl hw rfl (encs_one _) (by rw[List.length_map];exact hm)
 intro v w hw;refine byG ?_;exact⟨_,rfl,v,rfl,hw⟩
theorem cut_step{c x:Int}{k:Nat}(hx:L[k]? = some x):cutL (L.take (k+1)) c=cutL (L.take k) c++if x=c then [] else [x]:=by
 rw[take_succ_of hx];unfold cutL;rw[List.filter_append];by_cases e:x=c
 ·simp[e]
 ·simp[e]
theorem rel_step{l:List IntrT}{i:Nat}{x:IntrT}{c:Int}(hx:l[i]? = some x):((l.take i).map (relF c)++l.drop i).set i (relF c x)=(l.take (i+1)).map (relF c)++l.drop (i+1):=by
 have hi:=(List.getElem?_eq_some_iff.1 hx).1
 have hl:((l.take i).map (relF c)).length=i:=by rw[List.length_map,List.length_take];omega
 rw[List.set_append_right _ _ (by omega),hl,Nat.sub_self,drop_at hx,List.set_cons_zero,take_succ_of hx,List.map_append,List.append_assoc];rfl
theorem rel_at{l:List IntrT}{i:Nat}{x:IntrT}{c:Int}(hx:l[i]? = some x):((l.take i).map (relF c)++l.drop i)[i]? = some x:=by
 have hi:=(List.getElem?_eq_some_iff.1 hx).1
 have hl:((l.take i).map (relF c)).length=i:=by rw[List.length_map,List.length_take];omega
 rw[List.getElem?_append_right (by omega),hl,Nat.sub_self,List.getElem?_drop]
 simpa using hx
theorem rDepart_any[hh:HwR Γ (Value.agg #[u0,u1,u2,u3,u4,u5]) H][hwd:WideH H](hc:CapOk H cap)(hLe:HwLe H)(hD:H.Devs.length≤1000)(hN:ls.length≤1000)(hl:RepS Γ vl 1 (intRows L))(hS:DSt H cap L ls)(c:Int)(hw:Wd Γ (.blk r (rfC u0 u1 u2 u3 u4 u5 vl cap q m d)::.own (.slice q m d) 46 6 (ls.map enc)::S) w) :
  Calls Tryz.prog 40 #[.pointer (some ⟨r,0,none⟩),.int .i64 c] w fun e w'=>∃(Γ':Gho) (v vl':Value),Γ.le Γ'∧e=.returned (.tuple #[v,.int .i64 (depS H cap L ls c).2.2.2])∧RepS Γ' vl' 1 (intRows (depS H cap L ls c).1)∧Wd Γ' (.own v 62 3 ((depS H cap L ls c).2.2.1.map enc)::.blk r (rfC u0 u1 u2 u3 u4 u5 vl' cap q m d)::.own (.slice q m d) 46 6 ((depS H cap L ls c).2.1.map enc)::S) w':=by
 have hll:=hS.ln hc.v
 obtain⟨al,nl,cl,rfl,hnl,hncl,hccl⟩:=hl.shape;have hnl:nl=L.length:=by simpa[intRows] using hnl
 refine calls_of_W Tryz.func40 rfl rfl ?_
 refine byG ?_;refine lCall ((isLive_any hl (by omega) c (i:=0) rfl hw).mono fun e w hq=>?_)
 clear hw;obtain⟨rfl,hw⟩:=hq;refine⟨_,rfl,?_⟩;refine byG ?_;refine W_cond rfl (fun h=>?_) (fun h=>?_)
 ·have hnc:c∉L:=fun hm=>by
   have h:memI c L=false:=by simpa using h
   have:=List.any_eq_false.1 h c hm
   simp at this
  have e1:depS H cap L ls c=(L,ls,[],10):=by unfold depS;rw[if_pos hnc]
  refine byG ?_;exact⟨_,rfl,Γ,_,_,.refl _,by rw[e1];rfl,by rw[e1];exact hl,by rw[e1];exact Wd.addNil hw⟩
 have hin:c∈L:=by
  have h:memI c L=true:=by simpa using h
  simpa[memI] using h
 clear h;refine byG ?_;have hw:=Wd.addNil (a:=none) (E:=3) (sz:=1) hw
 have hw:Wd Γ (.own (.slice none 0 0) 3 1 (intRows (cutL (L.take 0) c))::.blk r (rfC u0 u1 u2 u3 u4 u5 (.slice al nl cl) cap q m d)::.own (.slice q m d) 46 6 (ls.map enc)::S) w:=hw
 refine W_loop (fun μ ρ w=>∃(k:Nat) (q2:Option Addr) (m2 d2:Nat),μ+k=nl∧Has ρ [(0,.pointer (some ⟨r,0,none⟩)),(1,.int .i64 c),(6,.slice q2 m2 d2),(7,.int .i64 k)]∧Wd Γ (.own (.slice q2 m2 d2) 3 1 (intRows (cutL (L.take k) c))::.blk r (rfC u0 u1 u2 u3 u4 u5 (.slice al nl cl) cap q m d)::.own (.slice q m d) 46 6 (ls.map enc)::S) w) nl ⟨0,none,0,0,by omega,⟨rfl,rfl,rfl,rfl,trivial⟩,hw⟩ ?_
 clear hw;rintro μ ρ w ⟨k,q2,m2,d2,hμ,hρ,hw⟩
 rw[hρ.eq];clear hρ;have hm2:=own_len (i:=0) hw rfl
 rw[intRows_ln]at hm2;refine byG ?_;refine W_cond rfl (fun h=>?_) (fun h=>?_)
 ·have hk:k<nl:=by have:=of_decide_eq_true h;omega
  clear h;obtain⟨x,hx⟩:=get_lt (l:=L) (k:=k) (by omega)
  have hcl:(cutL (L.take k) c).length≤32:=by
   unfold cutL;refine Nat.le_trans (List.length_filter_le _ _) ?_
   rw[List.length_take];omega
  have hst:=cut_step (c:=c) hx
  refine byG ?_;refine W_cond rfl (fun h=>?_) (fun h=>?_)
  ·have h:¬x=c:=of_decide_eq_true h
   rw[if_neg h]at hst;refine byG ?_;refine lBuildSlice [[.int .i64 x]] ?_
   intro a7 w hw;refine byG ?_;refine lApp (i:=1) (rows2:=[[.int .i64 x]]) ?_ (Wd.own_rd (i:=0) hw rfl)
   intro v2 w hw;have hw:Wd Γ (.own (.slice (some a7) 1 1) 3 1 [[.int .i64 x]]::.own v2 3 1 (intRows (cutL (L.take (k+1)) c))::.blk r (rfC u0 u1 u2 u3 u4 u5 (.slice al nl cl) cap q m d)::.own (.slice q m d) 46 6 (ls.map enc)::S) w:=by rw[hst,intRows_snoc];exact hw
   have hw:=hw.drop
   obtain⟨a8,n8,c8,rfl,-,-,-⟩:=hw.own_shape (i:=0) rfl
   refine byG ?_;exact⟨μ-1,by omega,k+1,a8,n8,c8,by omega,⟨rfl,rfl,rfl,rfl,trivial⟩,hw⟩
  ·have h:x=c:=by have:=of_decide_eq_false h;omega
   rw[if_pos h,List.append_nil]at hst;rw[←hst]at hw;refine byG ?_;exact⟨μ-1,by omega,k+1,q2,m2,d2,by omega,⟨rfl,rfl,rfl,rfl,trivial⟩,hw⟩
 have hk:nl≤k:=by have:=of_decide_eq_false h;omega
 clear h;rw[List.take_of_length_le (by omega)]at hw hm2
 have hcl:(cutL L c).length≤32:=by
  unfold cutL;exact Nat.le_trans (List.length_filter_le _ _) (by omega)
 have hw1:=hw
 clear hw;obtain⟨Γ1,hle1,rl1,hw⟩:=hw1.freeze;clear hw1;refine byG ?_;by_cases h0:cutL L c=[]
 ·have e1:depS H cap L ls c=(L,ls,[],64):=by unfold depS;rw[if_neg (fun e=>e hin),if_pos h0]
  obtain⟨rs,tot,code,hip⟩:=intPost_ex H (cutL L c) cap
  obtain⟨-,-,rfl⟩:rs=[]∧tot=0∧code=64:=by rw[h0]at hip;exact rt_none hc hip
  refine lCall ((rroute_any (hh:=hh.mono hle1) hN rl1 (strict_nodup (cutL_strict hS.live c)) (by omega) hLe hD hip (fun e=>by cases e) hw).mono fun e w hq=>?_)
  clear hw;obtain⟨rfl,hw,-⟩:=hq;have hw:=hw (by decide)
  refine⟨_,rfl,?_⟩;refine byG ?_;refine W_cond_true rfl ?_
  refine byG ?_;exact⟨_,rfl,Γ1,_,_,hle1,by rw[e1];rfl,by rw[e1];exact hl.mono hle1,by rw[e1];exact Wd.addNil hw⟩
 have e1:depS H cap L ls c=(cutL L c,delS ((recI ls (rtS H (cutL L c) cap)).map (relF c))):=by unfold depS;rw[if_neg (fun e=>e hin),if_neg h0]
 obtain⟨tot,g3⟩:=hS.cutPost hc h0
 have hirq:(rtS H (cutL L c) cap).map (·.1)=ls.map (·.IRQ):=by rw[(rt_facts g3).1,hS.irq]
 refine lCall ((rroute_any (hh:=hh.mono hle1) hN rl1 (strict_nodup (cutL_strict hS.live c)) (by omega) hLe hD g3 (fun _=>hirq) hw).mono fun e w hq=>?_)
 clear hw;obtain⟨rfl,-,hq⟩:=hq;obtain⟨Γ2,v3,hle2,rl2,hw⟩:=hq rfl
 rw[sortZ_self (cutL_strict hS.live c)]at rl2;refine⟨_,rfl,?_⟩;have hlm:(recI ls (rtS H (cutL L c) cap)).length=ls.length:=by
  unfold recI;rw[List.length_map,List.length_zip,rec_len hirq];omega
 have hRg:RgI ((recI ls (rtS H (cutL L c) cap)).map (relF c)):=rg_rec (hS.rg hc.v) c
 generalize recI ls (rtS H (cutL L c) cap)=lm at *
 have hmm:=own_len (i:=1) hw rfl
 simp only[List.length_map]at hmm
 refine byG ?_;refine W_cond_false rfl ?_
 refine byG ?_;have hw:Wd Γ2 (.blk r (rfC u0 u1 u2 u3 u4 u5 v3 cap q m d)::.own (.slice q m d) 46 6 (((lm.take 0).map (relF c)++lm.drop 0).map enc)::S) w:=hw
 refine W_loop (fun μ ρ w=>∃(i:Nat),μ+i=m∧Has ρ [(0,.pointer (some ⟨r,0,none⟩)),(1,.int .i64 c),(9,.int .i64 i)]∧Wd Γ2 (.blk r (rfC u0 u1 u2 u3 u4 u5 v3 cap q m d)::.own (.slice q m d) 46 6 (((lm.take i).map (relF c)++lm.drop i).map enc)::S) w) m ⟨0,by omega,⟨rfl,rfl,rfl,trivial⟩,hw⟩ ?_
 clear hw;rintro μ ρ w ⟨i,hμ,hρ,hw⟩
 rw[hρ.eq];clear hρ;refine byG ?_;refine W_cond rfl (fun h=>?_) (fun h=>?_)
 ·have hi:i<m:=by have:=of_decide_eq_true h;omega
  clear h;obtain⟨x,hxl⟩:=get_lt (l:=lm) (k:=i) (by omega)
  have hx:=rel_at (c:=c) hxl
  have hil:i<(((lm.take i).map (relF c)++lm.drop i).map enc).length:=by rw[List.length_map];exact(List.getElem?_eq_some_iff.1 hx).1
  have hrow:(((lm.take i).map (relF c)++lm.drop i).map enc)[i]? = some (enc x):=rows_map hx
  have hset:(((lm.take i).map (relF c)++lm.drop i).map enc).set i (enc (relF c x))=((lm.take (i+1)).map (relF c)++lm.drop (i+1)).map enc:=by rw[←rel_step hxl,List.map_set]
  refine byG ?_;refine W_cond rfl (fun h=>?_) (fun h=>?_)
  ·have h:x.Serving=c:=of_decide_eq_true h
   have hrx:relF c x=⟨x.IRQ,x.Core,x.Driver,-1,x.Masked,true⟩:=by unfold relF;rw[if_pos h]
   rw[hrx]at hset;refine byG ?_;refine lStoreEf (i:=1) (k:=i) (f:=3) ?_ hrow
   intro w hw;have hw:Wd Γ2 (.blk r (rfC u0 u1 u2 u3 u4 u5 v3 cap q m d)::.own (.slice q m d) 46 6 ((((lm.take i).map (relF c)++lm.drop i).map enc).set i (enc (IntrT.mk x.IRQ x.Core x.Driver (-1) x.Masked x.Pending)))::S) w:=hw
   refine byG ?_;refine lStoreEf (i:=1) (k:=i) (f:=5) (row:=enc (IntrT.mk x.IRQ x.Core x.Driver (-1) x.Masked x.Pending)) ?_ (List.getElem?_set_self hil)
   intro w hw;rw[List.set_set]at hw;have hw:Wd Γ2 (.blk r (rfC u0 u1 u2 u3 u4 u5 v3 cap q m d)::.own (.slice q m d) 46 6 ((((lm.take i).map (relF c)++lm.drop i).map enc).set i (enc (IntrT.mk x.IRQ x.Core x.Driver (-1) x.Masked true)))::S) w:=hw
   rw[hset]at hw;refine byG ?_;exact⟨μ-1,by omega,i+1,by omega,⟨rfl,rfl,rfl,trivial⟩,hw⟩
  ·have h:¬x.Serving=c:=of_decide_eq_false h
   have hrx:relF c x=x:=by unfold relF;rw[if_neg h]
   have hls:(lm.take i).map (relF c)++lm.drop i=(lm.take (i+1)).map (relF c)++lm.drop (i+1):=by
    rw[drop_at hxl,take_succ_of hxl,List.map_append,List.append_assoc];simp[hrx]
   rw[hls]at hw;refine byG ?_;exact⟨μ-1,by omega,i+1,by omega,⟨rfl,rfl,rfl,trivial⟩,hw⟩
 have hi:m≤i:=by have:=of_decide_eq_false h;omega
 rw[List.take_of_length_le (by omega),List.drop_of_length_le (by omega),List.append_nil]at hw
 refine byG ?_;refine lCall ((rdeliver_any hRg (by rw[List.length_map];omega) hw).mono fun e w hq=>?_)
 clear hw;obtain⟨v,rfl,hw⟩:=hq;refine⟨_,rfl,?_⟩;refine byG ?_;exact⟨_,rfl,Γ2,v,v3,hle1.trans hle2,by rw[e1];rfl,by rw[e1];exact rl2,by rw[e1];exact hw⟩
end
end Go.Proofs.YthgighljhoneeaaGreat
end
section
open Go
namespace Mk
attribute [local irreducible] Calls
theorem mCallT{P:Program}{n:Nat}{ops:List Oper}{Γ:Gho}{K:List Res}{wr tc stab:List (List Nat)}{Q:Fr→World→Prop}{i:Nat}{rest:List Oper}{ρ:Fr}{M:Nat→Fr→List Res}{c dd f:Nat}{ty:TypeId}{pos:String}{es:Array Edge}{args:List Operand}{tys:Array TypeId}{vs:List Value}{X:List Res}[FnOk P f](R':Option Addr×Nat×Nat→List Res)
  (hcall:∀S w,Wd Γ (X++S) w→Calls P f vs.toArray w fun e w'=>∃a n c,e=.returned (.slice a n c)∧Wd Γ (R' (a,n,c)++S) w')
  (h:MSw (mV P n ops Γ K wr tc stab) Q (i+1) rest ⟨putO ρ (some dd) undef,setC M c (exC (fun t g=>g dd=.slice t.1 t.2.1 t.2.2) R')⟩)
  (hw0:wr.getD i []=[c]:=by exact rfl) (ht:tc.getD i []=[c]:=by exact rfl) (hM:M c=exC (fun (_:Unit) _=>True) (fun _=>X):=by first|exact ml1|exact setC_self) (hs:(stab.getD c []).contains dd=true:=by exact rfl) (hfr:freeD stab (some dd)=true:=by exact rfl) (ha:∀g,EvL (ovr stab.flatten g ρ) args vs:=by intro g;exact byEV) :
  MSw (mV P n ops Γ K wr tc stab) Q i (⟨some dd,.call { callee:=.value (.func f),args:=args.toArray,argTypes:=tys },ty,pos,es,none⟩::rest) ⟨ρ,M⟩:=
 mS (v:=undef) (exC (fun (t:Option Addr×Nat×Nat) g=>g dd=.slice t.1 t.2.1 t.2.2) R') (fun g w Y hw=>by
  obtain⟨_,-,hw⟩:=exC_open hw
  refine s_call (ha g).eqA ((hcall _ _ hw).mono ?_)
  rintro e w' ⟨a,n,c',rfl,hw'⟩
  refine⟨_,rfl,fun hh=>(by rw[hfr]at hh;cases hh),exC_mk (a,n,c') ?_ hw'⟩
  rw[ovr_in (by simpa using hs)];exact upd_same _ _ _) h hM hw0 ht rfl
end Mk
end
section
open Go Mk
namespace Go.Proofs.YthgighljhoneeaaGreat
set_option maxHeartbeats 64000000
attribute [local irreducible] Calls
attribute [local irreducible] matL
section
variable {Γ:Gho}{S:List Res}{w:World}{u0 u1 u2 u3 u4 u5:Value}{cap:Int}{L:List Int}{H:HwT}
theorem NewDrivers_any[hh:HwR Γ (Value.agg #[u0,u1,u2,u3,u4,u5]) H][hwd:WideH H](hLe:HwLe H)(hD:H.Devs.length≤1000){v:Value}(hr:RepS Γ v 1 (intRows L))(hn:L.Nodup)(hL:L.length≤64){rs:List (Int×Int)}{tot:Int}(hip:IntPost H L cap rs tot 0)(hw:Wd Γ S w) :
  Calls Tryz.prog 29 #[Value.agg #[u0,u1,u2,u3,u4,u5],v,.int .i64 cap] w fun e w'=>∃(Γ':Gho) (r:Nat) (vl:Value) (q:Option Addr) (m d:Nat),Γ.le Γ'∧e=.returned (.tuple #[.pointer (some ⟨r,0,none⟩),.int .i64 0])∧RepS Γ' vl 1 (intRows (sortZ L))∧Wd Γ' (.blk r (rfC u0 u1 u2 u3 u4 u5 vl cap q m d)::.own (.slice q m d) 46 6 ((newI rs).map enc)::S) w':=by
 have hrl:rs.length=H.Devs.length:=by
  have:=congrArg List.length (rt_facts hip).1
  rw[List.length_map,irqL_len]at this;exact this
 obtain⟨al,nl,cl,rfl,hnl,hncl,hccl⟩:=hr.shape;refine calls_of_W Tryz.func29 rfl rfl ?_
 refine byG ?_;refine lBox ?_;intro b3 w hw;have hw:Wd Γ (.blk b3 (.cells #[u0,u1,u2,u3,u4,u5] 38)::S) w:=hw
 refine byG ?_;refine lCall (vs:=[Value.agg #[u0,u1,u2,u3,u4,u5],.slice al nl cl,.int .i64 cap]) ((rint_fix (hh:=hh) hip hr (by omega) (Nat.le_trans live_subD.1 (by omega)) hD hLe hw).mono fun e w hq=>?_)
 clear hw;obtain⟨t,rfl,hw⟩:=hq;refine⟨_,rfl,?_⟩;obtain⟨ar,nr,cr,rfl,hnr,hncr,-⟩:=hw.own_shape (i:=0) rfl
 simp only[List.length_map]at hnr
 refine byG ?_;refine W_cond_false rfl ?_
 refine byG ?_;have hw:Wd Γ ([.blk b3 (.cells #[u0,u1,u2,u3,u4,u5] 38)]++([]++((.own (.slice ar nr cr) 55 2 (rs.map prI)::S)++[]))) w:=by rw[List.append_nil];exact hw.ps [1]
 refine W_mixD [.blk b3 (.cells #[u0,u1,u2,u3,u4,u5] 38)] [] (.own (.slice ar nr cr) 55 2 (rs.map prI)::S) [] [26,28,29,11] [] [[],[],[1],[],[1],[1],[1]] [[],[],[1],[],[1],[1],[1]] hw ?_
 clear hw;refine byM ?_;refine Mk.mCallT (c:=1) (X:=.own (.slice ar nr cr) 55 2 (rs.map prI)::S) (fun t=>.own (.slice t.1 t.2.1 t.2.2) 3 1 (intRows (sortZ L))::.own (.slice ar nr cr) 55 2 (rs.map prI)::S) ?_ ?_
 ·intro S' w hw;refine(SortInts_any (RepS.rdS hr) (by omega) hw).mono ?_
  rintro e w' ⟨v',rfl,h2⟩
  rw[bsortI_sortZ hn]at h2;obtain⟨ua,um,uc,rfl,-,-,-⟩:=h2.own_shape (i:=0) rfl
  exact⟨ua,um,uc,rfl,h2⟩
 refine byM ?_;refine mPureX (c:=1) (T:=Option Addr×Nat×Nat) (fun t=>.agg #[u0,u1,u2,u3,u4,u5,.slice t.1 t.2.1 t.2.2,.int .i64 cap,.slice none 0 0]) ?_ ?_
 ·intro t g w Y h hw;have h2:g 26=.slice t.1 t.2.1 t.2.2:=h
  refine y_build ?_
  show fillL _ _ [(0,_),(1,g 26),(2,_)]=_
  rw[h2];rfl
 refine mS (c:=1) (v:=undef) (F:=exC (T:=Option Addr×Nat×Nat) (fun t g=>g 26=.slice t.1 t.2.1 t.2.2∧g 28=.agg #[u0,u1,u2,u3,u4,u5,.slice t.1 t.2.1 t.2.2,.int .i64 cap,.slice none 0 0]) fun t=>.own (.slice t.1 t.2.1 t.2.2) 3 1 (intRows (sortZ L))::.own (.slice ar nr cr) 55 2 (rs.map prI)::S) (exC (T:=(Option Addr×Nat×Nat)×Nat) (fun t g=>g 29=.pointer (some ⟨t.2,0,none⟩)) fun t=>.blk t.2 (rfC u0 u1 u2 u3 u4 u5 (.slice t.1.1 t.1.2.1 t.1.2.2) cap none 0 0)::.own (.slice t.1.1 t.1.2.1 t.1.2.2) 3 1 (intRows (sortZ L))::.own (.slice ar nr cr) 55 2 (rs.map prI)::S) (fun g w Y hw=>?_) ?_
 ·obtain⟨t,⟨h1,h2⟩,hw⟩:=exC_open hw
  have h2:g 28=.agg #[u0,u1,u2,u3,u4,u5,.slice t.1 t.2.1 t.2.2,.int .i64 cap,.slice none 0 0]:=h2
  exact s_box hw h2 fun b w' hw'=>⟨fun h=>(by cases h),exC_mk (T:=(Option Addr×Nat×Nat)×Nat) (φ:=fun t g=>g 29=.pointer (some ⟨t.2,0,none⟩)) (R:=fun t=>.blk t.2 (rfC u0 u1 u2 u3 u4 u5 (.slice t.1.1 t.1.2.1 t.1.2.2) cap none 0 0)::.own (.slice t.1.1 t.1.2.1 t.1.2.2) 3 1 (intRows (sortZ L))::.own (.slice ar nr cr) 55 2 (rs.map prI)::S) (t,b) rfl hw'⟩
 refine mS (c:=1) (v:=undef) (F:=exC (T:=(Option Addr×Nat×Nat)×Nat) (fun t g=>g 29=.pointer (some ⟨t.2,0,none⟩)) fun t=>.blk t.2 (rfC u0 u1 u2 u3 u4 u5 (.slice t.1.1 t.1.2.1 t.1.2.2) cap none 0 0)::.own (.slice t.1.1 t.1.2.1 t.1.2.2) 3 1 (intRows (sortZ L))::.own (.slice ar nr cr) 55 2 (rs.map prI)::S) (exC (T:=(Option Addr×Nat×Nat)×Nat) (fun t g=>g 11=.pointer (some ⟨t.2,0,none⟩)) fun t=>.blk t.2 (rfC u0 u1 u2 u3 u4 u5 (.slice t.1.1 t.1.2.1 t.1.2.2) cap none 0 0)::.own (.slice t.1.1 t.1.2.1 t.1.2.2) 3 1 (intRows (sortZ L))::.own (.slice ar nr cr) 55 2 (rs.map prI)::S) (fun g w Y hw=>?_) ?_
 ·obtain⟨t,h1,hw⟩:=exC_open hw
  have h1:g 29=.pointer (some ⟨t.2,0,none⟩):=h1
  exact Yields.step (y_assign (v:=.pointer (some ⟨t.2,0,none⟩)) h1) ⟨fun h=>(by cases h),exC_mk (T:=(Option Addr×Nat×Nat)×Nat) (φ:=fun t g=>g 11=.pointer (some ⟨t.2,0,none⟩)) (R:=fun t=>.blk t.2 (rfC u0 u1 u2 u3 u4 u5 (.slice t.1.1 t.1.2.1 t.1.2.2) cap none 0 0)::.own (.slice t.1.1 t.1.2.1 t.1.2.2) 3 1 (intRows (sortZ L))::.own (.slice ar nr cr) 55 2 (rs.map prI)::S) t rfl hw⟩
 refine mEndD fun t w g ht hw=>?_
 obtain⟨⟨a7,n7,c7⟩,r⟩:=t;have ht:g 11=.pointer (some ⟨r,0,none⟩):=ht
 refine W_has (l:=[(2,.int .i64 cap),(8,.slice ar nr cr),(11,.pointer (some ⟨r,0,none⟩))]) ⟨rfl,rfl,ht,trivial⟩ fun ρ hρ=>?_
 rw[hρ.eq];clear hρ ht;have hw1:Wd Γ (.own (.slice a7 n7 c7) 3 1 (intRows (sortZ L))::.blk r (rfC u0 u1 u2 u3 u4 u5 (.slice a7 n7 c7) cap none 0 0)::.own (.slice ar nr cr) 55 2 (rs.map prI)::(S++[.blk b3 (.cells #[u0,u1,u2,u3,u4,u5] 38)])) w:=hw.ps [1]
 clear hw;obtain⟨Γ1,hle1,rl1,hw⟩:=hw1.freeze;clear hw1;have hw:=Wd.addNil (a:=none) (E:=46) (sz:=6) hw
 have hw:Wd Γ1 (.blk r (rfC u0 u1 u2 u3 u4 u5 (.slice a7 n7 c7) cap none 0 0)::.own (.slice none 0 0) 46 6 ((newI (rs.take 0)).map enc)::.own (.slice ar nr cr) 55 2 (rs.map prI)::(S++[.blk b3 (.cells #[u0,u1,u2,u3,u4,u5] 38)])) w:=hw.ps [1]
 refine byG ?_;refine W_loop (fun μ ρ w=>∃(i:Nat) (q:Option Addr) (m d:Nat),μ+i=nr∧Has ρ [(8,.slice ar nr cr),(11,.pointer (some ⟨r,0,none⟩)),(12,.int .i64 i)]∧Wd Γ1 (.blk r (rfC u0 u1 u2 u3 u4 u5 (.slice a7 n7 c7) cap q m d)::.own (.slice q m d) 46 6 ((newI (rs.take i)).map enc)::.own (.slice ar nr cr) 55 2 (rs.map prI)::(S++[.blk b3 (.cells #[u0,u1,u2,u3,u4,u5] 38)])) w) nr ⟨0,none,0,0,by omega,⟨rfl,rfl,rfl,trivial⟩,hw⟩ ?_
 clear hw;rintro μ ρ w ⟨i,q,m,d,hμ,hρ,hw⟩
 rw[hρ.eq];clear hρ;have hm:=own_len (i:=1) hw rfl
 simp only[newI,List.length_map,List.length_take]at hm
 refine byG ?_;refine W_cond rfl (fun h=>?_) (fun h=>?_)
 ·have hi:i<nr:=by have:=of_decide_eq_true h;omega
  clear h;obtain⟨rr,hrr⟩:=get_lt (l:=rs) (k:=i) (by omega)
  have hst:(newI (rs.take i)).map enc++[(enc (IntrT.mk rr.1 rr.2 (-1) (-1) false false))]=(newI (rs.take (i+1))).map enc:=by
   rw[take_succ_of hrr];unfold newI;rw[List.map_append,List.map_append];rfl
  have hw:Wd Γ1 ([.own (.slice ar nr cr) 55 2 (rs.map prI)]++([.blk r (rfC u0 u1 u2 u3 u4 u5 (.slice a7 n7 c7) cap q m d)]++((.own (.slice q m d) 46 6 ((newI (rs.take i)).map enc)::(S++[.blk b3 (.cells #[u0,u1,u2,u3,u4,u5] 38)]))++[]))) w:=by rw[List.append_nil];exact hw.ps [2]
  refine byG ?_;refine W_mixD [.own (.slice ar nr cr) 55 2 (rs.map prI)] [.blk r (rfC u0 u1 u2 u3 u4 u5 (.slice a7 n7 c7) cap q m d)] (.own (.slice q m d) 46 6 ((newI (rs.take i)).map enc)::(S++[.blk b3 (.cells #[u0,u1,u2,u3,u4,u5] 38)])) [] [52,53] [] [[],[],[],[],[],[],[],[],[],[],[],[],[],[],[],[],[1],[1],[],[],[0,1]] [[],[],[],[],[0],[],[],[],[],[],[],[],[],[],[],[],[1],[1],[],[],[0,1]] hw ?_
  clear hw;refine byM ?_;refine mY (v:=.agg (enc (IntrT.mk rr.1 rr.2 (-1) (-1) false false)).toArray) ?_ (hy:=fun Y w g hw=>y_build rfl)
  refine mBuildX (c:=1) (T:=Unit) (fun _=>[(enc (IntrT.mk rr.1 rr.2 (-1) (-1) false false))]) ?_ (fun t g h=>rfl)
  refine mAppX (c:=1) (T:=Unit×Addr) (j:=1) (j2:=0) (fun t=>some t.2) (fun t=>[(enc (IntrT.mk rr.1 rr.2 (-1) (-1) false false))]) ?_ ?_
  rotate_left
  ·intro t g h;exact h.2
  refine byM ?_;refine mJoinX (T:=(Unit×Addr)×Value) (j:=1) (val:=fun t=>t.2) ?_ ?_
  rotate_left
  ·intro t g h;exact h.2
  refine mEndD fun t w g h hw=>?_
  obtain⟨⟨⟨⟩,aC⟩,vv⟩:=t;obtain⟨q',m',d',rfl,-,-,-⟩:=hw.own_shape (i:=2) (v:=vv) rfl
  have hw:Wd Γ1 (.blk r (rfC u0 u1 u2 u3 u4 u5 (.slice a7 n7 c7) cap q' m' d')::.own (.slice (some aC) 1 1) 46 6 [(enc (IntrT.mk rr.1 rr.2 (-1) (-1) false false))]::.own (.slice q' m' d') 46 6 ((newI (rs.take i)).map enc++[(enc (IntrT.mk rr.1 rr.2 (-1) (-1) false false))])::((S++[.blk b3 (.cells #[u0,u1,u2,u3,u4,u5] 38)])++[.own (.slice ar nr cr) 55 2 (rs.map prI)])) w:=hw
  rw[hst]at hw;have hw:Wd Γ1 (.blk r (rfC u0 u1 u2 u3 u4 u5 (.slice a7 n7 c7) cap q' m' d')::.own (.slice q' m' d') 46 6 ((newI (rs.take (i+1))).map enc)::((S++[.blk b3 (.cells #[u0,u1,u2,u3,u4,u5] 38)])++[.own (.slice ar nr cr) 55 2 (rs.map prI)])) w:=hw.dropAt 1
  have hw:Wd Γ1 (.blk r (rfC u0 u1 u2 u3 u4 u5 (.slice a7 n7 c7) cap q' m' d')::.own (.slice q' m' d') 46 6 ((newI (rs.take (i+1))).map enc)::.own (.slice ar nr cr) 55 2 (rs.map prI)::(S++[.blk b3 (.cells #[u0,u1,u2,u3,u4,u5] 38)])) w:=hw.perm (((List.perm_append_comm (l₁:=S++[.blk b3 (.cells #[u0,u1,u2,u3,u4,u5] 38)]) (l₂:=[.own (.slice ar nr cr) 55 2 (rs.map prI)])).cons _).cons _)
  refine byG ?_;exact⟨μ-1,by omega,i+1,q',m',d',by omega,⟨rfl,rfl,rfl,trivial⟩,hw⟩
 have hi:nr≤i:=by have:=of_decide_eq_false h;omega
 rw[List.take_of_length_le (by omega)]at hw
 refine byG ?_;exact⟨_,rfl,Γ1,r,_,q,m,d,hle1,rfl,rl1,Wd.dropEnd (A:=[_,_]) (B:=S) (C:=[.blk b3 (.cells #[u0,u1,u2,u3,u4,u5] 38)]) (hw.dropAt 2)⟩
end
end Go.Proofs.YthgighljhoneeaaGreat
end
section
open Go
namespace Mk
attribute [local irreducible] Calls
section
variable {P:Program}{n:Nat}{ops:List Oper}{Γ:Gho}{K:List Res}{wr tc stab:List (List Nat)}{Q:Fr→World→Prop}{i:Nat}{rest:List Oper}{ρ:Fr}{M:Nat→Fr→List Res}{T:Type}
variable {ty:TypeId}{pos:String}{es:Array Edge}
abbrev SlT:=Option Addr×Nat×Nat
def slV(t:SlT):Value:=.slice t.1 t.2.1 t.2.2
theorem mCallN{c dd f E sz:Nat}{rows:List (List Value)}{args:List Operand}{tys:Array TypeId}{vs:List Value}{φ:T→Fr→Prop}{R:T→List Res}[FnOk P f]
  (hcall:∀S w,Wd Γ S w→Calls P f vs.toArray w fun e w'=>∃v',e=.returned v'∧Wd Γ (.own v' E sz rows::S) w')
  (h:MSw (mV P n ops Γ K wr tc stab) Q (i+1) rest ⟨putO ρ (some dd) undef,setC M c (exC (fun (p:T×SlT) g=>φ p.1 g∧g dd=slV p.2) fun p=>.own (slV p.2) E sz rows::R p.1)⟩)
  (hw0:wr.getD i []=[c]:=by exact rfl) (ht:tc.getD i []=[c]:=by exact rfl) (hM:M c=exC φ R:=by first|exact setC_self|exact ml1|exact ml2|exact((setC_other (by decide)).trans setC_self)|exact((setC_other (by decide)).trans ml2)|exact rfl)
  (hφ:∀t g u,φ t (ovr (stab.getD c []) g noFr)→φ t (ovr (stab.getD c []) (putO g (some dd) u) noFr):=by intro t g u h;exact h)
  (hs:(stab.getD c []).contains dd=true:=by exact rfl) (hfr:freeD stab (some dd)=true:=by exact rfl) (ha:∀g,EvL (ovr stab.flatten g ρ) args vs:=by intro g;exact byEV) :
  MSw (mV P n ops Γ K wr tc stab) Q i (⟨some dd,.call { callee:=.value (.func f),args:=args.toArray,argTypes:=tys },ty,pos,es,none⟩::rest) ⟨ρ,M⟩:=
 mS (v:=undef) (exC (fun (p:T×SlT) g=>φ p.1 g∧g dd=slV p.2) fun p=>.own (slV p.2) E sz rows::R p.1) (fun g w Y hw=>by
  obtain⟨t,h1,hw⟩:=exC_open hw
  refine s_call (ha g).eqA ((hcall _ _ hw).mono ?_)
  rintro e w' ⟨v',rfl,hw'⟩
  obtain⟨a,m,k,rfl,-,-,-⟩:=hw'.own_shape (i:=0) rfl
  refine⟨_,rfl,fun hh=>(by rw[hfr]at hh;cases hh),exC_mk (t,(a,m,k)) ⟨hφ t g _ h1,?_⟩ hw'⟩
  rw[ovr_in (by simpa using hs)];exact upd_same _ _ _) h hM hw0 ht rfl
theorem mStoreN{c b ob dv:Nat}{cs:T→Array Value}{E:Nat}{TT:TypeId}{x:Operand}{φ:T→Fr→Prop}{R:T→List Res}[hn:TSz P TT 1](val:T→SlT)
  (h:MSw (mV P n ops Γ K wr tc stab) Q (i+1) rest ⟨ρ,setC M c (exC φ fun t=>.blk b (.cells (putCells (cs t) ob [slV (val t)]) E)::R t)⟩)
  (hv:∀t g,φ t (ovr (stab.getD c []) g noFr)→ev (ovr stab.flatten g ρ) (.tmp dv)=slV (val t)) (hx:∀g,ev (ovr stab.flatten g ρ) x=.pointer (some ⟨b,ob,none⟩):=by intro g;exact rfl)
  (hw0:wr.getD i []=[c]:=by exact rfl) (ht:tc.getD i []=[c]:=by exact rfl) (hM:M c=exC φ fun t=>.blk b (.cells (cs t) E)::R t:=by first|exact setC_self|exact ml1|exact ml2|exact rfl) (ho:∀t,ob+1≤(cs t).size:=by intro t;exact Nat.le_of_ble_eq_true rfl) :
  MSw (mV P n ops Γ K wr tc stab) Q i (⟨none,.store TT x (.tmp dv),ty,pos,es,none⟩::rest) ⟨ρ,M⟩:=
 mS (v:=undef) (exC φ fun t=>.blk b (.cells (putCells (cs t) ob [slV (val t)]) E)::R t) (fun g w Y hw=>by
  obtain⟨t,h1,hw⟩:=exC_open hw
  refine s_store hn.h hw (hx g) (hv t g h1) (vs:=[slV (val t)]) rfl rfl (fun u hu=>by simp at hu;subst hu;rfl) (i:=0) rfl (ho t) fun w' hw'=>⟨fun _=>rfl,?_⟩
  exact exC_mk (R:=fun t=>.blk b (.cells (putCells (cs t) ob [slV (val t)]) E)::R t) t h1 hw') h hM hw0 ht rfl
end
end Mk
end
section
open Go Mk
namespace Go.Proofs.YthgighljhoneeaaGreat
set_option maxHeartbeats 64000000
attribute [local irreducible] Calls
attribute [local irreducible] matL
theorem cCs_one(xs:List CacheH):(xs.map cC).flatten.all (·.oneCell')=true:=by
 rw[List.all_eq_true];intro u hu;obtain⟨r,hr,hur⟩:=List.mem_flatten.1 hu
 obtain⟨x,-,rfl⟩:=List.mem_map.1 hr
 exact List.all_eq_true.1 (cC_one x) u hur
theorem ClD_core{Γ:Gho}{S:List Res}{w:World}{v:Value}{xs:List CoreT}(hr:RepS Γ v 4 (xs.map enc))(hN:xs.length≤1000000)(hw:Wd Γ S w) :
  Calls Tryz.prog 83 #[v] w fun e w'=>∃v',e=.returned v'∧Wd Γ (.own v' 69 4 (xs.map enc)::S) w':=by
 obtain⟨a,n,c,rfl,hn,hnc,hc⟩:=hr.shape;simp only[List.length_map]at hn
 refine calls_of_W Tryz.func83 rfl rfl ?_
 refine byG ?_;refine W_cond rfl (fun h=>?_) (fun h=>?_)
 ·refine byG ?_;have hx:xs=[]:=by
   cases a with
   | none=>
    cases xs with
    | nil=>rfl
    | cons x xs=>have:=(hr.rd hw).at_ (by simp);cases this
   | some a=>cases h
  subst hx;exact⟨_,rfl,_,rfl,Wd.addNil hw⟩
 ·refine byG ?_;refine lBuildSlice [] ?_
  intro a2 w hw;refine byG ?_;refine lApp (i:=0) (rows2:=xs.map enc) ?_ (hr.rd hw) rfl rfl hw rfl (encs_one xs) (by simpa using hn)
  intro v' w hw;refine byG ?_;exact⟨_,rfl,v',rfl,by simpa using hw⟩
theorem ClD_link{Γ:Gho}{S:List Res}{w:World}{v:Value}{xs:List LinkT}(hr:RepS Γ v 3 (xs.map enc))(hN:xs.length≤1000000)(hw:Wd Γ S w) :
  Calls Tryz.prog 84 #[v] w fun e w'=>∃v',e=.returned v'∧Wd Γ (.own v' 120 3 (xs.map enc)::S) w':=by
 obtain⟨a,n,c,rfl,hn,hnc,hc⟩:=hr.shape;simp only[List.length_map]at hn
 refine calls_of_W Tryz.func84 rfl rfl ?_
 refine byG ?_;refine W_cond rfl (fun h=>?_) (fun h=>?_)
 ·refine byG ?_;have hx:xs=[]:=by
   cases a with
   | none=>
    cases xs with
    | nil=>rfl
    | cons x xs=>have:=(hr.rd hw).at_ (by simp);cases this
   | some a=>cases h
  subst hx;exact⟨_,rfl,_,rfl,Wd.addNil hw⟩
 ·refine byG ?_;refine lBuildSlice [] ?_
  intro a2 w hw;refine byG ?_;refine lApp (i:=0) (rows2:=xs.map enc) ?_ (hr.rd hw) rfl rfl hw rfl (encs_one xs) (by simpa using hn)
  intro v' w hw;refine byG ?_;exact⟨_,rfl,v',rfl,by simpa using hw⟩
theorem ClD_mem{Γ:Gho}{S:List Res}{w:World}{v:Value}{xs:List MemT}(hr:RepS Γ v 5 (xs.map enc))(hN:xs.length≤1000000)(hw:Wd Γ S w) :
  Calls Tryz.prog 85 #[v] w fun e w'=>∃v',e=.returned v'∧Wd Γ (.own v' 123 5 (xs.map enc)::S) w':=by
 obtain⟨a,n,c,rfl,hn,hnc,hc⟩:=hr.shape;simp only[List.length_map]at hn
 refine calls_of_W Tryz.func85 rfl rfl ?_
 refine byG ?_;refine W_cond rfl (fun h=>?_) (fun h=>?_)
 ·refine byG ?_;have hx:xs=[]:=by
   cases a with
   | none=>
    cases xs with
    | nil=>rfl
    | cons x xs=>have:=(hr.rd hw).at_ (by simp);cases this
   | some a=>cases h
  subst hx;exact⟨_,rfl,_,rfl,Wd.addNil hw⟩
 ·refine byG ?_;refine lBuildSlice [] ?_
  intro a2 w hw;refine byG ?_;refine lApp (i:=0) (rows2:=xs.map enc) ?_ (hr.rd hw) rfl rfl hw rfl (encs_one xs) (by simpa using hn)
  intro v' w hw;refine byG ?_;exact⟨_,rfl,v',rfl,by simpa using hw⟩
theorem ClD_cache{Γ:Gho}{S:List Res}{w:World}{v:Value}{xs:List CacheH}(hr:RepS Γ v 5 (xs.map cC))(hN:xs.length≤1000000)(hw:Wd Γ S w) :
  Calls Tryz.prog 86 #[v] w fun e w'=>∃v',e=.returned v'∧Wd Γ (.own v' 125 5 (xs.map cC)::S) w':=by
 obtain⟨a,n,c,rfl,hn,hnc,hc⟩:=hr.shape;simp only[List.length_map]at hn
 refine calls_of_W Tryz.func86 rfl rfl ?_
 refine byG ?_;refine W_cond rfl (fun h=>?_) (fun h=>?_)
 ·refine byG ?_;have hx:xs=[]:=by
   cases a with
   | none=>
    cases xs with
    | nil=>rfl
    | cons x xs=>have:=(hr.rd hw).at_ (by simp);cases this
   | some a=>cases h
  subst hx;exact⟨_,rfl,_,rfl,Wd.addNil hw⟩
 ·refine byG ?_;refine lBuildSlice [] ?_
  intro a2 w hw;refine byG ?_;refine lApp (i:=0) (rows2:=xs.map cC) ?_ (hr.rd hw) rfl rfl hw rfl (cCs_one xs) (by simpa using hn)
  intro v' w hw;refine byG ?_;exact⟨_,rfl,v',rfl,by simpa using hw⟩
theorem copyHw_any{Γ:Gho}{S:List Res}{w:World}{u:Value}{H:HwT}[hh:HwR Γ u H](hs:HwLen H)(hw:Wd Γ S w) :
  Calls Tryz.prog 53 #[u] w fun e w'=>∃u',e=.returned u'∧Wd Γ (Res.hw u' H::S) w':=by
 obtain⟨a1,n1,c1,a2,n2,c2,a3,n3,c3,a4,n4,c4,a5,n5,c5,cs,rfl,hcs,hok,hsz,r1,r2,r3,r4,r5⟩:=hh.h;obtain⟨hn2,hm2,hx2⟩:=rep_facts r2
 simp only[List.length_map]at hn2
 have hcl:cs.length=H.Caches.length:=by rw[←hcs];simp
 obtain⟨l1,l2,l3,l4,l5,l6⟩:=hs;refine calls_of_WC Tryz.func53 rfl rfl ?_
 refine byG ?_;refine lBox ?_;intro b1 w hw;refine lAlloc ?_;intro b2 w hw;have hw:Wd Γ (.blk b2 (.cells hwZ.toArray 38)::.blk b1 (hwC H a1 n1 c1 a2 n2 c2 a3 n3 c3 a4 n4 c4 a5 n5 c5)::S) w:=hw
 have hw:Wd Γ ([.blk b2 (.cells hwZ.toArray 38)]++([.blk b1 (hwC H a1 n1 c1 a2 n2 c2 a3 n3 c3 a4 n4 c4 a5 n5 c5)]++(S++[]))) w:=by rw[List.append_nil];exact hw
 refine byG ?_;refine W_mixD [.blk b2 (.cells hwZ.toArray 38)] [.blk b1 (hwC H a1 n1 c1 a2 n2 c2 a3 n3 c3 a4 n4 c4 a5 n5 c5)] S [] [6,9,12,15] [] [[],[],[1],[],[],[1],[],[],[1],[],[],[1],[],[0,1],[],[1],[],[1],[],[1]] [[],[0],[1],[],[0],[1],[],[0],[1],[],[0],[1],[],[0,1],[],[1],[],[1],[],[1]] hw ?_
 clear hw;refine byM ?_;refine mCallN (c:=1) (T:=Unit) (fun S w hw=>ClD_core r1 (by omega) hw) ?_
 refine byM ?_;refine mCallN (c:=1) (T:=Unit×SlT) (fun S w hw=>ClD_link r3 (by omega) hw) ?_
 refine byM ?_;refine mCallN (c:=1) (T:=(Unit×SlT)×SlT) (fun S w hw=>ClD_mem r4 (by omega) hw) ?_
 refine byM ?_;refine mCallN (c:=1) (T:=((Unit×SlT)×SlT)×SlT) (fun S w hw=>cloneD_any r5 (by omega) hw) ?_
 refine byM ?_;refine mJoinX (T:=(((Unit×SlT)×SlT)×SlT)×SlT) (c:=1) (j:=3) (val:=fun t=>(slV t.1.1.1.2)) ?_ ?_
 rotate_left
 ·intro t g h;exact h.1.1.1.2
 refine byM ?_;refine mStoreN (T:=(((Unit×SlT)×SlT)×SlT)×SlT) (c:=1) (fun t=>t.1.1.2) ?_ ?_
 rotate_left
 ·intro t g h;exact h.1.1.2
 refine byM ?_;refine mStoreN (T:=(((Unit×SlT)×SlT)×SlT)×SlT) (c:=1) (fun t=>t.1.2) ?_ ?_
 rotate_left
 ·intro t g h;exact h.1.2
 refine byM ?_;refine mStoreN (T:=(((Unit×SlT)×SlT)×SlT)×SlT) (c:=1) (fun t=>t.2) ?_ ?_
 rotate_left
 ·intro t g h;exact h.2
 refine mEndD fun t w g h hw=>?_
 obtain⟨⟨⟨⟨⟨⟩,A1,N1,C1⟩,A3,N3,C3⟩,A4,N4,C4⟩,A5,N5,C5⟩:=t;have hw:Wd Γ (.blk b1 (hwC H A1 N1 C1 a2 n2 c2 A3 N3 C3 A4 N4 C4 A5 N5 C5)::.own (.slice A5 N5 C5) 72 5 (H.Devs.map enc)::.own (.slice A4 N4 C4) 123 5 (H.Mems.map enc)::.own (.slice A3 N3 C3) 120 3 (H.Links.map enc)::.own (.slice A1 N1 C1) 69 4 (H.Cores.map enc)::(S++[.blk b2 (.cells hwZ.toArray 38)])) w:=hw
 obtain⟨R,hR⟩:∃R:List Res,R=.own (.slice A5 N5 C5) 72 5 (H.Devs.map enc)::.own (.slice A4 N4 C4) 123 5 (H.Mems.map enc)::.own (.slice A3 N3 C3) 120 3 (H.Links.map enc)::.own (.slice A1 N1 C1) 69 4 (H.Cores.map enc)::S:=⟨_,rfl⟩
 have hw:Wd Γ (.blk b1 (hwC H A1 N1 C1 a2 n2 c2 A3 N3 C3 A4 N4 C4 A5 N5 C5)::.blk b2 (.cells hwZ.toArray 38)::R) w:=by
  rw[hR];have hw2:Wd Γ (.blk b1 (hwC H A1 N1 C1 a2 n2 c2 A3 N3 C3 A4 N4 C4 A5 N5 C5)::((.own (.slice A5 N5 C5) 72 5 (H.Devs.map enc)::.own (.slice A4 N4 C4) 123 5 (H.Mems.map enc)::.own (.slice A3 N3 C3) 120 3 (H.Links.map enc)::.own (.slice A1 N1 C1) 69 4 (H.Cores.map enc)::S)++[.blk b2 (.cells hwZ.toArray 38)])) w:=hw
  exact hw2.perm ((List.perm_append_comm (l₁:=.own (.slice A5 N5 C5) 72 5 (H.Devs.map enc)::.own (.slice A4 N4 C4) 123 5 (H.Mems.map enc)::.own (.slice A3 N3 C3) 120 3 (H.Links.map enc)::.own (.slice A1 N1 C1) 69 4 (H.Cores.map enc)::S) (l₂:=[.blk b2 (.cells hwZ.toArray 38)])).cons _)
 clear h;refine W_has (l:=[(1,.pointer (some ⟨b1,0,none⟩)),(2,.pointer (some ⟨b2,0,none⟩))]) ⟨rfl,rfl,trivial⟩ fun ρ hρ=>?_
 rw[hρ.eq];clear hρ;refine byG ?_;refine lCall ((ClD_cache r2 (by omega) hw).mono fun e w hq=>?_)
 clear hw;obtain⟨v2,rfl,hw⟩:=hq;refine⟨_,rfl,?_⟩;obtain⟨A2,N2,C2,rfl,hN2,-,-⟩:=hw.own_shape (i:=0) rfl
 simp only[List.length_map]at hN2
 refine byG ?_;refine lStore (i:=1) ?_
 intro w hw;have hw:Wd Γ (.own (.slice A2 N2 C2) 125 5 ((([]:List CacheH)++cs.drop 0).map cC)::.blk b1 (hwC H A1 N1 C1 A2 N2 C2 A3 N3 C3 A4 N4 C4 A5 N5 C5)::.blk b2 (.cells hwZ.toArray 38)::(([]:List CacheH).map ownC++R)) w:=hw
 refine byG ?_;refine W_loop (fun μ ρ w=>∃(k:Nat) (xs:List CacheH),μ+k=N2∧xs.map CacheH.T=(cs.take k).map CacheH.T∧Has ρ [(1,.pointer (some ⟨b1,0,none⟩)),(2,.pointer (some ⟨b2,0,none⟩)),(26,.int .i64 N2),(27,.int .i64 k)]∧Wd Γ (.own (.slice A2 N2 C2) 125 5 ((xs++cs.drop k).map cC)::.blk b1 (hwC H A1 N1 C1 A2 N2 C2 A3 N3 C3 A4 N4 C4 A5 N5 C5)::.blk b2 (.cells hwZ.toArray 38)::(xs.map ownC++R)) w) N2 ⟨0,[],by omega,rfl,⟨rfl,rfl,rfl,rfl,trivial⟩,hw⟩ ?_
 clear hw;rintro μ ρ w ⟨k,xs,hμ,hxs,hρ,hw⟩
 have hxl:xs.length=(cs.take k).length:=by have:=congrArg List.length hxs;simpa using this
 rw[List.length_take]at hxl;rw[hρ.eq];clear hρ;refine byG ?_;refine W_cond rfl (fun h=>?_) (fun h=>?_)
 ·have hk:k<N2:=by have:=of_decide_eq_true h;omega
  clear h;obtain⟨x,hx⟩:=get_lt (l:=cs) (k:=k) (by omega)
  have hcx:=hok x (List.mem_of_getElem? hx)
  unfold COk at hcx;have hx6:x.Cores.length≤1000000:=l6 x.T (by rw[←hcs];exact List.mem_map.2 ⟨x,List.mem_of_getElem? hx,rfl⟩)
  have hxk:(xs++cs.drop k)[k]? = some x:=by
   rw[List.getElem?_append_right (by omega),hxl,show min k cs.length=k by omega,Nat.sub_self,List.getElem?_drop]
   simpa using hx
  have hrow:((xs++cs.drop k).map cC)[k]? = some (cC x):=by rw[List.getElem?_map,hxk];rfl
  have hw:Wd Γ ([.blk b1 (hwC H A1 N1 C1 A2 N2 C2 A3 N3 C3 A4 N4 C4 A5 N5 C5),.blk b2 (.cells hwZ.toArray 38)]++([.own (.slice A2 N2 C2) 125 5 ((xs++cs.drop k).map cC)]++((xs.map ownC++R)++[]))) w:=by rw[List.append_nil];exact hw.ps [2,2]
  refine byG ?_;refine W_mixD [.blk b1 (hwC H A1 N1 C1 A2 N2 C2 A3 N3 C3 A4 N4 C4 A5 N5 C5),.blk b2 (.cells hwZ.toArray 38)] [.own (.slice A2 N2 C2) 125 5 ((xs++cs.drop k).map cC)] (xs.map ownC++R) [] [39] [] [[],[],[],[],[],[],[],[],[],[1],[],[],[0,1]] [[],[],[],[],[],[],[0],[],[0],[1],[0],[],[0,1]] hw ?_
  clear hw;refine byM ?_;refine mCallN (c:=1) (T:=Unit) (fun S w hw=>cloneI_any hcx hx6 hw) ?_
  refine byM ?_;refine mS2 (c:=0) (c2:=1) (v:=undef) (F:=fun _=>[.own (.slice A2 N2 C2) 125 5 ((xs++cs.drop k).map cC)]) (G:=exC (T:=Unit×SlT) (fun p g=>True∧g 39=slV p.2) fun p=>.own (slV p.2) 3 1 (intRows x.Cores)::(xs.map ownC++R)) (fun _=>[]) (exC (T:=Unit×SlT) (fun _ _=>True) fun p=>.own (.slice A2 N2 C2) 125 5 (((xs++cs.drop k).map cC).set k (cC ⟨x.Name,x.Level,x.Line,x.Size,p.2.1,p.2.2.1,p.2.2.2,x.Cores⟩))::.own (slV p.2) 3 1 (intRows x.Cores)::(xs.map ownC++R)) (fun g w Y hw=>?_) ?_
  ·obtain⟨t,⟨-,h2⟩,hw⟩:=exC_open (hw.perm (List.perm_append_comm_assoc _ _ _))
   have h2:g 39=slV t.2:=h2
   have hw:Wd Γ (.own (.slice A2 N2 C2) 125 5 ((xs++cs.drop k).map cC)::((.own (slV t.2) 3 1 (intRows x.Cores)::(xs.map ownC++R))++([.blk b1 (hwC H A1 N1 C1 A2 N2 C2 A3 N3 C3 A4 N4 C4 A5 N5 C5),.blk b2 (.cells hwZ.toArray 38)]++Y))) w:=hw.perm List.perm_middle
   have hT:TSz Tryz.prog 22 1:=inferInstance
   refine s_storeEf hT.h hw (k:=k) (f:=4) rfl h2 rfl rfl rfl (i:=0) rfl hk hrow (by omega) fun w' hw'=>⟨fun _=>rfl,?_⟩
   exact exC_mk (T:=Unit×SlT) (g:=noFr) (φ:=fun _ _=>True) (R:=fun p=>.own (.slice A2 N2 C2) 125 5 (((xs++cs.drop k).map cC).set k (cC ⟨x.Name,x.Level,x.Line,x.Size,p.2.1,p.2.2.1,p.2.2.2,x.Cores⟩))::.own (slV p.2) 3 1 (intRows x.Cores)::(xs.map ownC++R)) t trivial hw'
  refine mEndD fun t w g h hw=>?_
  obtain⟨⟨⟩,Q,M,D⟩:=t;clear h;obtain⟨y,hy⟩:∃y:CacheH,y=⟨x.Name,x.Level,x.Line,x.Size,Q,M,D,x.Cores⟩:=⟨_,rfl⟩
  have hyT:y.T=x.T:=by rw[hy];rfl
  have hset:((xs++cs.drop k).map cC).set k (cC y)=((xs++[y])++cs.drop (k+1)).map cC:=by
   rw[←List.map_set,List.set_append_right _ _ (by omega),hxl,show min k cs.length=k by omega,Nat.sub_self,drop_at hx,List.set_cons_zero,List.append_assoc];rfl
  have hw:Wd Γ (.own (.slice A2 N2 C2) 125 5 (((xs++cs.drop k).map cC).set k (cC y))::ownC y::((xs.map ownC++R)++[.blk b1 (hwC H A1 N1 C1 A2 N2 C2 A3 N3 C3 A4 N4 C4 A5 N5 C5),.blk b2 (.cells hwZ.toArray 38)])) w:=by rw[hy];exact hw
  rw[hset]at hw;have hw:Wd Γ (.own (.slice A2 N2 C2) 125 5 (((xs++[y])++cs.drop (k+1)).map cC)::.blk b1 (hwC H A1 N1 C1 A2 N2 C2 A3 N3 C3 A4 N4 C4 A5 N5 C5)::.blk b2 (.cells hwZ.toArray 38)::((xs++[y]).map ownC++R)) w:=by
   have h1:Wd Γ (.own (.slice A2 N2 C2) 125 5 (((xs++[y])++cs.drop (k+1)).map cC)::([.blk b1 (hwC H A1 N1 C1 A2 N2 C2 A3 N3 C3 A4 N4 C4 A5 N5 C5),.blk b2 (.cells hwZ.toArray 38)]++(ownC y::(xs.map ownC++R)))) w:=hw.perm ((List.perm_append_comm (l₁:=ownC y::(xs.map ownC++R)) (l₂:=[.blk b1 (hwC H A1 N1 C1 A2 N2 C2 A3 N3 C3 A4 N4 C4 A5 N5 C5),.blk b2 (.cells hwZ.toArray 38)])).cons _)
   have h2:(ownC y::(xs.map ownC++R)).Perm ((xs++[y]).map ownC++R):=by
    rw[List.map_append,List.append_assoc];exact List.perm_middle.symm
   exact h1.perm ((h2.append_left [.blk b1 (hwC H A1 N1 C1 A2 N2 C2 A3 N3 C3 A4 N4 C4 A5 N5 C5),.blk b2 (.cells hwZ.toArray 38)]).cons _)
  refine byG ?_;refine⟨μ-1,by omega,k+1,xs++[y],by omega,?_,⟨rfl,rfl,rfl,rfl,trivial⟩,hw⟩
  rw[List.map_append,hxs,take_succ_of hx,List.map_append];simp[hyT]
 have hk:N2≤k:=by have:=of_decide_eq_false h;omega
 clear h;rw[List.take_of_length_le (by omega),hcs]at hxs
 rw[List.drop_of_length_le (by omega),List.append_nil]at hw
 refine byG ?_;refine lStore (i:=2) ?_
 intro w hw;have hw:Wd Γ (.own (.slice A2 N2 C2) 125 5 (xs.map cC)::.blk b1 (hwC H A1 N1 C1 A2 N2 C2 A3 N3 C3 A4 N4 C4 A5 N5 C5)::.blk b2 (hwC H A1 N1 C1 A2 N2 C2 A3 N3 C3 A4 N4 C4 A5 N5 C5)::(xs.map ownC++R)) w:=hw
 refine byG ?_;refine⟨[.agg #[.string H.Name,.slice A1 N1 C1,.slice A2 N2 C2,.slice A3 N3 C3,.slice A4 N4 C4,.slice A5 N5 C5]],⟨resC (i:=2) hw rfl rfl rfl,trivial⟩,_,rfl,?_⟩
 have hw:=hw.ds [1,1]
 rw[hR]at hw;refine Wd.closeEx (X:=fun p:{p:HwV // Value.agg #[.string H.Name,.slice A1 N1 C1,.slice A2 N2 C2,.slice A3 N3 C3,.slice A4 N4 C4,.slice A5 N5 C5]=.agg #[.string H.Name,p.v1,p.v2,p.v3,p.v4,p.v5]∧p.cs.map CacheH.T=H.Caches}=>p.1.L H) ⟨⟨.slice A1 N1 C1,.slice A2 N2 C2,.slice A3 N3 C3,.slice A4 N4 C4,.slice A5 N5 C5,xs⟩,rfl,hxs⟩ ?_
 have hw:Wd Γ ((.own (.slice A2 N2 C2) 125 5 (xs.map cC)::xs.map ownC)++([.own (.slice A5 N5 C5) 72 5 (H.Devs.map enc),.own (.slice A4 N4 C4) 123 5 (H.Mems.map enc),.own (.slice A3 N3 C3) 120 3 (H.Links.map enc),.own (.slice A1 N1 C1) 69 4 (H.Cores.map enc)]++S)) w:=hw
 have hw:Wd Γ (.own (.slice A5 N5 C5) 72 5 (H.Devs.map enc)::.own (.slice A4 N4 C4) 123 5 (H.Mems.map enc)::.own (.slice A3 N3 C3) 120 3 (H.Links.map enc)::.own (.slice A1 N1 C1) 69 4 (H.Cores.map enc)::.own (.slice A2 N2 C2) 125 5 (xs.map cC)::(xs.map ownC++S)) w:=hw.swapApp
 exact hw.ps [1,2,4,4]
end Go.Proofs.YthgighljhoneeaaGreat
end
