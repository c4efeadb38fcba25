/- Texts of this proof, one behind another. -/
import Derived.Test.YtlimglpjpcfpdaaGreatM4
import Derived.Test.YtlimglpjpcfpdaaGreatM2
import Derived.Shelf.SlLaysF
set_option linter.unusedVariables false
set_option linter.unusedSimpArgs false
section
open Go Mk
namespace Go.Proofs.YtlimglpjpcfpdaaGreat
set_option maxHeartbeats 16000000
attribute [local irreducible] Calls cI cB
theorem Qy{Γ:B8}{S:List A7}{w:World}{b bm:Nat}{vs vg vt:Value}{rs:List (List Val)}{e:Env}{va:Value}{os:List K0}{f:C1}(hargs:D3 Γ va 4 (os.map enc))(hos:∀o∈os,Ab o)(hf:Bt Γ f)(hfo:AU f.fact)(hlen:os.length=f.Args.length)(hn:D2 e D8=none)(hN:os.length≤1000)(hw:Wd Γ (SV b bm vs vg vt rs::D1 bm e::S) w) :
  Calls Tryz.prog 109 #[.pointer (some ⟨b,0,none⟩),va,.agg (cF f).toArray] w fun r w'=>r=.returned (.bool (L6 e os f.Args))∧Wd Γ (SV b bm vs vg vt rs::D1 bm e::S) w':=by
 obtain⟨vr,L,hL,hw⟩:=s9 hw
 have hw1:Wd Γ (.blk b (E0 vs vg vt vr bm)::D1 bm e::(F4 vr L++S)) w:=hw.perm M8
 refine(JM hargs hos hf hfo hlen hn hN hw1).mono fun r w' ⟨h1,h2⟩=>⟨h1,R8 (vr:=vr) hL ?_⟩
 exact h2.perm M8
section
variable {α β:Type}{F:α→List β}{l:List α}{j:Nat}{x:α}
theorem Cb(h:l[j]? = some x):(l.take (j+1)).flatMap F=(l.take j).flatMap F++F x:=by
 rw[List.take_add_one,h,List.flatMap_append];simp
theorem SJ(h:l[j]? = some x):((l.take j).flatMap F).length+(F x).length≤(l.flatMap F).length:=by
 have e:l.flatMap F=((l.take j).flatMap F++F x)++(l.drop (j+1)).flatMap F:=by
  rw[←Cb h,←List.flatMap_append,List.take_append_drop]
 rw[e,List.length_append,List.length_append];omega
end
theorem Gy{H L:Int}(h1:Bq H)(h2:Bq L)(h:L≤H):IntKind.u64.wrap (IntKind.u64.wrap H-IntKind.u64.wrap L)=H-L:=by
 unfold Bq at *
 simp only[IntKind.wrap,IntKind.bits,IntKind.signed]
 simp
 omega
theorem p9{a:Int}(h1:0≤a)(h2:a≤18446744073709551615):IntKind.u64.wrap a=a:=by
 simp only[IntKind.wrap,IntKind.bits,IntKind.signed]
 simp
 omega
def SY(Γ:B8)(b bm:Nat)(vs vg vt:Value)(φ:Env→List (List Val))(k:Nat):Prop:=
 ∀(S:List A7) (e:Env) (rs:List (List Val)) (w:World),W5 e→rs.length+(φ e).length≤1000000→Wd Γ (SV b bm vs vg vt rs::D1 bm e::S) w →
  Calls Tryz.prog 50 #[.pointer (some ⟨b,0,none⟩),.int .i64 k] w fun r w'=>r=.returned (.tuple #[])∧Wd Γ (SV b bm vs vg vt (rs++φ e)::D1 bm e::S) w'
section
variable {Γ:B8}{b bm b2 b3 k:Nat}{vs vg vt:Value}{φ:Env→List (List Val)}
theorem KR(hk:k≤1000)(ih:SY Γ b bm vs vg vt φ (k+1))(e:Env)(rs:List (List Val))(S:List A7)(w:World)(he:W5 e)(hrs:rs.length+(φ e).length≤1000000)(hw:Wd Γ (SV b bm vs vg vt rs::D1 bm e::([.blk b2 (.cells #[.pointer (some ⟨b,0,none⟩)] 117),.blk b3 (.cells #[.int .i64 k] 3)]++S)) w) :
  Calls Tryz.prog 111 [.pointer (some ⟨b2,0,none⟩),.pointer (some ⟨b3,0,none⟩)].toArray w fun r w'=>r=.returned (.tuple #[])∧Wd Γ (SV b bm vs vg vt (rs++φ e)::D1 bm e::([.blk b2 (.cells #[.pointer (some ⟨b,0,none⟩)] 117),.blk b3 (.cells #[.int .i64 k] 3)]++S)) w':=by
 have hw:Wd Γ (SV b bm vs vg vt rs::D1 bm e::.blk b2 (.cells #[.pointer (some ⟨b,0,none⟩)] 117)::.blk b3 (.cells #[.int .i64 k] 3)::S) w:=hw
 refine A3 Tryz.func111 rfl rfl ?_
 refine A4 ?_;refine C5 (vs:=[.pointer (some ⟨b,0,none⟩),.int .i64 ((k+1:Nat):Int)]) ((ih _ e rs w he hrs hw).mono fun r w hq=>?_)
 obtain⟨rfl,hw⟩:=hq;refine⟨_,rfl,?_⟩;refine A4 ?_;exact⟨_,rfl,rfl,hw⟩
theorem JW(hk:k≤1000)(ih:SY Γ b bm vs vg vt φ (k+1))(e:Env)(rs:List (List Val))(S:List A7)(w:World)(he:W5 e)(hrs:rs.length+(φ e).length≤1000000)(hw:Wd Γ (SV b bm vs vg vt rs::D1 bm e::([.blk b2 (.cells #[.pointer (some ⟨b,0,none⟩)] 117),.blk b3 (.cells #[.int .i64 k] 3)]++S)) w) :
  Calls Tryz.prog 112 [.pointer (some ⟨b2,0,none⟩),.pointer (some ⟨b3,0,none⟩)].toArray w fun r w'=>r=.returned (.tuple #[])∧Wd Γ (SV b bm vs vg vt (rs++φ e)::D1 bm e::([.blk b2 (.cells #[.pointer (some ⟨b,0,none⟩)] 117),.blk b3 (.cells #[.int .i64 k] 3)]++S)) w':=by
 have hw:Wd Γ (SV b bm vs vg vt rs::D1 bm e::.blk b2 (.cells #[.pointer (some ⟨b,0,none⟩)] 117)::.blk b3 (.cells #[.int .i64 k] 3)::S) w:=hw
 refine A3 Tryz.func112 rfl rfl ?_
 refine A4 ?_;refine C5 (vs:=[.pointer (some ⟨b,0,none⟩),.int .i64 ((k+1:Nat):Int)]) ((ih _ e rs w he hrs hw).mono fun r w hq=>?_)
 obtain⟨rfl,hw⟩:=hq;refine⟨_,rfl,?_⟩;refine A4 ?_;exact⟨_,rfl,rfl,hw⟩
end
theorem Jp{Γ:B8}{b bm:Nat}{vs vg vt:Value}{gs:List H4}{ts:List (Value×List C1)}{db:List I3}{q:E7}(hS:Ql Γ vs vg vt gs ts db q)(hR:∀g∈q.Goals,g.Kind=4→g.Low≤g.High∧g.High-g.Low≤1000000) :
  ∀(m k:Nat),k+m=gs.length→SY Γ b bm vs vg vt (u4 (u3 (J2 db q) q.Sel) ((J2 db q).drop k)) k:=by
 obtain⟨ga,gn,gc,rfl,hgn,hgnc,hgc⟩:=hS.qr.goals.shape;obtain⟨sa,sn,sc,rfl,hsn,hsnc,hsc⟩:=hS.qr.sel.shape;obtain⟨ta,tn,tc,rfl,htn,htnc,htc⟩:=hS.tab.shape;simp only[List.length_map]at hgn hsn htn
 have hrG:=hS.qr.goals
 have hrS:=hS.qr.sel
 have hrT:=hS.tab
 have hgl:=hS.glen
 have htl:=hS.len
 have hsl:=hS.qok.sel
 intro m;induction m with
 | zero=>
  intro k hk S e rs w he hrs hw;have hkn:k=gn:=by omega
  rw[E3 (J2 db q) (by rw[FB hS];omega)]at hrs ⊢
  have hrs:rs.length+(u3 (J2 db q) q.Sel e).length≤1000000:=hrs
  show Calls _ _ _ _ fun r w'=>r=.returned (.tuple #[])∧Wd Γ (SV b bm (.slice sa sn sc) (.slice ga gn gc) (.slice ta tn tc) (rs++u3 (J2 db q) q.Sel e)::D1 bm e::S) w'
  obtain⟨vr,L,hL,hw⟩:=s9 hw
  refine A3 Tryz.func50 rfl rfl ?_
  refine A4 ?_;refine E5 ?_;intro b2 w hw;refine A4 ?_;refine E5 ?_;intro b3 w hw;have hw:Wd Γ (.blk b3 (.cells #[.int .i64 k] 3)::.blk b2 (.cells #[.pointer (some ⟨b,0,none⟩)] 117)::.blk b (E0 (.slice sa sn sc) (.slice ga gn gc) (.slice ta tn tc) vr bm)::(F4 vr L++(D1 bm e::S))) w:=hw
  have hw:Wd Γ (.blk b2 (.cells #[.pointer (some ⟨b,0,none⟩)] 117)::.blk b3 (.cells #[.int .i64 k] 3)::.blk b (E0 (.slice sa sn sc) (.slice ga gn gc) (.slice ta tn tc) vr bm)::D1 bm e::(F4 vr L++S)) w:=hw.perm M8
  refine A4 ?_;refine L4 (by kernel_rfl) (by kernel_rfl) hw ?_
  refine Hd ?_;clear hw;intro w hw;have hw:Wd Γ (.blk b2 (.cells #[.pointer (some ⟨b,0,none⟩)] 117)::.blk b3 (.cells #[.int .i64 k] 3)::.blk b (E0 (.slice sa sn sc) (.slice ga gn gc) (.slice ta tn tc) vr bm)::D1 bm e::(F4 vr L++S)) w:=hw
  refine E6 (congrArg Value.bool (decide_eq_true (by omega))) ?_
  refine A4 ?_;have hw1:Wd Γ (.blk b (E0 (.slice sa sn sc) (.slice ga gn gc) (.slice ta tn tc) vr bm)::(F4 vr L++(D1 bm e::(.blk b2 (.cells #[.pointer (some ⟨b,0,none⟩)] 117)::.blk b3 (.cells #[.int .i64 k] 3)::S)))) w:=hw.perm M8
  have hw2:=R8 (vr:=vr) hL hw1
  refine C5 (vs:=[.pointer (some ⟨b,0,none⟩)]) ((Jh hS he hrs hw2).mono fun r w hq=>?_)
  clear hw hw1 hw2;obtain⟨rfl,hw⟩:=hq;refine⟨_,rfl,?_⟩;refine A4 ?_;exact⟨_,rfl,rfl,hw.ds [2,2]⟩
 | succ m ih=>
  intro k hk S e rs w he hrs hw;have hkn:k<gn:=by omega
  have ihk:=ih (k+1) (by omega)
  obtain⟨x,hx⟩:=C0 (l:=gs) (k:=k) (by omega)
  obtain⟨t,ht⟩:=C0 (l:=ts) (k:=k) (by omega)
  have hxm:=List.mem_of_getElem? hx
  have htm:=List.mem_of_getElem? ht
  have hgok:=hS.qr.ok x hxm
  have hgoal:=hS.goal hxm
  have hRL:=hS.rl t htm
  have heq:=hS.eq k x t hx ht
  have har:=EG (db:=db) (g:=x.g)
  have hRx:=hR x.g (by rw[←hS.qr.eq];exact List.mem_map_of_mem (f:=(·.g)) hxm)
  rw[K5 (Ek hS hx)]at hrs ⊢
  obtain⟨φ,hφ⟩:∃φ,φ=u4 (u3 (J2 db q) q.Sel) ((J2 db q).drop (k+1)):=⟨_,rfl⟩
  rw[←hφ]at ihk;obtain⟨g,A,N,C⟩:=x;obtain⟨tv,fs⟩:=t;obtain⟨fa,fc,htv,hfc1,hfc2⟩:=hRL.len;simp only at hgoal heq har hRx htv hfc1 hfc2 hrs ⊢
  subst htv;obtain⟨R,hRe⟩:∃R,R=u4 (u3 (J2 db q) q.Sel) ((g,R5 db g)::(J2 db q).drop (k+1)) e:=⟨_,rfl⟩
  rw[←hRe]at hrs ⊢
  unfold u4 at hRe;rw[←hφ]at hRe;obtain⟨vr,L,hL,hw⟩:=s9 hw
  refine A3 Tryz.func50 rfl rfl ?_
  refine A4 ?_;refine E5 ?_;intro b2 w hw;refine A4 ?_;refine E5 ?_;intro b3 w hw;have hw:Wd Γ (.blk b3 (.cells #[.int .i64 k] 3)::.blk b2 (.cells #[.pointer (some ⟨b,0,none⟩)] 117)::.blk b (E0 (.slice sa sn sc) (.slice ga gn gc) (.slice ta tn tc) vr bm)::(F4 vr L++(D1 bm e::S))) w:=hw
  have hw:Wd Γ (.blk b2 (.cells #[.pointer (some ⟨b,0,none⟩)] 117)::.blk b3 (.cells #[.int .i64 k] 3)::.blk b (E0 (.slice sa sn sc) (.slice ga gn gc) (.slice ta tn tc) vr bm)::D1 bm e::(F4 vr L++S)) w:=hw.perm M8
  refine A4 ?_;refine L4 (by kernel_rfl) (by kernel_rfl) hw ?_
  refine Hd ?_;clear hw;intro w hw;have hw:Wd Γ (.blk b2 (.cells #[.pointer (some ⟨b,0,none⟩)] 117)::.blk b3 (.cells #[.int .i64 k] 3)::.blk b (E0 (.slice sa sn sc) (.slice ga gn gc) (.slice ta tn tc) vr bm)::D1 bm e::(F4 vr L++S)) w:=hw
  refine F2 (congrArg Value.bool (decide_eq_false (by omega))) ?_
  refine A4 ?_;refine FC 1 [[],[],[],[],[],[],[],[],[0],[0]] [[],[],[],[],[],[],[],[],[0],[0]] [[4]] ?_ (hw:=hw)
  refine i9 ?_;refine Eo ?_
  refine AG ?_
  refine D9 ?_
  clear hw;intro b4 w hw;have hw:Wd Γ (.blk b4 (.cells (cG ⟨g,A,N,C⟩).toArray 127)::.blk b2 (.cells #[.pointer (some ⟨b,0,none⟩)] 117)::.blk b3 (.cells #[.int .i64 k] 3)::.blk b (E0 (.slice sa sn sc) (.slice ga gn gc) (.slice ta tn tc) vr bm)::D1 bm e::(F4 vr L++S)) w:=hw
  refine A4 ?_;refine A0 rfl (fun h=>?_) (fun h=>?_)
  ·have hk1:g.Kind=1:=of_decide_eq_true h
   clear h;rw[if_pos hk1]at hRe;have hRe2:R=fs.flatMap fun f=>(fun f:I3=>if L6 e g.Args f.2 then J3 φ e g.Args f.2 else []) f.fact:=by
    rw[hRe,←heq];unfold facts;rw[List.flatMap_map]
   have hat:F7 g=true:=by unfold F7;rw[hk1];rfl
   refine A4 ?_;refine L4 (by kernel_rfl) (by kernel_rfl) hw ?_
   refine Hd ?_;clear hw;intro w hw;have hw:Wd Γ (.blk b (E0 (.slice sa sn sc) (.slice ga gn gc) (.slice ta tn tc) vr bm)::(F4 vr L++(D1 bm e::(.blk b2 (.cells #[.pointer (some ⟨b,0,none⟩)] 117)::.blk b3 (.cells #[.int .i64 k] 3)::.blk b4 (.cells (cG ⟨g,A,N,C⟩).toArray 127)::S)))) w:=hw.perm M8
   have hw:=R8 (vr:=vr) hL hw
   clear hL;refine A4 ?_;refine C8 (fun μ ρ w=>∃(j:Nat),μ+j=fs.length∧Has ρ [(2,.pointer (some ⟨b2,0,none⟩)),(3,.pointer (some ⟨b3,0,none⟩)),(4,.pointer (some ⟨b4,0,none⟩)),(43,.slice fa fs.length fc),(44,.int .i64 fs.length),(45,.int .i64 j)]∧Wd Γ (SV b bm (.slice sa sn sc) (.slice ga gn gc) (.slice ta tn tc) (rs++(fs.take j).flatMap fun f=>(fun f:I3=>if L6 e g.Args f.2 then J3 φ e g.Args f.2 else []) f.fact)::D1 bm e::.blk b2 (.cells #[.pointer (some ⟨b,0,none⟩)] 117)::.blk b3 (.cells #[.int .i64 k] 3)::.blk b4 (.cells (cG ⟨g,A,N,C⟩).toArray 127)::S) w) fs.length ⟨0,by omega,⟨rfl,rfl,rfl,rfl,rfl,rfl,trivial⟩,by rw[List.take_zero,List.flatMap_nil,List.append_nil];exact hw⟩ ?_
   clear hw;rintro μ ρ w ⟨j,hj,hρ,hw⟩
   rw[hρ.eq];clear hρ;refine A4 ?_;refine A0 rfl (fun h=>?_) (fun h=>?_)
   ·have hjn:j<fs.length:=by have:=of_decide_eq_true h;omega
    clear h;obtain⟨f,hf⟩:=C0 (l:=fs) (k:=j) hjn
    obtain⟨h1,h2⟩:=hRL.ok f (List.mem_of_getElem? hf)
    have hm:f.fact∈R5 db g:=by rw[←heq];exact List.mem_map_of_mem (f:=C1.fact) (List.mem_of_getElem? hf)
    have hfl:=har _ hm
    have hsu:=Cb (F:=fun f:C1=>(fun f:I3=>if L6 e g.Args f.2 then J3 φ e g.Args f.2 else []) f.fact) hf
    have hle:=SJ (F:=fun f:C1=>(fun f:I3=>if L6 e g.Args f.2 then J3 φ e g.Args f.2 else []) f.fact) hf
    rw[←hRe2]at hle;have hrb:=hRL.rep
    refine A4 ?_;refine B2 ?_;intro b6 w hw;refine B0 ?_;intro w hw;obtain⟨fr,fa2,fn2,fc2,xs⟩:=f;have hw:Wd Γ (.blk b6 (.cells (cF ⟨fr,fa2,fn2,fc2,xs⟩).toArray 135)::SV b bm (.slice sa sn sc) (.slice ga gn gc) (.slice ta tn tc) (rs++(fs.take j).flatMap fun f=>(fun f:I3=>if L6 e g.Args f.2 then J3 φ e g.Args f.2 else []) f.fact)::D1 bm e::.blk b2 (.cells #[.pointer (some ⟨b,0,none⟩)] 117)::.blk b3 (.cells #[.int .i64 k] 3)::.blk b4 (.cells (cG ⟨g,A,N,C⟩).toArray 127)::S) w:=hw
    have hw:Wd Γ (SV b bm (.slice sa sn sc) (.slice ga gn gc) (.slice ta tn tc) (rs++(fs.take j).flatMap fun f=>(fun f:I3=>if L6 e g.Args f.2 then J3 φ e g.Args f.2 else []) f.fact)::D1 bm e::.blk b2 (.cells #[.pointer (some ⟨b,0,none⟩)] 117)::.blk b3 (.cells #[.int .i64 k] 3)::.blk b6 (.cells (cF ⟨fr,fa2,fn2,fc2,xs⟩).toArray 135)::.blk b4 (.cells (cG ⟨g,A,N,C⟩).toArray 127)::S) w:=hw.perm M8
    refine A4 ?_;refine C5 (vs:=[.pointer (some ⟨b,0,none⟩),.slice A N C,.agg (cF ⟨fr,fa2,fn2,fc2,xs⟩).toArray]) ((Qy (f:=⟨fr,fa2,fn2,fc2,xs⟩) (va:=.slice A N C) (os:=g.Args) hgok hgoal.args h1 h2 hfl he.noKey hgoal.len hw).mono fun r w hq=>?_)
    clear hw;obtain⟨rfl,hw⟩:=hq;refine⟨_,rfl,?_⟩;have hxl:((rs++(fs.take j).flatMap fun f=>(fun f:I3=>if L6 e g.Args f.2 then J3 φ e g.Args f.2 else []) f.fact).length=rs.length+((fs.take j).flatMap fun f=>(fun f:I3=>if L6 e g.Args f.2 then J3 φ e g.Args f.2 else []) f.fact).length):=List.length_append
    refine A4 ?_;refine A0 rfl (fun h=>?_) (fun h=>?_)
    ·have hF:(fun f:I3=>if L6 e g.Args f.2 then J3 φ e g.Args f.2 else []) (C1.fact ⟨fr,fa2,fn2,fc2,xs⟩)=J3 φ e g.Args xs:=if_pos h
     rw[hF]at hsu hle
     refine A4 ?_;refine C5 (vs:=[.pointer (some ⟨b,0,none⟩),.slice A N C,.slice fa2 fn2 fc2,.func (.func 111) #[] #[.pointer (some ⟨b2,0,none⟩),.pointer (some ⟨b3,0,none⟩)]]) ((JL (CAP:=[.blk b2 (.cells #[.pointer (some ⟨b,0,none⟩)] 117),.blk b3 (.cells #[.int .i64 k] 3)]) (S:=.blk b6 (.cells (cF ⟨fr,fa2,fn2,fc2,xs⟩).toArray 135)::.blk b4 (.cells (cG ⟨g,A,N,C⟩).toArray 127)::S) (rs:=rs++(fs.take j).flatMap fun f=>(fun f:I3=>if L6 e g.Args f.2 then J3 φ e g.Args f.2 else []) f.fact) (cap:=[.pointer (some ⟨b2,0,none⟩),.pointer (some ⟨b3,0,none⟩)]) (q:=111) (os:=g.Args) (xs:=xs) φ (fun e' rs' S' w h1 h2 h3=>KR (by omega) ihk e' rs' S' w h1 h2 h3) (D3.rdS hgok) (D3.rdS h1) hfl hgoal.len h2.2.2 he (by rw[hxl];omega) hw).mono fun r w hq=>?_)
     clear hw;obtain⟨rfl,hw⟩:=hq;refine⟨_,rfl,?_⟩;rw[List.append_assoc,←hsu]at hw;refine A4 ?_;refine⟨fs.length-j-1,by omega,j+1,by omega,⟨rfl,rfl,rfl,rfl,rfl,rfl,trivial⟩,?_⟩
     exact hw.dropAt 4
    ·have hF:(fun f:I3=>if L6 e g.Args f.2 then J3 φ e g.Args f.2 else []) (C1.fact ⟨fr,fa2,fn2,fc2,xs⟩)=[]:=if_neg (by show ¬L6 e g.Args xs=true;rw[show L6 e g.Args xs=false from h];simp)
     rw[hF,List.append_nil]at hsu;rw[←hsu]at hw;refine A4 ?_;refine⟨fs.length-j-1,by omega,j+1,by omega,⟨rfl,rfl,rfl,rfl,rfl,rfl,trivial⟩,?_⟩
     exact hw.dropAt 4
   have hjn:fs.length≤j:=by have:=of_decide_eq_false h;omega
   rw[List.take_of_length_le hjn,←hRe2]at hw;refine A4 ?_;exact⟨_,rfl,rfl,hw.ds [2,2,2]⟩
  have hk1:¬g.Kind=1:=of_decide_eq_false h
  clear h;rw[if_neg hk1]at hRe;refine A4 ?_;refine A0 rfl (fun h=>?_) (fun h=>?_)
  ·have hk4:g.Kind=4:=of_decide_eq_true h
   clear h;rw[if_pos hk4]at hRe;obtain⟨hlh,hlh2⟩:=hRx hk4
   have hi1:=hgoal.low
   have hi2:=hgoal.high
   have hsub:=Gy hi2 hi1 hlh
   have hw:Wd Γ (.blk b4 (.cells (cG ⟨g,A,N,C⟩).toArray 127)::D1 bm e::.blk b2 (.cells #[.pointer (some ⟨b,0,none⟩)] 117)::.blk b3 (.cells #[.int .i64 k] 3)::.blk b (E0 (.slice sa sn sc) (.slice ga gn gc) (.slice ta tn tc) vr bm)::(F4 vr L++S)) w:=hw.perm M8
   refine A4 ?_;refine FC 1 [[],[],[],[],[],[],[],[],[],[],[],[0],[0],[]] [[],[],[],[],[],[],[],[],[],[],[],[0],[0],[]] [[7]] ?_ (hw:=hw)
   refine i9 ?_;refine Eo ?_
   refine AG ?_
   refine i9 ?_;refine D9 ?_
   clear hw;intro b7 w hw;have hw:Wd Γ (.blk b7 (.cells (enc ((D2 e g.L.Var).getD default)).toArray 54)::.blk b4 (.cells (cG ⟨g,A,N,C⟩).toArray 127)::D1 bm e::.blk b2 (.cells #[.pointer (some ⟨b,0,none⟩)] 117)::.blk b3 (.cells #[.int .i64 k] 3)::.blk b (E0 (.slice sa sn sc) (.slice ga gn gc) (.slice ta tn tc) vr bm)::(F4 vr L++S)) w:=hw
   have hw:Wd Γ (.blk b (E0 (.slice sa sn sc) (.slice ga gn gc) (.slice ta tn tc) vr bm)::(F4 vr L++(D1 bm e::.blk b2 (.cells #[.pointer (some ⟨b,0,none⟩)] 117)::.blk b3 (.cells #[.int .i64 k] 3)::.blk b7 (.cells (enc ((D2 e g.L.Var).getD default)).toArray 54)::.blk b4 (.cells (cG ⟨g,A,N,C⟩).toArray 127)::S))) w:=hw.perm M8
   have hw:=R8 (vr:=vr) hL hw
   clear hL;refine A4 ?_;refine A0 rfl (fun h=>?_) (fun h=>?_)
   ·obtain⟨v,hv⟩:=Option.isSome_iff_exists.1 h
    clear h;rw[hv]at hw hRe
    simp only at hRe
    have hw:Wd Γ (SV b bm (.slice sa sn sc) (.slice ga gn gc) (.slice ta tn tc) rs::D1 bm e::.blk b2 (.cells #[.pointer (some ⟨b,0,none⟩)] 117)::.blk b3 (.cells #[.int .i64 k] 3)::.blk b7 (.cells (enc v).toArray 54)::.blk b4 (.cells (cG ⟨g,A,N,C⟩).toArray 127)::S) w:=hw
    refine A4 ?_;refine A0 rfl (fun h=>?_) (fun h=>?_)
    ·have hc:v.Kind=1∧g.Low≤v.Num∧v.Num≤g.High:=by
      simp only[Bool.and_eq_true,decide_eq_true_eq]at h
      exact⟨h.1.1,h.1.2,h.2⟩
     rw[if_pos hc]at hRe;refine A4 ?_;refine C5 (vs:=[.pointer (some ⟨b,0,none⟩),.int .i64 ((k+1:Nat):Int)]) ((ihk _ e rs w he (by rw[←hRe];exact hrs) hw).mono fun r w hq=>?_)
     clear hw;obtain⟨rfl,hw⟩:=hq;refine⟨_,rfl,?_⟩;rw[←hRe]at hw;refine A4 ?_;exact⟨_,rfl,rfl,hw.ds [2,2,2,2]⟩
    ·have hc:¬(v.Kind=1∧g.Low≤v.Num∧v.Num≤g.High):=by
      intro hc;simp only[Bool.and_eq_false_iff,decide_eq_false_iff_not]at h
      rcases h with (h|h)|h
      ·exact h hc.1
      ·exact h hc.2.1
      ·exact h hc.2.2
     rw[if_neg hc]at hRe;refine A4 ?_;refine⟨_,rfl,rfl,?_⟩
     rw[hRe,List.append_nil];exact hw.ds [2,2,2,2]
   have hv:D2 e g.L.Var=none:=by simpa using h
   clear h;rw[hv]at hRe;simp only at hRe
   obtain⟨M,hM⟩:∃M,M=(g.High-g.Low+1).toNat:=⟨_,rfl⟩
   rw[←hM]at hRe;have hw:Wd Γ (SV b bm (.slice sa sn sc) (.slice ga gn gc) (.slice ta tn tc) rs::D1 bm e::.blk b2 (.cells #[.pointer (some ⟨b,0,none⟩)] 117)::.blk b3 (.cells #[.int .i64 k] 3)::.blk b4 (.cells (cG ⟨g,A,N,C⟩).toArray 127)::S) w:=hw.dropAt 4
   refine A4 ?_;refine C8 (fun μ ρ w=>∃(j:Nat),μ+j=M∧Has ρ [(2,.pointer (some ⟨b2,0,none⟩)),(3,.pointer (some ⟨b3,0,none⟩)),(4,.pointer (some ⟨b4,0,none⟩)),(9,.int .u64 j)]∧Wd Γ (SV b bm (.slice sa sn sc) (.slice ga gn gc) (.slice ta tn tc) (rs++((List.range M).take j).flatMap (fun n:Nat=>J3 φ e [g.L] [d4 g.Low n]))::D1 bm e::.blk b2 (.cells #[.pointer (some ⟨b,0,none⟩)] 117)::.blk b3 (.cells #[.int .i64 k] 3)::.blk b4 (.cells (cG ⟨g,A,N,C⟩).toArray 127)::S) w) M ⟨0,by omega,⟨rfl,rfl,rfl,rfl,trivial⟩,by rw[List.take_zero,List.flatMap_nil,List.append_nil];exact hw⟩ ?_
   clear hw;rintro μ ρ w ⟨j,hj,hρ,hw⟩
   rw[hρ.eq];clear hρ;refine A4 ?_;refine A0 rfl (fun h=>?_) (fun h=>?_)
   ·have h:(j:Int)≤IntKind.u64.wrap (IntKind.u64.wrap g.High-IntKind.u64.wrap g.Low):=of_decide_eq_true h
    rw[hsub]at h;have hjM:j<M:=by omega
    have hgj:(List.range M)[j]? = some j:=List.getElem?_range hjM
    have hsu:=Cb (F:=(fun n:Nat=>J3 φ e [g.L] [d4 g.Low n])) hgj
    have hle:=SJ (F:=(fun n:Nat=>J3 φ e [g.L] [d4 g.Low n])) hgj
    rw[←hRe]at hle;have hxl:((rs++((List.range M).take j).flatMap (fun n:Nat=>J3 φ e [g.L] [d4 g.Low n])).length=rs.length+(((List.range M).take j).flatMap (fun n:Nat=>J3 φ e [g.L] [d4 g.Low n])).length):=List.length_append
    have hwj:IntKind.i64.wrap (j:Int)=j:=wrap_i64 (by omega) (by omega)
    unfold Bq at hi1 hi2;have hvok:d3 (d4 g.Low j):=⟨⟨by show _≤g.Low+(j:Int);omega,by show g.Low+(j:Int)≤_;omega⟩,by show (⟨#[]⟩:ByteArray).size≤9223372036854775807;decide⟩
    clear h hsub;refine A4 ?_;refine B2 ?_;intro b10 w hw;refine B0 ?_;intro w hw;have hw:Wd Γ (.blk b10 (.cells #[.int .i64 1,.int .i64 (IntKind.i64.wrap (g.Low+IntKind.i64.wrap (j:Int))),.string ⟨#[]⟩] 54)::SV b bm (.slice sa sn sc) (.slice ga gn gc) (.slice ta tn tc) (rs++((List.range M).take j).flatMap (fun n:Nat=>J3 φ e [g.L] [d4 g.Low n]))::D1 bm e::.blk b2 (.cells #[.pointer (some ⟨b,0,none⟩)] 117)::.blk b3 (.cells #[.int .i64 k] 3)::.blk b4 (.cells (cG ⟨g,A,N,C⟩).toArray 127)::S) w:=hw
    rw[hwj,wrap_i64 (by omega) (by omega)]at hw
    have hw:Wd Γ (.blk b10 (.cells (enc (d4 g.Low j)).toArray 54)::SV b bm (.slice sa sn sc) (.slice ga gn gc) (.slice ta tn tc) (rs++((List.range M).take j).flatMap (fun n:Nat=>J3 φ e [g.L] [d4 g.Low n]))::D1 bm e::.blk b2 (.cells #[.pointer (some ⟨b,0,none⟩)] 117)::.blk b3 (.cells #[.int .i64 k] 3)::.blk b4 (.cells (cG ⟨g,A,N,C⟩).toArray 127)::S) w:=hw
    refine A4 ?_;refine D7 [enc g.L] ?_
    intro q1 w hw;refine A4 ?_;refine D7 [enc (d4 g.Low j)] ?_
    intro q2 w hw;have hw:Wd Γ (.own (.slice (some q2) 1 1) 54 3 [enc (d4 g.Low j)]::.own (.slice (some q1) 1 1) 125 4 [enc g.L]::.blk b10 (.cells (enc (d4 g.Low j)).toArray 54)::SV b bm (.slice sa sn sc) (.slice ga gn gc) (.slice ta tn tc) (rs++((List.range M).take j).flatMap (fun n:Nat=>J3 φ e [g.L] [d4 g.Low n]))::D1 bm e::.blk b2 (.cells #[.pointer (some ⟨b,0,none⟩)] 117)::.blk b3 (.cells #[.int .i64 k] 3)::.blk b4 (.cells (cG ⟨g,A,N,C⟩).toArray 127)::S) w:=hw
    have hw:Wd Γ (SV b bm (.slice sa sn sc) (.slice ga gn gc) (.slice ta tn tc) (rs++((List.range M).take j).flatMap (fun n:Nat=>J3 φ e [g.L] [d4 g.Low n]))::D1 bm e::.blk b2 (.cells #[.pointer (some ⟨b,0,none⟩)] 117)::.blk b3 (.cells #[.int .i64 k] 3)::.own (.slice (some q1) 1 1) 125 4 [enc g.L]::.own (.slice (some q2) 1 1) 54 3 [enc (d4 g.Low j)]::.blk b10 (.cells (enc (d4 g.Low j)).toArray 54)::.blk b4 (.cells (cG ⟨g,A,N,C⟩).toArray 127)::S) w:=hw.perm M8
    refine A4 ?_;refine C5 (vs:=[.pointer (some ⟨b,0,none⟩),.slice (some q1) 1 1,.slice (some q2) 1 1,.func (.func 112) #[] #[.pointer (some ⟨b2,0,none⟩),.pointer (some ⟨b3,0,none⟩)]]) ((JL (CAP:=[.blk b2 (.cells #[.pointer (some ⟨b,0,none⟩)] 117),.blk b3 (.cells #[.int .i64 k] 3)]) (S:=.own (.slice (some q1) 1 1) 125 4 [enc g.L]::.own (.slice (some q2) 1 1) 54 3 [enc (d4 g.Low j)]::.blk b10 (.cells (enc (d4 g.Low j)).toArray 54)::.blk b4 (.cells (cG ⟨g,A,N,C⟩).toArray 127)::S) (rs:=rs++((List.range M).take j).flatMap (fun n:Nat=>J3 φ e [g.L] [d4 g.Low n])) (cap:=[.pointer (some ⟨b2,0,none⟩),.pointer (some ⟨b3,0,none⟩)]) (q:=112) (os:=[g.L]) (xs:=[d4 g.Low j]) φ (fun e' rs' S' w h1 h2 h3=>JW (by omega) ihk e' rs' S' w h1 h2 h3) (O9.ownI (i:=2) rfl rfl (Nat.le_refl _) (by omega)) (O9.ownI (i:=3) rfl rfl (Nat.le_refl _) (by omega)) rfl (by simp) (fun v hv=>by rw[List.mem_singleton.1 hv];exact hvok) he (by rw[hxl];omega) hw).mono fun r w hq=>?_)
    clear hw;obtain⟨rfl,hw⟩:=hq;refine⟨_,rfl,?_⟩;rw[List.append_assoc,←hsu]at hw;refine A4 ?_;refine⟨M-j-1,by omega,j+1,by omega,⟨rfl,rfl,rfl,(by show Value.int .u64 (IntKind.u64.wrap ((j:Int)+1))=_;rw[p9 (by omega) (by omega)];rfl),trivial⟩,?_⟩
    exact hw.ds [4,4,4]
   have h:¬(j:Int)≤IntKind.u64.wrap (IntKind.u64.wrap g.High-IntKind.u64.wrap g.Low):=of_decide_eq_false h
   rw[hsub]at h;rw[List.take_of_length_le (by rw[List.length_range];omega),←hRe]at hw
   refine A4 ?_;exact⟨_,rfl,rfl,hw.ds [2,2,2]⟩
  have hk4:¬g.Kind=4:=of_decide_eq_false h
  clear h;rw[if_neg hk4]at hRe;have hw:Wd Γ (.blk b (E0 (.slice sa sn sc) (.slice ga gn gc) (.slice ta tn tc) vr bm)::(F4 vr L++(D1 bm e::.blk b2 (.cells #[.pointer (some ⟨b,0,none⟩)] 117)::.blk b3 (.cells #[.int .i64 k] 3)::.blk b4 (.cells (cG ⟨g,A,N,C⟩).toArray 127)::S))) w:=hw.perm M8
  have hw:=R8 (vr:=vr) hL hw
  refine A4 ?_;refine C5 (vs:=[.pointer (some ⟨b,0,none⟩),.int .i64 ((k+1:Nat):Int)]) ((ihk _ e rs w he (by rw[←hRe];exact hrs) hw).mono fun r w hq=>?_)
  clear hw;obtain⟨rfl,hw⟩:=hq;refine⟨_,rfl,?_⟩;rw[←hRe]at hw;refine A4 ?_;exact⟨_,rfl,rfl,hw.ds [2,2,2]⟩
end Go.Proofs.YtlimglpjpcfpdaaGreat
end
section
open Go Mk
namespace Go.Proofs.YtlimglpjpcfpdaaGreat
set_option maxHeartbeats 16000000
attribute [local irreducible] Calls cI cB
abbrev y0(bm:Nat)(ks:List ByteArray):A7:=A7.ms Value.bool bm (ks.map fun s=>(s,true))
theorem Nw{ks:List ByteArray}{s:ByteArray}:BY (ks.map fun s=>(s,true)) s=ks.findIdx? fun t=>decide (t=s):=by
 unfold BY;rw[List.findIdx?_map];rfl
theorem Cr{ks:List ByteArray}{s:ByteArray}:(D2 (ks.map fun s=>(s,true)) s).getD default=j8 ks s:=by
 unfold D2 j8;rw[Nw];cases h:ks.findIdx? fun t=>decide (t=s) with
 | none=>
  rw[List.findIdx?_eq_none_iff]at h;symm
  show _=false
  rw[List.any_eq_false];intro x hx;rw[h x hx];simp
 | some i=>
  have hh:=List.findIdx?_eq_some_iff_getElem.1 h
  obtain⟨h1,h2,-⟩:=hh;simp only[Option.bind_some]
  rw[List.getElem?_map,List.getElem?_eq_getElem h1];symm
  show _=true
  rw[List.any_eq_true];exact⟨ks[i],List.getElem_mem h1,h2⟩
theorem Co{ks:List ByteArray}{s:ByteArray}:AA (ks.map fun s=>(s,true)) s true=(addN ks s).map fun s=>(s,true):=by
 unfold AA addN j8;rw[Nw];cases h:ks.findIdx? fun t=>decide (t=s) with
 | none=>
  rw[List.findIdx?_eq_none_iff]at h;have:(ks.any fun t=>decide (t=s))=false:=by
   rw[List.any_eq_false];intro x hx;rw[h x hx];simp
  rw[this];simp
 | some i=>
  have hh:=List.findIdx?_eq_some_iff_getElem.1 h
  obtain⟨h1,h2,-⟩:=hh;have h2:ks[i]=s:=of_decide_eq_true h2
  have:(ks.any fun t=>decide (t=s))=true:=List.any_eq_true.2 ⟨ks[i],List.getElem_mem h1,decide_eq_true h2⟩
  rw[this];simp only[if_true]
  have e:(s,true)=(ks.map fun s=>(s,true))[i]'(by rw[List.length_map];exact h1):=by simp[h2]
  rw[e];exact List.set_getElem_self _
theorem GD{α β:Type}(f:α→β):∀(l:List α) (i:Nat),(l.map f).eraseIdx i=(l.eraseIdx i).map f
 | [],_=>rfl
 | _::_,0=>rfl
 | a::l,i+1=>by
  show f a::(l.map f).eraseIdx i=f a::(l.eraseIdx i).map f
  rw[GD f l i]
theorem Oi{ks:List ByteArray}{s:ByteArray}(hn:ks.Nodup):U9 (ks.map fun s=>(s,true)) s=(ks.filter fun t=>decide (t≠s)).map fun s=>(s,true):=by
 unfold U9;rw[Nw];have key:∀(ks:List ByteArray),ks.Nodup→(match ks.findIdx? (fun t=>decide (t=s)) with|some i=>ks.eraseIdx i|none=>ks)=ks.filter fun t=>decide (t≠s):=by
  intro ks;induction ks with
  | nil=>intro _;rfl
  | cons a l ih=>
   intro hn;rw[List.nodup_cons]at hn;rw[List.findIdx?_cons];by_cases h:a=s
   ·subst h;simp only[decide_true,if_true,List.eraseIdx_zero,List.tail_cons]
    rw[List.filter_cons,if_neg (by simp)]
    rw[List.filter_eq_self.2];intro x hx;simp only[ne_eq,decide_eq_true_eq]
    exact fun e=>hn.1 (e ▸ hx)
   ·rw[decide_eq_false h];simp only[Bool.false_eq_true,if_false]
    rw[List.filter_cons,if_pos (by simpa using h),←ih hn.2]
    cases hq:l.findIdx? fun t=>decide (t=s) with
    | none=>rfl
    | some i=>rfl
 rw[←key ks hn];cases hq:ks.findIdx? fun t=>decide (t=s) with
 | none=>rfl
 | some i=>
  show (ks.map _).eraseIdx i=(ks.eraseIdx i).map _
  exact GD _ _ _
theorem NO{l:List ByteArray}{s t:ByteArray}:t∈addN l s↔t∈l∨t=s:=by
 unfold addN;split
 ·rename_i h
  rw[W0]at h;exact⟨Or.inl,fun h2=>h2.elim id fun e=>e ▸ h⟩
 ·simp
theorem JX{l:List ByteArray}{s:ByteArray}(h:l.Nodup):(addN l s).Nodup:=by
 unfold addN;split
 ·exact h
 ·rename_i h2
  rw[W0]at h2;rw[List.nodup_append];exact⟨h,by simp,fun a ha b hb=>by
   rw[List.mem_singleton.1 hb];exact fun e=>h2 (e ▸ ha)⟩
theorem EV:∀ {ns ks:List ByteArray},ks.Nodup→(ns.foldl addN ks).Nodup
 | [],_,h=>h
 | _::ns,_,h=>EV (ns:=ns) (JX h)
theorem CS{s:ByteArray}:∀ {ns ks:List ByteArray},s∈ns.foldl addN ks↔s∈ks∨s∈ns
 | [],_=>by simp
 | n::ns,ks=>by
  rw[List.foldl_cons,CS (ns:=ns),NO,List.mem_cons,or_assoc]
theorem Do{p:ByteArray→Bool}:∀ {ns ks:List ByteArray},(ns.foldl addN ks).filter p=(ns.filter p).foldl addN (ks.filter p)
 | [],_=>rfl
 | n::ns,ks=>by
  have key:(addN ks n).filter p=if p n=true then addN (ks.filter p) n else ks.filter p:=by
   unfold addN;by_cases h:j8 ks n=true
   ·rw[if_pos h];by_cases hp:p n=true
    ·rw[if_pos hp,if_pos];rw[W0]at h ⊢
     exact List.mem_filter.2 ⟨h,hp⟩
    ·rw[if_neg hp]
   ·rw[if_neg h,List.filter_append];by_cases hp:p n=true
    ·rw[if_pos hp,if_neg]
     ·simp[hp]
     ·intro h2;rw[W0]at h h2
      exact h (List.mem_filter.1 h2).1
    ·rw[if_neg hp];simp[hp]
  rw[List.foldl_cons,Do (ns:=ns),key,List.filter_cons];by_cases hp:p n=true
  ·rw[if_pos hp,if_pos hp,List.foldl_cons]
  ·rw[if_neg hp,if_neg hp]
theorem Lk{q:E7}:((((Ea q).foldl addN []).filter fun t=>decide (t≠D8)).filter fun t=>decide (t≠I8))=l4 q:=by
 rw[List.filter_filter];unfold l4;have e:(fun t:ByteArray=>decide (t≠I8)&&decide (t≠D8))=RN:=by
  funext t
  unfold RN;rw[Bool.and_comm]
 rw[e,Do];rfl
section
variable {Γ:B8}{vs vg:Value}{gs:List H4}{q:E7}
theorem QR.glen{N:Nat}(hq:QR Γ vs vg gs q)(hok:T4 N q):gs.length≤1000:=by
 have:=hok.len
 rw[←hq.eq,List.length_map]at this;exact this
theorem QR.goal{N:Nat}(hq:QR Γ vs vg gs q)(hok:T4 N q){x:H4}(hx:x∈gs):FQ N x.g:=
 hok.goals _ (by rw[←hq.eq];exact List.mem_map_of_mem (f:=(·.g)) hx)
theorem QR.get(hq:QR Γ vs vg gs q){k:Nat}{x:H4}(hx:gs[k]? = some x):q.Goals[k]? = some x.g:=by
 rw[←hq.eq,List.getElem?_map,hx];rfl
theorem QR.nlen(hq:QR Γ vs vg gs q):q.Goals.length=gs.length:=by
 rw[←hq.eq,List.length_map]
end
theorem Dx{Γ:B8}{vs vg:Value}{gs:List H4}{q:E7}{N:Nat}(hq0:QR Γ vs vg gs q)(hok:T4 N q)(hN:N≤9223372036854775807:=by first|decide|assumption):PG Tryz.prog Γ 105 [.agg #[vs,vg]] (.int .i64 (if BX q=true then 0 else 6)):=r9 fun Γ w hle hw=>by
 have hq:=hq0.mono hle
 obtain⟨ga,gn,gc,rfl,hgn,hgnc,hgc⟩:=hq.goals.shape;obtain⟨sa,sn,sc,rfl,hsn,hsnc,hsc⟩:=hq.sel.shape;simp only[List.length_map]at hgn hsn
 have hrG:=hq.goals
 have hgl:=hq.glen hok
 refine A3 Tryz.func105 rfl rfl ?_
 refine A4 ?_;refine E5 ?_;intro b1 w hw;have hw:Wd Γ [.blk b1 (.cells #[.slice sa sn sc,.slice ga gn gc] 26)] w:=hw
 refine A4 ?_;refine C8 (fun μ ρ w=>∃(k:Nat),μ+k=gn∧Has ρ [(1,.pointer (some ⟨b1,0,none⟩)),(6,.slice ga gn gc),(7,.int .i64 gn),(8,.int .i64 k)]∧BX q=(q.Goals.drop k).all AB∧Wd Γ [.blk b1 (.cells #[.slice sa sn sc,.slice ga gn gc] 26)] w) gn ⟨0,by omega,⟨rfl,rfl,rfl,rfl,trivial⟩,rfl,hw⟩ ?_
 clear hw;rintro μ ρ w ⟨k,hk,hρ,hall,hw⟩
 rw[hρ.eq];clear hρ;refine A4 ?_;refine A0 rfl (fun h=>?_) (fun h=>?_)
 ·have hkn:k<gn:=by have:=of_decide_eq_true h;omega
  clear h;obtain⟨x,hx⟩:=C0 (l:=gs) (k:=k) (by omega)
  have hgoal:=hq.goal hok (List.mem_of_getElem? hx)
  rw[P7 (hq.get hx)]at hall;obtain⟨g,A,N,C⟩:=x;simp only at hall hgoal
  obtain⟨hm1,hm2⟩:=hgoal.low;obtain⟨hm3,hm4⟩:=hgoal.high;refine A4 ?_;refine B2 ?_;intro b4 w hw;refine A4 ?_;refine B0 ?_;intro w hw;have hw:Wd Γ [.blk b4 (.cells (cG ⟨g,A,N,C⟩).toArray 127),.blk b1 (.cells #[.slice sa sn sc,.slice ga gn gc] 26)] w:=hw
  refine A4 ?_;refine A0 rfl (fun h=>?_) (fun h=>?_)
  ·have hk3:g.Kind=3:=of_decide_eq_true h
   clear h;have hn:AB g=(decide (1≤g.Op)&&decide (g.Op≤6)&&decide (g.Off≠-9223372036854775808)):=by unfold AB;rw[if_pos hk3]
   refine A4 ?_;refine A0 rfl (fun h=>?_) (fun h=>?_)
   ·have hf:AB g=false:=by
     rw[hn];simp only[Bool.or_eq_true,decide_eq_true_eq]at h
     simp only[Bool.and_eq_false_iff,decide_eq_false_iff_not]
     rcases h with (h|h)|h
     ·exact .inl (.inl (by omega))
     ·exact .inl (.inr (by omega))
     ·exact .inr (by simpa using h)
    refine A4 ?_;refine⟨_,rfl,Γ,B8.le.refl _,C9 rfl ?_,hw.drop.drop⟩
    rw[hall,hf];rfl
   ·have hf:AB g=true:=by
     rw[hn];simp only[Bool.or_eq_false_iff,decide_eq_false_iff_not]at h
     simp only[Bool.and_eq_true,decide_eq_true_eq]
     exact⟨⟨by omega,by omega⟩,h.2⟩
    rw[hf,Bool.true_and]at hall;refine A4 ?_;exact⟨μ-1,by omega,k+1,by omega,⟨rfl,rfl,rfl,rfl,trivial⟩,hall,hw.drop⟩
  have hk3:¬g.Kind=3:=of_decide_eq_false h
  clear h;refine A4 ?_;refine A0 rfl (fun h=>?_) (fun h=>?_)
  ·have hk4:g.Kind=4:=of_decide_eq_true h
   clear h;have hn:AB g=(decide (g.Low≤g.High)&&decide (g.High-g.Low≤1000000)):=by unfold AB;rw[if_neg hk3,if_pos hk4]
   have hsub:g.Low≤g.High→IntKind.u64.wrap (IntKind.u64.wrap g.High-IntKind.u64.wrap g.Low)=g.High-g.Low:=fun h=>Gy hgoal.high hgoal.low h
   refine A4 ?_;refine A0 rfl (fun h=>?_) (fun h=>?_)
   ·have hf:AB g=false:=by
     rw[hn];simp only[Bool.or_eq_true,decide_eq_true_eq]at h
     simp only[Bool.and_eq_false_iff,decide_eq_false_iff_not]
     by_cases hl:g.Low≤g.High
     ·refine .inr ?_
      rcases h with h|h
      ·have h:g.High<g.Low:=h
       omega
      ·have h:1000000<IntKind.u64.wrap (IntKind.u64.wrap g.High-IntKind.u64.wrap g.Low):=h
       rw[hsub hl]at h;omega
     ·exact .inl hl
    refine A4 ?_;refine⟨_,rfl,Γ,B8.le.refl _,C9 rfl ?_,hw.drop.drop⟩
    rw[hall,hf];rfl
   ·have hf:AB g=true:=by
     rw[hn];simp only[Bool.or_eq_false_iff,decide_eq_false_iff_not]at h
     obtain⟨h1,h2⟩:=h;have h1:¬g.High<g.Low:=h1
     have hl:g.Low≤g.High:=by omega
     have h2:¬1000000<IntKind.u64.wrap (IntKind.u64.wrap g.High-IntKind.u64.wrap g.Low):=h2
     rw[hsub hl]at h2;simp only[Bool.and_eq_true,decide_eq_true_eq]
     exact⟨hl,by omega⟩
    rw[hf,Bool.true_and]at hall;refine A4 ?_;exact⟨μ-1,by omega,k+1,by omega,⟨rfl,rfl,rfl,rfl,trivial⟩,hall,hw.drop⟩
  have hk4:¬g.Kind=4:=of_decide_eq_false h
  have hf:AB g=true:=by unfold AB;rw[if_neg hk3,if_neg hk4]
  rw[hf,Bool.true_and]at hall;refine A4 ?_;exact⟨μ-1,by omega,k+1,by omega,⟨rfl,rfl,rfl,rfl,trivial⟩,hall,hw.drop⟩
 have hkn:gn≤k:=by have:=of_decide_eq_false h;omega
 rw[E3 _ (by rw[hq.nlen];omega)]at hall
 refine A4 ?_;refine⟨_,rfl,Γ,B8.le.refl _,C9 rfl ?_,hw.drop⟩
 rw[hall];rfl
def OI(g:F5):Bool:=!F7 g||(decide (1≤g.Args.length)&&decide (g.Args.length≤8))
theorem Es{Γ:B8}{vs vg:Value}{gs:List H4}{q:E7}{N:Nat}(hq0:QR Γ vs vg gs q)(hok:T4 N q)(hN:N≤9223372036854775807:=by first|decide|assumption):PG Tryz.prog Γ 102 [.agg #[vs,vg]] (.int .i64 (if y5 q=true then 0 else 15)):=r9 fun Γ w hle hw=>by
 have hq:=hq0.mono hle
 obtain⟨ga,gn,gc,rfl,hgn,hgnc,hgc⟩:=hq.goals.shape;obtain⟨sa,sn,sc,rfl,hsn,hsnc,hsc⟩:=hq.sel.shape;simp only[List.length_map]at hgn hsn
 have hrG:=hq.goals
 have hrS:=hq.sel
 have hgl:=hq.glen hok
 have hsl:=hok.sel
 have hnl:=hq.nlen
 refine A3 Tryz.func102 rfl rfl ?_
 refine A4 ?_;refine E5 ?_;intro b1 w hw;have hw:Wd Γ [.blk b1 (.cells #[.slice sa sn sc,.slice ga gn gc] 26)] w:=hw
 refine A4 ?_;refine A0 rfl (fun h=>?_) (fun h=>?_)
 ·have hf:y5 q=false:=by
   simp only[Bool.or_eq_true,decide_eq_true_eq]at h
   unfold y5;rcases h with (h|h)|h
   ·rw[decide_eq_false (by omega)];rfl
   ·rw[decide_eq_false (p:=q.Goals.length≤16) (by omega),Bool.and_false];rfl
   ·rw[decide_eq_false (p:=q.Sel.length≤8) (by omega),Bool.and_false];rfl
  refine A4 ?_;refine⟨_,rfl,Γ,B8.le.refl _,C9 rfl ?_,hw.drop⟩
  rw[hf];rfl
 have hb:1≤gn∧gn≤16∧sn≤8:=by
  simp only[Bool.or_eq_false_iff,decide_eq_false_iff_not]at h
  obtain⟨⟨h1,h2⟩,h3⟩:=h;omega
 clear h;have hokl:y5 q=((q.Goals.all OI)&&decide ((l4 q).length≤8)):=by
  unfold y5;rw[decide_eq_true (by omega:1≤q.Goals.length),decide_eq_true (by omega:q.Goals.length≤16),decide_eq_true (by omega:q.Sel.length≤8)];rfl
 refine A4 ?_;refine H1 rfl rfl (m8 (K:=9) (α:=ByteArray) (f:=Value.bool) hw fun bm w hw=>?_)
 have hw:Wd Γ [y0 bm [],.blk b1 (.cells #[.slice sa sn sc,.slice ga gn gc] 26)] w:=hw
 refine A4 ?_;refine C8 (fun μ ρ w=>∃(k:Nat),μ+k=sn∧Has ρ [(1,.pointer (some ⟨b1,0,none⟩)),(3,.map (some bm)),(28,.slice sa sn sc),(29,.int .i64 sn),(30,.int .i64 k)]∧Wd Γ [y0 bm ((q.Sel.take k).foldl addN []),.blk b1 (.cells #[.slice sa sn sc,.slice ga gn gc] 26)] w) sn ⟨0,by omega,⟨rfl,rfl,rfl,rfl,rfl,trivial⟩,hw⟩ ?_
 clear hw;rintro μ ρ w ⟨k,hk,hρ,hw⟩
 rw[hρ.eq];clear hρ;refine A4 ?_;refine A0 rfl (fun h=>?_) (fun h=>?_)
 ·have hkn:k<sn:=by have:=of_decide_eq_true h;omega
  clear h;obtain⟨s,hs⟩:=C0 (l:=q.Sel) (k:=k) (by omega)
  refine A4 ?_;refine H1 rfl rfl (T8 (f:=Value.bool) (v:=true) (i:=0) (l:=((q.Sel.take k).foldl addN []).map fun s=>(s,true)) hw rfl rfl rfl rfl fun w hw=>?_)
  rw[Co]at hw;have hw:Wd Γ [y0 bm ((q.Sel.take (k+1)).foldl addN []),.blk b1 (.cells #[.slice sa sn sc,.slice ga gn gc] 26)] w:=by
   rw[List.take_add_one,hs,List.foldl_append];exact hw
  refine A4 ?_;exact⟨μ-1,by omega,k+1,by omega,⟨rfl,rfl,rfl,rfl,rfl,trivial⟩,hw⟩
 have hkn:sn≤k:=by have:=of_decide_eq_false h;omega
 clear h;rw[List.take_of_length_le (by omega)]at hw
 have hw:Wd Γ [y0 bm ((q.Sel++(q.Goals.take 0).flatMap fun g=>(H3 g).map (·.Var)).foldl addN []),.blk b1 (.cells #[.slice sa sn sc,.slice ga gn gc] 26)] w:=by
  rw[List.take_zero,List.flatMap_nil,List.append_nil];exact hw
 clear hk hkn;refine A4 ?_;refine C8 (fun μ ρ w=>∃(Γ':B8) (k:Nat),Γ.le Γ'∧μ+k=gn∧Has ρ [(1,.pointer (some ⟨b1,0,none⟩)),(3,.map (some bm)),(38,.slice ga gn gc),(39,.int .i64 gn),(40,.int .i64 k)]∧q.Goals.all OI=(q.Goals.drop k).all OI∧Wd Γ' [y0 bm ((q.Sel++(q.Goals.take k).flatMap fun g=>(H3 g).map (·.Var)).foldl addN []),.blk b1 (.cells #[.slice sa sn sc,.slice ga gn gc] 26)] w) gn ⟨Γ,0,B8.le.refl _,by omega,⟨rfl,rfl,rfl,rfl,rfl,trivial⟩,rfl,hw⟩ ?_
 clear hw;rintro μ ρ w ⟨Γ1,k,hle1,hk,hρ,hall,hw⟩
 rw[hρ.eq];clear hρ;have hq1:=hq.mono hle1
 have hrG1:=hq1.goals
 refine A4 ?_;refine A0 rfl (fun h=>?_) (fun h=>?_)
 ·have hkn:k<gn:=by have:=of_decide_eq_true h;omega
  clear h;obtain⟨x,hx⟩:=C0 (l:=gs) (k:=k) (by omega)
  have hxm:=List.mem_of_getElem? hx
  have hgoal:=hq.goal hok hxm
  have hgok:=hq1.ok x hxm
  have hgx:=hq.get hx
  rw[P7 hgx]at hall;obtain⟨l1,l2,l3⟩:=hgok.len;obtain⟨g,A,N,C⟩:=x;simp only at hall hgoal l1 l2 l3 hgx
  have hal:=hgoal.len
  refine A4 ?_;refine B2 ?_;intro b7 w hw;refine A4 ?_;refine B0 ?_;intro w hw;have hw:Wd Γ1 [.blk b7 (.cells (cG ⟨g,A,N,C⟩).toArray 127),y0 bm ((q.Sel++(q.Goals.take k).flatMap fun g=>(H3 g).map (·.Var)).foldl addN []),.blk b1 (.cells #[.slice sa sn sc,.slice ga gn gc] 26)] w:=hw
  repeat first|refine B6 ?_|refine B7 ?_;intro w hw
  refine A0 rfl (fun h=>?_) (fun h=>?_)
  ·have hf:OI g=false:=by
    have h:(F7 g&&(decide ((N:Int)<1)||decide (8<(N:Int))))=true:=h
    rw[Bool.and_eq_true,Bool.or_eq_true,decide_eq_true_eq,decide_eq_true_eq]at h;show (!F7 g||_)=false
    rw[h.1];simp only[Bool.not_true,Bool.false_or,Bool.and_eq_false_iff,decide_eq_false_iff_not]
    rcases h.2 with h2|h2
    ·exact .inl (by omega)
    ·exact .inr (by omega)
   refine A4 ?_;refine⟨_,rfl,Γ1,hle1,C9 rfl ?_,O1 hw⟩
   rw[hokl,hall,hf];rfl
  have hf:OI g=true:=by
   have h:(F7 g&&(decide ((N:Int)<1)||decide (8<(N:Int))))=false:=h
   show (!F7 g||_)=true
   cases hi:F7 g with
   | false=>rfl
   | true=>
    rw[hi,Bool.true_and,Bool.or_eq_false_iff,decide_eq_false_iff_not,decide_eq_false_iff_not]at h;rw[decide_eq_true (by omega),decide_eq_true (by omega)];rfl
  clear h;rw[hf,Bool.true_and]at hall;refine A4 ?_;refine C5 (vs:=[.agg (cG ⟨g,A,N,C⟩).toArray]) ((U1 hgok hw).mono fun e w hq2=>?_)
  clear hw;obtain⟨Γ2,v,hle2,rfl,hrv,hw⟩:=hq2;obtain⟨oa,on,oc,rfl,hon,honc,hoc⟩:=hrv.shape;simp only[List.length_map]at hon
  have hol:=o4 hgoal hN
  refine⟨_,rfl,?_⟩;refine A4 ?_;refine C8 (fun μ ρ w=>∃(j:Nat),μ+j=on∧Has ρ [(1,.pointer (some ⟨b1,0,none⟩)),(3,.map (some bm)),(38,.slice ga gn gc),(39,.int .i64 gn),(40,.int .i64 k),(59,.slice oa on oc),(60,.int .i64 on),(61,.int .i64 j)]∧Wd Γ2 [.blk b7 (.cells (cG ⟨g,A,N,C⟩).toArray 127),y0 bm (((q.Sel++(q.Goals.take k).flatMap fun g=>(H3 g).map (·.Var))++((H3 g).take j).map (·.Var)).foldl addN []),.blk b1 (.cells #[.slice sa sn sc,.slice ga gn gc] 26)] w) on ⟨0,by omega,⟨rfl,rfl,rfl,rfl,rfl,rfl,rfl,rfl,trivial⟩,by rw[List.take_zero,List.map_nil,List.append_nil];exact hw⟩ ?_
  clear hw;rintro μ2 ρ w ⟨j,hj,hρ,hw⟩
  rw[hρ.eq];clear hρ;refine A4 ?_;refine A0 rfl (fun h=>?_) (fun h=>?_)
  ·have hjn:j<on:=by have:=of_decide_eq_true h;omega
   clear h;obtain⟨o,ho⟩:=C0 (l:=H3 g) (k:=j) (by omega)
   refine A4 ?_;refine B2 ?_;intro b9 w hw;refine B0 ?_;intro w hw;have hw:Wd Γ2 [.blk b9 (.cells (enc o).toArray 125),.blk b7 (.cells (cG ⟨g,A,N,C⟩).toArray 127),y0 bm (((q.Sel++(q.Goals.take k).flatMap fun g=>(H3 g).map (·.Var))++((H3 g).take j).map (·.Var)).foldl addN []),.blk b1 (.cells #[.slice sa sn sc,.slice ga gn gc] 26)] w:=hw
   refine A4 ?_;refine H1 rfl rfl (T8 (f:=Value.bool) (v:=true) (i:=2) (l:=(((q.Sel++(q.Goals.take k).flatMap fun g=>(H3 g).map (·.Var))++((H3 g).take j).map (·.Var)).foldl addN []).map fun s=>(s,true)) hw rfl rfl rfl rfl fun w hw=>?_)
   rw[Co]at hw;have hw:Wd Γ2 [.blk b9 (.cells (enc o).toArray 125),.blk b7 (.cells (cG ⟨g,A,N,C⟩).toArray 127),y0 bm (((q.Sel++(q.Goals.take k).flatMap fun g=>(H3 g).map (·.Var))++((H3 g).take (j+1)).map (·.Var)).foldl addN []),.blk b1 (.cells #[.slice sa sn sc,.slice ga gn gc] 26)] w:=by
    rw[List.take_add_one,ho,List.map_append,←List.append_assoc,List.foldl_append (l:=((q.Sel++(q.Goals.take k).flatMap fun g=>(H3 g).map (·.Var))++((H3 g).take j).map (·.Var)))];exact hw
   refine A4 ?_;exact⟨on-j-1,by omega,j+1,by omega,⟨rfl,rfl,rfl,rfl,rfl,rfl,rfl,rfl,trivial⟩,hw.drop⟩
  have hjn:on≤j:=by have:=of_decide_eq_false h;omega
  clear h;have ho2:(H3 g).take j=H3 g:=List.take_of_length_le (by omega)
  rw[ho2]at hw;have hw:Wd Γ2 [.blk b7 (.cells (cG ⟨g,A,N,C⟩).toArray 127),y0 bm ((q.Sel++(q.Goals.take (k+1)).flatMap fun g=>(H3 g).map (·.Var)).foldl addN []),.blk b1 (.cells #[.slice sa sn sc,.slice ga gn gc] 26)] w:=by
   rw[Cb (F:=fun g=>(H3 g).map (·.Var)) hgx,←List.append_assoc];exact hw
  refine A4 ?_;exact⟨gn-k-1,by omega,Γ2,k+1,hle1.trans hle2,by omega,⟨rfl,rfl,rfl,rfl,rfl,trivial⟩,hall,hw.drop⟩
 have hkn:gn≤k:=by have:=of_decide_eq_false h;omega
 clear h;rw[E3 _ (by rw[hnl];omega)]at hall
 rw[List.take_of_length_le (by omega)]at hw
 have hw:Wd Γ1 [y0 bm ((Ea q).foldl addN []),.blk b1 (.cells #[.slice sa sn sc,.slice ga gn gc] 26)] w:=hw
 have hnd:((Ea q).foldl addN []).Nodup:=EV List.nodup_nil
 refine A4 ?_;refine H1 rfl rfl (FA (f:=Value.bool) (i:=0) (l:=((Ea q).foldl addN []).map fun s=>(s,true)) (a:=D8) hw rfl rfl rfl fun w hw=>?_)
 rw[Oi hnd]at hw;have hw:Wd Γ1 [y0 bm (((Ea q).foldl addN []).filter fun t=>decide (t≠D8)),.blk b1 (.cells #[.slice sa sn sc,.slice ga gn gc] 26)] w:=hw
 refine A4 ?_;refine H1 rfl rfl (FA (f:=Value.bool) (i:=0) (l:=(((Ea q).foldl addN []).filter fun t=>decide (t≠D8)).map fun s=>(s,true)) (a:=I8) hw rfl rfl rfl fun w hw=>?_)
 rw[Oi (hnd.filter _),Lk]at hw;have hw:Wd Γ1 [y0 bm (l4 q),.blk b1 (.cells #[.slice sa sn sc,.slice ga gn gc] 26)] w:=hw
 refine A4 ?_;refine A0 rfl (fun h=>?_) (fun h=>?_)
 ·have h:=of_decide_eq_true h
  rw[List.length_map]at h;refine A4 ?_;refine⟨_,rfl,Γ1,hle1,C9 rfl ?_,O1 hw⟩
  rw[hokl,decide_eq_false (by omega),Bool.and_false];rfl
 ·have h:=of_decide_eq_false h
  rw[List.length_map]at h;refine A4 ?_;refine⟨_,rfl,Γ1,hle1,C9 rfl ?_,O1 hw⟩
  rw[hokl,hall,decide_eq_true (by omega)];rfl
end Go.Proofs.YtlimglpjpcfpdaaGreat
end
section
open Go Mk
namespace Go.Proofs.YtlimglpjpcfpdaaGreat
set_option maxHeartbeats 16000000
attribute [local irreducible] Calls cI cB
def Tk(g:F5):Bool:=N4 g&&(H3 g).all plainO
theorem Fc{Γ:B8}{vs vg:Value}{gs:List H4}{q:E7}{N:Nat}(hq0:QR Γ vs vg gs q)(hok:T4 N q)(hN:N≤9223372036854775807:=by first|decide|assumption):PG Tryz.prog Γ 103 [.agg #[vs,vg]] (.int .i64 (if f9 q=true then 0 else 50)):=r9 fun Γ w hle hw=>by
 have hq:=hq0.mono hle
 obtain⟨ga,gn,gc,rfl,hgn,hgnc,hgc⟩:=hq.goals.shape;obtain⟨sa,sn,sc,rfl,hsn,hsnc,hsc⟩:=hq.sel.shape;simp only[List.length_map]at hgn hsn
 have hgl:=hq.glen hok
 have hnl:=hq.nlen
 have hall0:f9 q=q.Goals.all Tk:=rfl
 refine A3 Tryz.func103 rfl rfl ?_
 refine A4 ?_;refine E5 ?_;intro b1 w hw;have hw:Wd Γ [.blk b1 (.cells #[.slice sa sn sc,.slice ga gn gc] 26)] w:=hw
 refine A4 ?_;refine B2 ?_;intro b3 w hw;refine B0 ?_;intro w hw;have hw:Wd Γ [.blk b3 (.cells (enc d5).toArray 125),.blk b1 (.cells #[.slice sa sn sc,.slice ga gn gc] 26)] w:=hw
 refine A4 ?_;refine C8 (fun μ ρ w=>∃(Γ':B8) (k:Nat),Γ.le Γ'∧μ+k=gn∧Has ρ [(1,.pointer (some ⟨b1,0,none⟩)),(3,.pointer (some ⟨b3,0,none⟩)),(11,.slice ga gn gc),(12,.int .i64 gn),(13,.int .i64 k)]∧f9 q=(q.Goals.drop k).all Tk∧Wd Γ' [.blk b3 (.cells (enc d5).toArray 125),.blk b1 (.cells #[.slice sa sn sc,.slice ga gn gc] 26)] w) gn ⟨Γ,0,B8.le.refl _,by omega,⟨rfl,rfl,rfl,rfl,rfl,trivial⟩,hall0,hw⟩ ?_
 clear hw;rintro μ ρ w ⟨Γ1,k,hle1,hk,hρ,hall,hw⟩
 rw[hρ.eq];clear hρ;have hq1:=hq.mono hle1
 have hrG1:=hq1.goals
 refine A4 ?_;refine A0 rfl (fun h=>?_) (fun h=>?_)
 ·have hkn:k<gn:=by have:=of_decide_eq_true h;omega
  clear h;obtain⟨x,hx⟩:=C0 (l:=gs) (k:=k) (by omega)
  have hxm:=List.mem_of_getElem? hx
  have hgoal:=hq.goal hok hxm
  have hgok:=hq1.ok x hxm
  have hgx:=hq.get hx
  rw[P7 hgx]at hall;obtain⟨l1,l2,l3⟩:=hgok.len;obtain⟨g,A,N,C⟩:=x;simp only at hall hgoal l1 l2 l3 hgx
  have hal:=hgoal.len
  refine A4 ?_;refine B2 ?_;intro b5 w hw;refine A4 ?_;refine B0 ?_;intro w hw;have hw:Wd Γ1 [.blk b5 (.cells (cG ⟨g,A,N,C⟩).toArray 127),.blk b3 (.cells (enc d5).toArray 125),.blk b1 (.cells #[.slice sa sn sc,.slice ga gn gc] 26)] w:=hw
  first|refine B6 ?_|(refine B7 ?_;intro w hw)
  first|refine B6 ?_|(refine B7 ?_;intro w hw)
  first|refine B6 ?_|(refine B7 ?_;intro w hw)
  first|refine B6 ?_|(refine B7 ?_;intro w hw)
  first|refine B6 ?_|(refine B7 ?_;intro w hw)
  refine Ba (fun ρ w=>Has ρ [(1,.pointer (some ⟨b1,0,none⟩)),(3,.pointer (some ⟨b3,0,none⟩)),(5,.pointer (some ⟨b5,0,none⟩)),(6,.bool (N4 g)),(11,.slice ga gn gc),(12,.int .i64 gn),(13,.int .i64 k)]∧Wd Γ1 [.blk b5 (.cells (cG ⟨g,A,N,C⟩).toArray 127),.blk b3 (.cells (enc d5).toArray 125),.blk b1 (.cells #[.slice sa sn sc,.slice ga gn gc] 26)] w) ?_ ?_
  ·have k12:∀h12:g.Kind=1∨g.Kind=2,N4 g=(decide (g.Op=0)&&decide (g.L=d5)&&decide (g.R=d5)&&decide (g.Off=0)&&decide (g.Low=0)&&decide (g.High=0)):=fun h12=>by unfold N4;rw[if_pos h12]
   refine A4 ?_;refine A0 rfl (fun h=>?_) (fun h=>?_)
   ·have hk1:g.Kind=1:=of_decide_eq_true h
    refine A4 ?_;refine E6 (congrArg Value.bool h) ?_
    refine A4 ?_;refine lG ?_ (hv:=fun hc=>by exact Db (a:=g.L) (b:=d5) A9 A9 rfl)
    refine A4 ?_;refine lG ?_ (hv:=fun hc=>by exact Db (a:=g.R) (b:=d5) A9 A9 rfl)
    refine A4 ?_;refine⟨⟨rfl,rfl,rfl,?_,rfl,rfl,rfl,trivial⟩,hw⟩
    rw[k12 (.inl hk1)];rfl
   have hk1:¬g.Kind=1:=of_decide_eq_false h
   clear h;refine A4 ?_;refine A0 rfl (fun h=>?_) (fun h=>?_)
   ·have hk2:g.Kind=2:=of_decide_eq_true h
    refine A4 ?_;refine lG ?_ (hv:=fun hc=>by exact Db (a:=g.L) (b:=d5) A9 A9 rfl)
    refine A4 ?_;refine lG ?_ (hv:=fun hc=>by exact Db (a:=g.R) (b:=d5) A9 A9 rfl)
    refine A4 ?_;refine⟨⟨rfl,rfl,rfl,?_,rfl,rfl,rfl,trivial⟩,hw⟩
    rw[k12 (.inr hk2)];rfl
   have hk2:¬g.Kind=2:=of_decide_eq_false h
   clear h;refine A4 ?_;refine A0 rfl (fun h=>?_) (fun h=>?_)
   ·have hk3:g.Kind=3:=of_decide_eq_true h
    refine A4 ?_;refine⟨⟨rfl,rfl,rfl,?_,rfl,rfl,rfl,trivial⟩,hw⟩
    unfold N4;rw[if_neg (fun e=>e.elim hk1 hk2),if_pos hk3];have e:decide ((N:Int)=0)=decide (g.Args.length=0):=decide_eq_decide.2 (by omega)
    show Value.bool (decide (g.Rel=D8)&&decide ((N:Int)=0)&&decide (g.Low=0)&&decide (g.High=0))=_
    rw[e]
   have hk3:¬g.Kind=3:=of_decide_eq_false h
   clear h;refine A4 ?_;refine A0 rfl (fun h=>?_) (fun h=>?_)
   ·have hk4:g.Kind=4:=of_decide_eq_true h
    refine A4 ?_;refine lG ?_ (hv:=fun hc=>by exact Db (a:=g.R) (b:=d5) A9 A9 rfl)
    refine A4 ?_;refine⟨⟨rfl,rfl,rfl,?_,rfl,rfl,rfl,trivial⟩,hw⟩
    unfold N4;rw[if_neg (fun e=>e.elim hk1 hk2),if_neg hk3,if_pos hk4];have e:decide ((N:Int)=0)=decide (g.Args.length=0):=decide_eq_decide.2 (by omega)
    show Value.bool (decide (g.Rel=D8)&&decide ((N:Int)=0)&&decide (g.Op=0)&&decide (g.R=d5)&&decide (g.Off=0)&&decide (g.L.Var≠D8))=_
    rw[e]
   have hk4:¬g.Kind=4:=of_decide_eq_false h
   refine A4 ?_;refine⟨⟨rfl,rfl,rfl,?_,rfl,rfl,rfl,trivial⟩,hw⟩
   unfold N4;rw[if_neg (fun e=>e.elim hk1 hk2),if_neg hk3,if_neg hk4];rfl
  clear hw;rintro ρ w ⟨hρ,hw⟩
  rw[hρ.eq];clear hρ;refine A4 ?_;refine C5 (vs:=[.agg (cG ⟨g,A,N,C⟩).toArray]) ((U1 hgok hw).mono fun e w hq2=>?_)
  clear hw;obtain⟨Γ2,v,hle2,rfl,hrv,hw⟩:=hq2;obtain⟨oa,on,oc,rfl,hon,honc,hoc⟩:=hrv.shape;simp only[List.length_map]at hon
  have hol:=o4 hgoal hN
  refine⟨_,rfl,?_⟩;refine A4 ?_;refine C8 (fun μ ρ w=>∃(j:Nat) (t:Bool),μ+j=on∧Has ρ [(1,.pointer (some ⟨b1,0,none⟩)),(3,.pointer (some ⟨b3,0,none⟩)),(6,.bool t),(11,.slice ga gn gc),(12,.int .i64 gn),(13,.int .i64 k),(107,.slice oa on oc),(108,.int .i64 on),(109,.int .i64 j)]∧Tk g=(t&&((H3 g).drop j).all plainO)∧Wd Γ2 [.blk b5 (.cells (cG ⟨g,A,N,C⟩).toArray 127),.blk b3 (.cells (enc d5).toArray 125),.blk b1 (.cells #[.slice sa sn sc,.slice ga gn gc] 26)] w) on ⟨0,N4 g,by omega,⟨rfl,rfl,rfl,rfl,rfl,rfl,rfl,rfl,rfl,trivial⟩,rfl,hw⟩ ?_
  clear hw;rintro μ2 ρ w ⟨j,t,hj,hρ,hsh,hw⟩
  rw[hρ.eq];clear hρ;refine A4 ?_;refine A0 rfl (fun h=>?_) (fun h=>?_)
  ·have hjn:j<on:=by have:=of_decide_eq_true h;omega
   clear h;obtain⟨o,ho⟩:=C0 (l:=H3 g) (k:=j) (by omega)
   rw[P7 ho,←Bool.and_assoc]at hsh;refine A4 ?_;refine B2 ?_;intro b9 w hw;refine B0 ?_;intro w hw;have hw:Wd Γ2 (.blk b9 (.cells (enc o).toArray 125)::[.blk b5 (.cells (cG ⟨g,A,N,C⟩).toArray 127),.blk b3 (.cells (enc d5).toArray 125),.blk b1 (.cells #[.slice sa sn sc,.slice ga gn gc] 26)]) w:=hw
   refine A4 ?_;refine lG ?_ (hv:=fun hc=>by exact Db (a:=o.Const) (b:=N3) A9 A9 rfl)
   refine A4 ?_;exact⟨on-j-1,by omega,j+1,(t&&plainO o),by omega,⟨rfl,rfl,rfl,rfl,rfl,rfl,rfl,rfl,rfl,trivial⟩,hsh,hw.drop⟩
  have hjn:on≤j:=by have:=of_decide_eq_false h;omega
  clear h;rw[E3 (H3 g) (by omega),List.all_nil,Bool.and_true]at hsh
  subst hsh;refine A4 ?_;refine A0 rfl (fun h=>?_) (fun h=>?_)
  ·have hf:Tk g=false:=by simpa using h
   refine A4 ?_;refine⟨_,rfl,Γ2,hle1.trans hle2,C9 rfl ?_,O1 hw⟩
   rw[hall,hf];rfl
  ·have hf:Tk g=true:=by simpa using h
   rw[hf,Bool.true_and]at hall;refine A4 ?_;exact⟨gn-k-1,by omega,Γ2,k+1,hle1.trans hle2,by omega,⟨rfl,rfl,rfl,rfl,rfl,trivial⟩,hall,hw.drop⟩
 have hkn:gn≤k:=by have:=of_decide_eq_false h;omega
 rw[E3 _ (by rw[hnl];omega)]at hall
 refine A4 ?_;refine⟨_,rfl,Γ1,hle1,C9 rfl ?_,O1 hw⟩
 rw[hall];rfl
end Go.Proofs.YtlimglpjpcfpdaaGreat
end
section
open Go Mk
namespace Go.Proofs.YtlimglpjpcfpdaaGreat
set_option maxHeartbeats 16000000
attribute [local irreducible] Calls cI cB
theorem Fh{Γ:B8}{vs vg:Value}{gs:List H4}{q:E7}{N:Nat}(hq0:QR Γ vs vg gs q)(hok:T4 N q)(hN:N≤9223372036854775807:=by first|decide|assumption):PG Tryz.prog Γ 104 [.agg #[vs,vg]] (.int .i64 (if S4 q=true then 0 else 63)):=r9 fun Γ w hle hw=>by
 have hq:=hq0.mono hle
 obtain⟨ga,gn,gc,rfl,hgn,hgnc,hgc⟩:=hq.goals.shape;obtain⟨sa,sn,sc,rfl,hsn,hsnc,hsc⟩:=hq.sel.shape;simp only[List.length_map]at hgn hsn
 have hgl:=hq.glen hok
 have hsl:=hok.sel
 have hnl:=hq.nlen
 have hrS:=hq.sel
 refine A3 Tryz.func104 rfl rfl ?_
 refine A4 ?_;refine E5 ?_;intro b1 w hw;have hw:Wd Γ [.blk b1 (.cells #[.slice sa sn sc,.slice ga gn gc] 26)] w:=hw
 refine A4 ?_;refine C8 (fun μ ρ w=>∃(k:Nat),μ+k=sn∧Has ρ [(1,.pointer (some ⟨b1,0,none⟩)),(10,.slice sa sn sc),(11,.int .i64 sn),(12,.int .i64 k)]∧q.Sel.all T0=(q.Sel.drop k).all T0∧Wd Γ [.blk b1 (.cells #[.slice sa sn sc,.slice ga gn gc] 26)] w) sn ⟨0,by omega,⟨rfl,rfl,rfl,rfl,trivial⟩,rfl,hw⟩ ?_
 clear hw;rintro μ ρ w ⟨k,hk,hρ,hall,hw⟩
 rw[hρ.eq];clear hρ;refine A4 ?_;refine A0 rfl (fun h=>?_) (fun h=>?_)
 ·have hkn:k<sn:=by have:=of_decide_eq_true h;omega
  clear h;obtain⟨s,hs⟩:=C0 (l:=q.Sel) (k:=k) (by omega)
  rw[P7 hs]at hall;have p1:=Bb (hok.names s (List.mem_of_getElem? hs))
  refine A4 ?_;refine A0 rfl (fun h=>?_) (fun h=>?_)
  ·have hf:T0 s=false:=by simpa using h
   refine A4 ?_;refine⟨_,rfl,Γ,B8.le.refl _,C9 rfl ?_,O1 hw⟩
   unfold S4;rw[hall,hf];rfl
  ·have hf:T0 s=true:=by simpa using h
   rw[hf,Bool.true_and]at hall;refine A4 ?_;exact⟨μ-1,by omega,k+1,by omega,⟨rfl,rfl,rfl,rfl,trivial⟩,hall,hw⟩
 have hkn:sn≤k:=by have:=of_decide_eq_false h;omega
 clear h;rw[E3 q.Sel (by omega)]at hall
 have hall0:S4 q=q.Goals.all AK:=by unfold S4;rw[hall];rfl
 clear hall hkn hk;refine A4 ?_;refine C8 (fun μ ρ w=>∃(Γ':B8) (k:Nat),Γ.le Γ'∧μ+k=gn∧Has ρ [(1,.pointer (some ⟨b1,0,none⟩)),(21,.slice ga gn gc),(22,.int .i64 gn),(23,.int .i64 k)]∧S4 q=(q.Goals.drop k).all AK∧Wd Γ' [.blk b1 (.cells #[.slice sa sn sc,.slice ga gn gc] 26)] w) gn ⟨Γ,0,B8.le.refl _,by omega,⟨rfl,rfl,rfl,rfl,trivial⟩,hall0,hw⟩ ?_
 clear hw;rintro μ ρ w ⟨Γ1,k,hle1,hk,hρ,hall,hw⟩
 rw[hρ.eq];clear hρ;have hq1:=hq.mono hle1
 have hrG1:=hq1.goals
 refine A4 ?_;refine A0 rfl (fun h=>?_) (fun h=>?_)
 ·have hkn:k<gn:=by have:=of_decide_eq_true h;omega
  clear h;obtain⟨x,hx⟩:=C0 (l:=gs) (k:=k) (by omega)
  have hxm:=List.mem_of_getElem? hx
  have hgoal:=hq.goal hok hxm
  have hgok:=hq1.ok x hxm
  have hgx:=hq.get hx
  rw[P7 hgx]at hall;obtain⟨l1,l2,l3⟩:=hgok.len;obtain⟨g,A,N,C⟩:=x;simp only at hall hgoal l1 l2 l3 hgx
  have hal:=hgoal.len
  haveI:=SA hgoal.rel
  refine A4 ?_;refine B2 ?_;intro b6 w hw;refine A4 ?_;refine B0 ?_;intro w hw;have hw:Wd Γ1 [.blk b6 (.cells (cG ⟨g,A,N,C⟩).toArray 127),.blk b1 (.cells #[.slice sa sn sc,.slice ga gn gc] 26)] w:=hw
  repeat first|refine B6 ?_|refine B7 ?_;intro w hw
  refine A0 rfl (fun h=>?_) (fun h=>?_)
  ·have hf:AK g=false:=by
    have h:(F7 g&&(!F9 g.Rel||Fp g.Rel))=true:=h
    unfold AK;rw[h];rfl
   refine A4 ?_;refine⟨_,rfl,Γ1,hle1,C9 rfl ?_,O1 hw⟩
   rw[hall,hf];rfl
  have hnG:AK g=(H3 g).all (DZ g):=by
   have h:(F7 g&&(!F9 g.Rel||Fp g.Rel))=false:=h
   unfold AK;rw[h];rfl
  clear h;refine A4 ?_;refine C5 (vs:=[.agg (cG ⟨g,A,N,C⟩).toArray]) ((U1 hgok hw).mono fun e w hq2=>?_)
  clear hw;obtain⟨Γ2,v,hle2,rfl,hrv,hw⟩:=hq2;obtain⟨oa,on,oc,rfl,hon,honc,hoc⟩:=hrv.shape;simp only[List.length_map]at hon
  have hol:=o4 hgoal hN
  refine⟨_,rfl,?_⟩;refine A4 ?_;refine C8 (fun μ ρ w=>∃(j:Nat),μ+j=on∧Has ρ [(1,.pointer (some ⟨b1,0,none⟩)),(6,.pointer (some ⟨b6,0,none⟩)),(21,.slice ga gn gc),(22,.int .i64 gn),(23,.int .i64 k),(41,.slice oa on oc),(42,.int .i64 on),(43,.int .i64 j)]∧AK g=((H3 g).drop j).all (DZ g)∧Wd Γ2 [.blk b6 (.cells (cG ⟨g,A,N,C⟩).toArray 127),.blk b1 (.cells #[.slice sa sn sc,.slice ga gn gc] 26)] w) on ⟨0,by omega,⟨rfl,rfl,rfl,rfl,rfl,rfl,rfl,rfl,trivial⟩,hnG,hw⟩ ?_
  clear hw;rintro μ2 ρ w ⟨j,hj,hρ,hsh,hw⟩
  rw[hρ.eq];clear hρ;refine A4 ?_;refine A0 rfl (fun h=>?_) (fun h=>?_)
  ·have hjn:j<on:=by have:=of_decide_eq_true h;omega
   clear h;obtain⟨o,ho⟩:=C0 (l:=H3 g) (k:=j) (by omega)
   obtain⟨hov,hoc2⟩:=Qn hgoal o (List.mem_of_getElem? ho)
   have p1:=Bb hov
   have p2:=BU (Γ:=Γ2) hoc2
   rw[P7 ho]at hsh;have hno:DZ g o=(!(decide (o.Var=D8) && !J1 o.Const) && !(decide (o.Var=I8) && !F7 g) && !(decide (o.Var≠D8)&&decide (o.Var≠I8) && !T0 o.Var)):=rfl
   refine A4 ?_;refine B2 ?_;intro b8 w hw;refine B0 ?_;intro w hw;have hw:Wd Γ2 [.blk b8 (.cells (enc o).toArray 125),.blk b6 (.cells (cG ⟨g,A,N,C⟩).toArray 127),.blk b1 (.cells #[.slice sa sn sc,.slice ga gn gc] 26)] w:=hw
   have fin:DZ g o=false→S4 q=false:=fun hf=>by rw[hall,hsh,hf];rfl
   refine A4 ?_;refine Hb (hp:=p2) ?_
   intro w hw;refine A4 ?_;refine A0 rfl (fun h=>?_) (fun h=>?_)
   ·refine A4 ?_;refine E6 (congrArg Value.bool h) ?_
    have h:(decide (o.Var=D8) && !J1 o.Const)=true:=h
    refine A4 ?_;refine⟨_,rfl,Γ2,hle1.trans hle2,C9 rfl ?_,O1 hw⟩
    rw[fin (by rw[hno,h];rfl)];rfl
   have h1:(decide (o.Var=D8) && !J1 o.Const)=false:=h
   clear h;repeat first|refine B6 ?_|refine B7 ?_;intro w hw
   refine A0 rfl (fun h=>?_) (fun h=>?_)
   ·refine A4 ?_;refine E6 (congrArg Value.bool h) ?_
    have h:(decide (o.Var=I8) && !F7 g)=true:=h
    refine A4 ?_;refine⟨_,rfl,Γ2,hle1.trans hle2,C9 rfl ?_,O1 hw⟩
    rw[fin (by rw[hno,h,Bool.not_true,Bool.and_false];rfl)];rfl
   have h2:(decide (o.Var=I8) && !F7 g)=false:=h
   clear h;refine A4 ?_;refine A0 rfl (fun h=>?_) (fun h=>?_)
   ·have h:(decide (o.Var≠D8)&&decide (o.Var≠I8) && !T0 o.Var)=true:=h
    refine A4 ?_;refine⟨_,rfl,Γ2,hle1.trans hle2,C9 rfl ?_,O1 hw⟩
    rw[fin (by rw[hno,h,Bool.not_true,Bool.and_false])];rfl
   ·have h:(decide (o.Var≠D8)&&decide (o.Var≠I8) && !T0 o.Var)=false:=h
    have hf:DZ g o=true:=by rw[hno,h1,h2,h];rfl
    rw[hf,Bool.true_and]at hsh;refine A4 ?_;exact⟨on-j-1,by omega,j+1,by omega,⟨rfl,rfl,rfl,rfl,rfl,rfl,rfl,rfl,trivial⟩,hsh,hw.drop⟩
  have hjn:on≤j:=by have:=of_decide_eq_false h;omega
  clear h;rw[E3 (H3 g) (by omega)]at hsh
  have hsh:AK g=true:=hsh
  rw[hsh,Bool.true_and]at hall;refine A4 ?_;exact⟨gn-k-1,by omega,Γ2,k+1,hle1.trans hle2,by omega,⟨rfl,rfl,rfl,rfl,trivial⟩,hall,hw.drop⟩
 have hkn:gn≤k:=by have:=of_decide_eq_false h;omega
 rw[E3 _ (by rw[hnl];omega)]at hall
 refine A4 ?_;refine⟨_,rfl,Γ1,hle1,C9 rfl ?_,O1 hw⟩
 rw[hall];rfl
def Fv(g:F5):List ByteArray:=if g.Kind=1∨g.Kind=4 then (H3 g).map (·.Var) else []
def BQ(q:E7):List ByteArray:=(KW q).foldl addN [D8,I8]
theorem Mp{q:E7}:AM q=(Ea q).all (j8 (BQ q)):=by
 rw[Bool.eq_iff_iff];unfold AM;rw[List.all_eq_true,List.all_eq_true];have key:∀s,j8 (BQ q) s=true↔s=D8∨s=I8∨s∈KW q:=fun s=>by
  rw[W0];unfold BQ;rw[CS];simp[or_assoc]
 have hmem:∀s,s∈l4 q↔s∈Ea q∧s≠D8∧s≠I8:=fun s=>by
  unfold l4;rw[CS];unfold RN;simp[List.mem_filter]
 constructor
 ·intro h s hs;rw[key];by_cases h1:s=D8
  ·exact .inl h1
  by_cases h2:s=I8
  ·exact .inr (.inl h2)
  exact .inr (.inr (W0.1 (h s ((hmem s).2 ⟨hs,h1,h2⟩))))
 ·intro h s hs;obtain⟨h1,h2,h3⟩:=(hmem s).1 hs
  have:=(key s).1 (h s h1)
  exact W0.2 ((this.resolve_left h2).resolve_left h3)
def MX(q:E7)(g:F5):Bool:=(H3 g).all fun o=>j8 (BQ q) o.Var
theorem Je{q:E7}:AM q=(q.Sel.all (j8 (BQ q))&&q.Goals.all (MX q)):=by
 rw[Mp];unfold Ea;rw[List.all_append,List.all_flatMap];congr 2
 funext g
 rw[List.all_map];rfl
def JY(q:E7):Int:=if ¬q.Sel.Nodup then 56 else if AM q=false then 62 else 0
theorem CZ{Γ:B8}{vs vg:Value}{gs:List H4}{q:E7}{N:Nat}(hq0:QR Γ vs vg gs q)(hok:T4 N q)(hN:N≤9223372036854775807:=by first|decide|assumption):PG Tryz.prog Γ 106 [.agg #[vs,vg]] (.int .i64 (JY q)):=r9 fun Γ w hle hw=>by
 have hq:=hq0.mono hle
 obtain⟨ga,gn,gc,rfl,hgn,hgnc,hgc⟩:=hq.goals.shape;obtain⟨sa,sn,sc,rfl,hsn,hsnc,hsc⟩:=hq.sel.shape;simp only[List.length_map]at hgn hsn
 have hgl:=hq.glen hok
 have hsl:=hok.sel
 have hnl:=hq.nlen
 have hrS:=hq.sel
 refine A3 Tryz.func106 rfl rfl ?_
 refine A4 ?_;refine E5 ?_;intro b1 w hw;have hw:Wd Γ [.blk b1 (.cells #[.slice sa sn sc,.slice ga gn gc] 26)] w:=hw
 refine A4 ?_;refine H1 rfl rfl (m8 (K:=9) (α:=ByteArray) (f:=Value.bool) hw fun bm w hw=>?_)
 have hw:Wd Γ [y0 bm [],.blk b1 (.cells #[.slice sa sn sc,.slice ga gn gc] 26)] w:=hw
 refine A4 ?_;refine H1 rfl rfl (Ik (T8 (f:=Value.bool) (v:=true) (i:=0) (l:=([]:List ByteArray).map fun s=>(s,true)) (a:=D8) hw rfl rfl rfl rfl fun w hw=>?_))
 rw[Co]at hw;have hw:Wd Γ [y0 bm [D8],.blk b1 (.cells #[.slice sa sn sc,.slice ga gn gc] 26)] w:=hw
 refine H1 rfl rfl (Ik (T8 (f:=Value.bool) (v:=true) (i:=0) (l:=[D8].map fun s=>(s,true)) (a:=I8) hw rfl rfl rfl rfl fun w hw=>?_))
 rw[Co]at hw;have hw:Wd Γ [y0 bm [D8,I8],.blk b1 (.cells #[.slice sa sn sc,.slice ga gn gc] 26)] w:=hw
 refine A4 ?_;refine C8 (fun μ ρ w=>∃(Γ':B8) (k:Nat),Γ.le Γ'∧μ+k=gn∧Has ρ [(1,.pointer (some ⟨b1,0,none⟩)),(3,.map (some bm)),(20,.slice ga gn gc),(21,.int .i64 gn),(22,.int .i64 k)]∧Wd Γ' [y0 bm (((q.Goals.take k).flatMap Fv).foldl addN [D8,I8]),.blk b1 (.cells #[.slice sa sn sc,.slice ga gn gc] 26)] w) gn ⟨Γ,0,B8.le.refl _,by omega,⟨rfl,rfl,rfl,rfl,rfl,trivial⟩,hw⟩ ?_
 clear hw;rintro μ ρ w ⟨Γ1,k,hle1,hk,hρ,hw⟩
 rw[hρ.eq];clear hρ;have hq1:=hq.mono hle1
 have hrG1:=hq1.goals
 have hrS1:=hq1.sel
 refine A4 ?_;refine A0 rfl (fun h=>?_) (fun h=>?_)
 ·have hkn:k<gn:=by have:=of_decide_eq_true h;omega
  clear h;obtain⟨x,hx⟩:=C0 (l:=gs) (k:=k) (by omega)
  have hxm:=List.mem_of_getElem? hx
  have hgoal:=hq.goal hok hxm
  have hgok:=hq1.ok x hxm
  have hgx:=hq.get hx
  have hsu:=Cb (F:=Fv) hgx
  obtain⟨l1,l2,l3⟩:=hgok.len;obtain⟨g,A,N,C⟩:=x;simp only at hgoal l1 l2 l3 hgx hsu
  have hal:=hgoal.len
  refine A4 ?_;refine B2 ?_;intro b5 w hw;refine A4 ?_;refine B0 ?_;intro w hw;have hw:Wd Γ1 [.blk b5 (.cells (cG ⟨g,A,N,C⟩).toArray 127),y0 bm (((q.Goals.take k).flatMap Fv).foldl addN [D8,I8]),.blk b1 (.cells #[.slice sa sn sc,.slice ga gn gc] 26)] w:=hw
  refine A4 ?_;refine A0 rfl (fun h=>?_) (fun h=>?_)
  ·have hkd:g.Kind=1∨g.Kind=4:=by
    have h:(decide (g.Kind=1)||decide (g.Kind=4))=true:=h
    simpa using h
   clear h;have hb:Fv g=(H3 g).map (·.Var):=if_pos hkd
   refine A4 ?_;refine C5 (vs:=[.agg (cG ⟨g,A,N,C⟩).toArray]) ((U1 hgok hw).mono fun e w hq2=>?_)
   clear hw;obtain⟨Γ2,v,hle2,rfl,hrv,hw⟩:=hq2;obtain⟨oa,on,oc,rfl,hon,honc,hoc⟩:=hrv.shape;simp only[List.length_map]at hon
   have hol:=o4 hgoal hN
   refine⟨_,rfl,?_⟩;refine A4 ?_;refine C8 (fun μ ρ w=>∃(j:Nat),μ+j=on∧Has ρ [(1,.pointer (some ⟨b1,0,none⟩)),(3,.map (some bm)),(20,.slice ga gn gc),(21,.int .i64 gn),(22,.int .i64 k),(35,.slice oa on oc),(36,.int .i64 on),(37,.int .i64 j)]∧Wd Γ2 [.blk b5 (.cells (cG ⟨g,A,N,C⟩).toArray 127),y0 bm (((q.Goals.take k).flatMap Fv++((H3 g).take j).map (·.Var)).foldl addN [D8,I8]),.blk b1 (.cells #[.slice sa sn sc,.slice ga gn gc] 26)] w) on ⟨0,by omega,⟨rfl,rfl,rfl,rfl,rfl,rfl,rfl,rfl,trivial⟩,by rw[List.take_zero,List.map_nil,List.append_nil];exact hw⟩ ?_
   clear hw;rintro μ2 ρ w ⟨j,hj,hρ,hw⟩
   rw[hρ.eq];clear hρ;refine A4 ?_;refine A0 rfl (fun h=>?_) (fun h=>?_)
   ·have hjn:j<on:=by have:=of_decide_eq_true h;omega
    clear h;obtain⟨o,ho⟩:=C0 (l:=H3 g) (k:=j) (by omega)
    refine A4 ?_;refine B2 ?_;intro b7 w hw;refine B0 ?_;intro w hw;have hw:Wd Γ2 [.blk b7 (.cells (enc o).toArray 125),.blk b5 (.cells (cG ⟨g,A,N,C⟩).toArray 127),y0 bm (((q.Goals.take k).flatMap Fv++((H3 g).take j).map (·.Var)).foldl addN [D8,I8]),.blk b1 (.cells #[.slice sa sn sc,.slice ga gn gc] 26)] w:=hw
    refine A4 ?_;refine H1 rfl rfl (T8 (f:=Value.bool) (v:=true) (i:=2) (l:=(((q.Goals.take k).flatMap Fv++((H3 g).take j).map (·.Var)).foldl addN [D8,I8]).map fun s=>(s,true)) hw rfl rfl rfl rfl fun w hw=>?_)
    rw[Co]at hw;have hw:Wd Γ2 [.blk b7 (.cells (enc o).toArray 125),.blk b5 (.cells (cG ⟨g,A,N,C⟩).toArray 127),y0 bm (((q.Goals.take k).flatMap Fv++((H3 g).take (j+1)).map (·.Var)).foldl addN [D8,I8]),.blk b1 (.cells #[.slice sa sn sc,.slice ga gn gc] 26)] w:=by
     rw[List.take_add_one,ho,List.map_append,←List.append_assoc,List.foldl_append (l:=(q.Goals.take k).flatMap Fv++((H3 g).take j).map (·.Var))];exact hw
    refine A4 ?_;exact⟨on-j-1,by omega,j+1,by omega,⟨rfl,rfl,rfl,rfl,rfl,rfl,rfl,rfl,trivial⟩,hw.drop⟩
   have hjn:on≤j:=by have:=of_decide_eq_false h;omega
   clear h;have ho2:(H3 g).take j=H3 g:=List.take_of_length_le (by omega)
   rw[ho2,←hb,←hsu]at hw;refine A4 ?_;exact⟨gn-k-1,by omega,Γ2,k+1,hle1.trans hle2,by omega,⟨rfl,rfl,rfl,rfl,rfl,trivial⟩,hw.drop⟩
  have hkd:¬(g.Kind=1∨g.Kind=4):=by
   have h:(decide (g.Kind=1)||decide (g.Kind=4))=false:=h
   simpa using h
  clear h;have hb:Fv g=[]:=if_neg hkd
  rw[hb,List.append_nil]at hsu;rw[←hsu]at hw;refine A4 ?_;exact⟨gn-k-1,by omega,Γ1,k+1,hle1,by omega,⟨rfl,rfl,rfl,rfl,rfl,trivial⟩,hw.drop⟩
 have hkn:gn≤k:=by have:=of_decide_eq_false h;omega
 clear h;rw[List.take_of_length_le (by omega)]at hw
 have hw:Wd Γ1 [y0 bm (BQ q),.blk b1 (.cells #[.slice sa sn sc,.slice ga gn gc] 26)] w:=hw
 clear hkn hk;refine A4 ?_;refine H1 rfl rfl (m8 (K:=9) (α:=ByteArray) (f:=Value.bool) hw fun bm2 w hw=>?_)
 have hw:Wd Γ1 [y0 bm2 [],y0 bm (BQ q),.blk b1 (.cells #[.slice sa sn sc,.slice ga gn gc] 26)] w:=hw
 refine A4 ?_;refine C8 (fun μ ρ w=>∃(k:Nat),μ+k=sn∧Has ρ [(1,.pointer (some ⟨b1,0,none⟩)),(3,.map (some bm)),(8,.map (some bm2)),(48,.slice sa sn sc),(49,.int .i64 sn),(50,.int .i64 k)]∧(q.Sel.take k).Nodup∧Wd Γ1 [y0 bm2 ((q.Sel.take k).foldl addN []),y0 bm (BQ q),.blk b1 (.cells #[.slice sa sn sc,.slice ga gn gc] 26)] w) sn ⟨0,by omega,⟨rfl,rfl,rfl,rfl,rfl,rfl,trivial⟩,List.nodup_nil,hw⟩ ?_
 clear hw;rintro μ ρ w ⟨k,hk,hρ,hnd,hw⟩
 rw[hρ.eq];clear hρ;refine A4 ?_;refine A0 rfl (fun h=>?_) (fun h=>?_)
 ·have hkn:k<sn:=by have:=of_decide_eq_true h;omega
  clear h;obtain⟨s,hs⟩:=C0 (l:=q.Sel) (k:=k) (by omega)
  have hmem:j8 ((q.Sel.take k).foldl addN []) s=true↔s∈q.Sel.take k:=by
   rw[W0,CS];simp
  refine A4 ?_;refine A0 rfl (fun h=>?_) (fun h=>?_)
  ·have h:((D2 (((q.Sel.take k).foldl addN []).map fun s=>(s,true)) s).getD default)=true:=h
   rw[Cr,hmem]at h;have hf:¬q.Sel.Nodup:=fun hn=>by
    obtain⟨i,hi⟩:=List.getElem?_of_mem h
    have hik:i<k:=by have:=(List.getElem?_eq_some_iff.1 hi).1;rw[List.length_take]at this;omega
    rw[List.getElem?_take,if_pos hik]at hi;have:=(List.getElem?_inj (by omega) hn).1 (hi.trans hs.symm)
    omega
   refine A4 ?_;refine⟨_,rfl,Γ1,hle1,C9 rfl ?_,O1 hw⟩
   unfold JY;rw[if_pos hf]
  ·have h:((D2 (((q.Sel.take k).foldl addN []).map fun s=>(s,true)) s).getD default)=false:=h
   rw[Cr]at h;have hnm:s∉q.Sel.take k:=fun hm=>by rw[hmem.2 hm]at h;cases h
   refine A4 ?_;refine H1 rfl rfl (T8 (f:=Value.bool) (v:=true) (i:=0) (l:=((q.Sel.take k).foldl addN []).map fun s=>(s,true)) hw rfl rfl rfl rfl fun w hw=>?_)
   rw[Co]at hw;have hw:Wd Γ1 [y0 bm2 ((q.Sel.take (k+1)).foldl addN []),y0 bm (BQ q),.blk b1 (.cells #[.slice sa sn sc,.slice ga gn gc] 26)] w:=by
    rw[List.take_add_one,hs,List.foldl_append];exact hw
   refine A4 ?_;refine⟨sn-k-1,by omega,k+1,by omega,⟨rfl,rfl,rfl,rfl,rfl,rfl,trivial⟩,?_,hw⟩
   rw[List.take_add_one,hs,List.nodup_append];exact⟨hnd,by simp,fun a ha b hb e=>by
    have hb:b=s:=by simpa using hb
    exact hnm (by rw[←hb,←e];exact ha)⟩
 have hkn:sn≤k:=by have:=of_decide_eq_false h;omega
 clear h;rw[List.take_of_length_le (by omega)]at hnd
 have hv:JY q=if AM q=false then 62 else 0:=by
  unfold JY;rw[if_neg (fun h=>h hnd)]
 rw[Je]at hv;clear hkn hk;refine A4 ?_;obtain⟨KK,hKK⟩:∃KK,KK=(q.Sel.take k).foldl addN []:=⟨_,rfl⟩
 rw[←hKK]at hw;clear hKK;refine C8 (fun μ ρ w=>∃(k:Nat),μ+k=sn∧Has ρ [(1,.pointer (some ⟨b1,0,none⟩)),(3,.map (some bm)),(61,.slice sa sn sc),(62,.int .i64 sn),(63,.int .i64 k)]∧q.Sel.all (j8 (BQ q))=(q.Sel.drop k).all (j8 (BQ q))∧Wd Γ1 [y0 bm2 KK,y0 bm (BQ q),.blk b1 (.cells #[.slice sa sn sc,.slice ga gn gc] 26)] w) sn ⟨0,by omega,⟨rfl,rfl,rfl,rfl,rfl,trivial⟩,rfl,hw⟩ ?_
 clear hw;rintro μ ρ w ⟨k,hk,hρ,hall,hw⟩
 rw[hρ.eq];clear hρ;refine A4 ?_;refine A0 rfl (fun h=>?_) (fun h=>?_)
 ·have hkn:k<sn:=by have:=of_decide_eq_true h;omega
  clear h;obtain⟨s,hs⟩:=C0 (l:=q.Sel) (k:=k) (by omega)
  rw[P7 hs]at hall;refine A4 ?_;refine A0 rfl (fun h=>?_) (fun h=>?_)
  ·have h:(!((D2 ((BQ q).map fun s=>(s,true)) s).getD default))=true:=h
   rw[Cr]at h;have hf:j8 (BQ q) s=false:=by simpa using h
   refine A4 ?_;refine⟨_,rfl,Γ1,hle1,C9 rfl ?_,O1 hw⟩
   rw[hv,hall,hf];rfl
  ·have h:(!((D2 ((BQ q).map fun s=>(s,true)) s).getD default))=false:=h
   rw[Cr]at h;have hf:j8 (BQ q) s=true:=by simpa using h
   rw[hf,Bool.true_and]at hall;refine A4 ?_;exact⟨sn-k-1,by omega,k+1,by omega,⟨rfl,rfl,rfl,rfl,rfl,trivial⟩,hall,hw⟩
 have hkn:sn≤k:=by have:=of_decide_eq_false h;omega
 clear h;rw[E3 q.Sel (by omega)]at hall
 have hv:JY q=if q.Goals.all (MX q)=false then 62 else 0:=by
  rw[hv,hall];rfl
 clear hkn hk hall;refine A4 ?_;refine C8 (fun μ ρ w=>∃(Γ':B8) (k:Nat),Γ1.le Γ'∧μ+k=gn∧Has ρ [(1,.pointer (some ⟨b1,0,none⟩)),(3,.map (some bm)),(73,.slice ga gn gc),(74,.int .i64 gn),(75,.int .i64 k)]∧q.Goals.all (MX q)=(q.Goals.drop k).all (MX q)∧Wd Γ' [y0 bm2 KK,y0 bm (BQ q),.blk b1 (.cells #[.slice sa sn sc,.slice ga gn gc] 26)] w) gn ⟨Γ1,0,B8.le.refl _,by omega,⟨rfl,rfl,rfl,rfl,rfl,trivial⟩,rfl,hw⟩ ?_
 clear hw;rintro μ ρ w ⟨Γ2,k,hle2,hk,hρ,hall,hw⟩
 rw[hρ.eq];clear hρ;have hq2:=hq1.mono hle2
 have hrG2:=hq2.goals
 refine A4 ?_;refine A0 rfl (fun h=>?_) (fun h=>?_)
 ·have hkn:k<gn:=by have:=of_decide_eq_true h;omega
  clear h;obtain⟨x,hx⟩:=C0 (l:=gs) (k:=k) (by omega)
  have hxm:=List.mem_of_getElem? hx
  have hgoal:=hq.goal hok hxm
  have hgok:=hq2.ok x hxm
  have hgx:=hq.get hx
  rw[P7 hgx]at hall;obtain⟨l1,l2,l3⟩:=hgok.len;obtain⟨g,A,N,C⟩:=x;simp only at hgoal l1 l2 l3 hgx hall
  have hal:=hgoal.len
  refine A4 ?_;refine B2 ?_;intro b14 w hw;refine A4 ?_;refine B0 ?_;intro w hw;have hw:Wd Γ2 (.blk b14 (.cells (cG ⟨g,A,N,C⟩).toArray 127)::[y0 bm2 KK,y0 bm (BQ q),.blk b1 (.cells #[.slice sa sn sc,.slice ga gn gc] 26)]) w:=hw
  refine A4 ?_;refine C5 (vs:=[.agg (cG ⟨g,A,N,C⟩).toArray]) ((U1 hgok hw).mono fun e w hq3=>?_)
  clear hw;obtain⟨Γ3,v,hle3,rfl,hrv,hw⟩:=hq3;obtain⟨oa,on,oc,rfl,hon,honc,hoc⟩:=hrv.shape;simp only[List.length_map]at hon
  have hol:=o4 hgoal hN
  refine⟨_,rfl,?_⟩;refine A4 ?_;refine C8 (fun μ ρ w=>∃(j:Nat),μ+j=on∧Has ρ [(1,.pointer (some ⟨b1,0,none⟩)),(3,.map (some bm)),(73,.slice ga gn gc),(74,.int .i64 gn),(75,.int .i64 k),(80,.slice oa on oc),(81,.int .i64 on),(82,.int .i64 j)]∧MX q g=(((H3 g).drop j).all fun o=>j8 (BQ q) o.Var)∧Wd Γ3 (.blk b14 (.cells (cG ⟨g,A,N,C⟩).toArray 127)::[y0 bm2 KK,y0 bm (BQ q),.blk b1 (.cells #[.slice sa sn sc,.slice ga gn gc] 26)]) w) on ⟨0,by omega,⟨rfl,rfl,rfl,rfl,rfl,rfl,rfl,rfl,trivial⟩,rfl,hw⟩ ?_
  clear hw;rintro μ2 ρ w ⟨j,hj,hρ,hsh,hw⟩
  rw[hρ.eq];clear hρ;refine A4 ?_;refine A0 rfl (fun h=>?_) (fun h=>?_)
  ·have hjn:j<on:=by have:=of_decide_eq_true h;omega
   clear h;obtain⟨o,ho⟩:=C0 (l:=H3 g) (k:=j) (by omega)
   rw[P7 ho]at hsh;refine A4 ?_;refine B2 ?_;intro b16 w hw;refine B0 ?_;intro w hw;have hw:Wd Γ3 (.blk b16 (.cells (enc o).toArray 125)::.blk b14 (.cells (cG ⟨g,A,N,C⟩).toArray 127)::[y0 bm2 KK,y0 bm (BQ q),.blk b1 (.cells #[.slice sa sn sc,.slice ga gn gc] 26)]) w:=hw
   refine A4 ?_;refine A0 rfl (fun h=>?_) (fun h=>?_)
   ·have h:(!((D2 ((BQ q).map fun s=>(s,true)) o.Var).getD default))=true:=h
    rw[Cr]at h;have hf:j8 (BQ q) o.Var=false:=by simpa using h
    refine A4 ?_;refine⟨_,rfl,Γ3,hle1.trans (hle2.trans hle3),C9 rfl ?_,O1 hw⟩
    rw[hv,hall,hsh,hf];rfl
   ·have h:(!((D2 ((BQ q).map fun s=>(s,true)) o.Var).getD default))=false:=h
    rw[Cr]at h;have hf:j8 (BQ q) o.Var=true:=by simpa using h
    rw[hf,Bool.true_and]at hsh;refine A4 ?_;exact⟨on-j-1,by omega,j+1,by omega,⟨rfl,rfl,rfl,rfl,rfl,rfl,rfl,rfl,trivial⟩,hsh,hw.drop⟩
  have hjn:on≤j:=by have:=of_decide_eq_false h;omega
  clear h;rw[E3 (H3 g) (by omega)]at hsh
  have hsh:MX q g=true:=hsh
  rw[hsh,Bool.true_and]at hall;refine A4 ?_;exact⟨gn-k-1,by omega,Γ3,k+1,hle2.trans hle3,by omega,⟨rfl,rfl,rfl,rfl,rfl,trivial⟩,hall,hw.drop⟩
 have hkn:gn≤k:=by have:=of_decide_eq_false h;omega
 rw[E3 _ (by rw[hnl];omega)]at hall
 refine A4 ?_;refine⟨_,rfl,Γ2,hle1.trans hle2,C9 rfl ?_,O1 hw⟩
 rw[hv,hall];rfl
def W9:List (Nat×Int)→Int
 | []=>0
 | p::r=>if p.2≠0 then p.2 else W9 r
def MQ(q:E7):List (Nat×Int):=[(102,if y5 q=true then 0 else 15),(103,if f9 q=true then 0 else 50),(104,if S4 q=true then 0 else 63),(105,if BX q=true then 0 else 6),(106,JY q)]
theorem Jl{q:E7}:BR q=W9 (MQ q):=by
 unfold BR MQ W9 W9 W9 W9 W9 W9 JY;cases y5 q <;> cases f9 q <;> cases S4 q <;> cases BX q <;> simp
theorem HY{Γ:B8}{vs vg:Value}{gs:List H4}{q:E7}{N:Nat}(hq0:QR Γ vs vg gs q)(hok:T4 N q)(hN:N≤9223372036854775807:=by first|decide|assumption):PG Tryz.prog Γ 47 [.agg #[vs,vg]] (.int .i64 (BR q)):=r9 fun Γ w hle hw=>by
 have hq:=hq0.mono hle
 obtain⟨ga,gn,gc,rfl,-,-,-⟩:=hq.goals.shape;obtain⟨sa,sn,sc,rfl,-,-,-⟩:=hq.sel.shape;have p1:=Es hq hok
 have p2:=Fc hq hok
 have p3:=Fh hq hok
 have p4:=Dx hq hok
 have p5:=CZ hq hok
 have hcl:∀(k:Nat) (p:Nat×Int),(MQ q)[k]? = some p→B5 Tryz.prog p.1∧PG Tryz.prog Γ p.1 [.agg #[.slice sa sn sc,.slice ga gn gc]] (.int .i64 p.2):=by
  intro k p hp;match k,hp with
  | 0,hp=>cases hp;exact⟨inferInstance,p1⟩
  | 1,hp=>cases hp;exact⟨inferInstance,p2⟩
  | 2,hp=>cases hp;exact⟨inferInstance,p3⟩
  | 3,hp=>cases hp;exact⟨inferInstance,p4⟩
  | 4,hp=>cases hp;exact⟨inferInstance,p5⟩
 have hlen:(MQ q).length=5:=rfl
 rw[Jl];refine A3 Tryz.func47 rfl rfl ?_
 refine A4 ?_;refine E5 ?_;intro b1 w hw;have hw:Wd Γ [.blk b1 (.cells #[.slice sa sn sc,.slice ga gn gc] 26)] w:=hw
 refine A4 ?_;refine D7 ((MQ q).map fun p=>[.func (.func p.1) #[] #[]]) ?_
 intro q1 w hw;obtain⟨CK,hCK⟩:∃CK,CK=MQ q:=⟨_,rfl⟩
 rw[←hCK]at hcl hlen hw ⊢
 clear hCK;have hw:Wd Γ [.own (.slice (some q1) 5 5) 116 1 (CK.map fun p=>[.func (.func p.1) #[] #[]]),.blk b1 (.cells #[.slice sa sn sc,.slice ga gn gc] 26)] w:=hw
 refine A4 ?_;refine C8 (fun μ ρ w=>∃(k:Nat),μ+k=5∧Has ρ [(1,.pointer (some ⟨b1,0,none⟩)),(8,.slice (some q1) 5 5),(9,.int .i64 5),(10,.int .i64 k)]∧W9 CK=W9 (CK.drop k)∧Wd Γ [.own (.slice (some q1) 5 5) 116 1 (CK.map fun p=>[.func (.func p.1) #[] #[]]),.blk b1 (.cells #[.slice sa sn sc,.slice ga gn gc] 26)] w) 5 ⟨0,by omega,⟨rfl,rfl,rfl,rfl,trivial⟩,rfl,hw⟩ ?_
 clear hw;rintro μ ρ w ⟨k,hk,hρ,hf,hw⟩
 rw[hρ.eq];clear hρ;refine A4 ?_;refine A0 rfl (fun h=>?_) (fun h=>?_)
 ·have hk5:k<5:=by have:=of_decide_eq_true h;omega
  clear h;obtain⟨p,hp⟩:=C0 (l:=CK) (k:=k) (by omega)
  obtain⟨hfn,hpg⟩:=hcl k p hp
  rw[K5 hp]at hf;refine A4 ?_;refine Ae (fst:=[]) (cap:=[]) (vs:=[.agg #[.slice sa sn sc,.slice ga gn gc]]) ?_
  refine(hpg.h _ _ hw).mono ?_
  clear hw;rintro e w ⟨rfl,hw⟩
  refine⟨_,rfl,?_⟩;refine A4 ?_;refine A0 rfl (fun h=>?_) (fun h=>?_)
  ·have h:p.2≠0:=of_decide_eq_true h
   refine A4 ?_;refine⟨_,rfl,Γ,B8.le.refl _,C9 rfl ?_,O1 hw⟩
   rw[hf,W9,if_pos h]
  ·have h:¬p.2≠0:=of_decide_eq_false h
   rw[W9,if_neg h]at hf;refine A4 ?_;exact⟨μ-1,by omega,k+1,by omega,⟨rfl,rfl,rfl,rfl,trivial⟩,hf,hw⟩
 have hk5:5≤k:=by have:=of_decide_eq_false h;omega
 rw[E3 CK (by omega)]at hf
 refine A4 ?_;exact⟨_,rfl,Γ,B8.le.refl _,C9 rfl hf.symm,O1 hw⟩
end Go.Proofs.YtlimglpjpcfpdaaGreat
end
section
open Go Mk
namespace Go.Proofs.YtlimglpjpcfpdaaGreat
def Ib:Go.Shelf.Ren:=⟨fun|6=>51|15=>114|14=>113|28=>171|29=>172|20=>163|21=>164|22=>165|23=>166|24=>167|25=>168|26=>169|27=>170|46=>229|47=>230|48=>231|49=>232|50=>233|57=>260|n=>n,fun|22=>48|24=>52|25=>60|3=>3|39=>155|0=>0|53=>260|55=>122|4=>4|46=>253|45=>252|50=>257|5=>5|9=>9|66=>292|70=>296|76=>320|77=>228|n=>n,fun|n=>n⟩
theorem Qx:Go.Proofs.SlLaysF.n6 Tryz.prog Ib:={
 mixed:=by kernel_rfl
 f6:=⟨Tryz.f51.name,by decide,Tryz.func51.trans (congrArg some (by kernel_rfl))⟩
 f14:=⟨Tryz.f113.name,by decide,Tryz.func113.trans (congrArg some (by kernel_rfl))⟩
 f15:=Tryz.func114.trans (congrArg some (by kernel_rfl))
 f20:=⟨Tryz.f163.name,by decide,Tryz.func163.trans (congrArg some (by kernel_rfl))⟩
 f21:=⟨Tryz.f164.name,by decide,Tryz.func164.trans (congrArg some (by kernel_rfl))⟩
 f22:=⟨Tryz.f165.name,by decide,Tryz.func165.trans (congrArg some (by kernel_rfl))⟩
 f23:=⟨Tryz.f166.name,by decide,Tryz.func166.trans (congrArg some (by kernel_rfl))⟩
 f24:=⟨Tryz.f167.name,by decide,Tryz.func167.trans (congrArg some (by kernel_rfl))⟩
 f25:=⟨Tryz.f168.name,by decide,Tryz.func168.trans (congrArg some (by kernel_rfl))⟩
 f26:=⟨Tryz.f169.name,by decide,Tryz.func169.trans (congrArg some (by kernel_rfl))⟩
 f27:=⟨Tryz.f170.name,by decide,Tryz.func170.trans (congrArg some (by kernel_rfl))⟩
 f28:=Tryz.func171.trans (congrArg some (by kernel_rfl))
 f29:=Tryz.func172.trans (congrArg some (by kernel_rfl))
 f46:=⟨Tryz.f229.name,by decide,Tryz.func229.trans (congrArg some (by kernel_rfl))⟩
 f47:=Tryz.func230.trans (congrArg some (by kernel_rfl))
 f48:=Tryz.func231.trans (congrArg some (by kernel_rfl))
 f49:=⟨Tryz.f232.name,by decide,Tryz.func232.trans (congrArg some (by kernel_rfl))⟩
 f50:=⟨Tryz.f233.name,by decide,Tryz.func233.trans (congrArg some (by kernel_rfl))⟩
 f57:=⟨Tryz.f260.name,by decide,Tryz.func260.trans (congrArg some (by kernel_rfl))⟩
 t0:=Tryz.underlying0
 a0:=Tryz.isAgg0
 z0:=Tryz.sizeOf0
 v0:=Tryz.zeroValue0
 t3:=Tryz.underlying3
 a3:=Tryz.isAgg3
 z3:=Tryz.sizeOf3
 v3:=Tryz.zeroValue3
 t4:=Tryz.underlying4
 a4:=Tryz.isAgg4
 z4:=Tryz.sizeOf4
 v4:=Tryz.zeroValue4
 t5:=Tryz.underlying5
 a5:=Tryz.isAgg5
 z5:=Tryz.sizeOf5
 v5:=Tryz.zeroValue5
 t9:=Tryz.underlying9
 a9:=Tryz.isAgg9
 z9:=Tryz.sizeOf9
 v9:=Tryz.zeroValue9
 t22:=Tryz.underlying48
 a22:=Tryz.isAgg48
 z22:=Tryz.sizeOf48
 v22:=Tryz.zeroValue48
 a24:=Tryz.isAgg52
 z24:=Tryz.sizeOf52
 t25:=Tryz.underlying60
 a25:=Tryz.isAgg60
 z25:=Tryz.sizeOf60
 v25:=Tryz.zeroValue60
 t39:=Tryz.underlying155
 a39:=Tryz.isAgg155
 z39:=Tryz.sizeOf155
 v39:=Tryz.zeroValue155
 t45:=Tryz.underlying252
 a45:=Tryz.isAgg252
 z45:=Tryz.sizeOf252
 v45:=Tryz.zeroValue252
 t46:=Tryz.underlying253
 a46:=Tryz.isAgg253
 z46:=Tryz.sizeOf253
 v46:=Tryz.zeroValue253
 t50:=Tryz.underlying257
 a50:=Tryz.isAgg257
 z50:=Tryz.sizeOf257
 v50:=Tryz.zeroValue257
 t53:=Tryz.underlying260
 a53:=Tryz.isAgg260
 z53:=Tryz.sizeOf260
 v53:=Tryz.zeroValue260
 t55:=Tryz.underlying122
 a55:=Tryz.isAgg122
 z55:=Tryz.sizeOf122
 v55:=Tryz.zeroValue122
 t66:=Tryz.underlying292
 a66:=Tryz.isAgg292
 z66:=Tryz.sizeOf292
 v66:=Tryz.zeroValue292
 t70:=Tryz.underlying296
 a70:=Tryz.isAgg296
 z70:=Tryz.sizeOf296
 v70:=Tryz.zeroValue296
 t76:=Tryz.underlying320
 a76:=Tryz.isAgg320
 z76:=Tryz.sizeOf320
 v76:=Tryz.zeroValue320
 t77:=Tryz.underlying228
 a77:=Tryz.isAgg228
 z77:=Tryz.sizeOf228
 v77:=Tryz.zeroValue228 }
end Go.Proofs.YtlimglpjpcfpdaaGreat
end
section
open Go Mk
namespace Go.Proofs.YtlimglpjpcfpdaaGreat
set_option maxHeartbeats 16000000
attribute [local irreducible] Calls cI cB
abbrev K4:=Value×List Val
def cR(p:K4):List Value:=[p.1]
def JS(Γ:B8)(p:K4):Prop:=D3 Γ p.1 3 (p.2.map enc)
def Ms(x y:K4):Bool:=decide (cL cV x.2 y.2=0)
theorem JS.one{Γ:B8}{p:K4}(h:JS Γ p):p.1.oneCell'=true:=by
 obtain⟨a,n,c,h1,-⟩:=D3.shape h
 rw[h1];rfl
theorem HN{Γ:B8}{S:List A7}{w:World}{v:Value}(fs:List K4)(hok:∀f∈fs,JS Γ f)(hl:fs.length≤1000000)(hw:Wd Γ (.own v 52 1 (fs.map cR)::S) w) :
  Calls Tryz.prog 54 #[v,.func (.func 53) #[] #[]] w fun e w'=>∃v',e=.returned v'∧Wd Γ (.own v' 52 1 ((U4 Ms fs).map cR)::S) w':=by
 obtain⟨a,n,c,rfl,hn,hnc,hc⟩:=hw.own_shape (i:=0) rfl
 simp only[List.length_map]at hn
 refine A3 Tryz.func54 rfl rfl ?_
 refine A4 ?_;refine A0 rfl (fun h=>?_) (fun h=>?_)
 ·have h:n<2:=by have:=of_decide_eq_true h;omega
  refine A4 ?_;have hE:U4 Ms fs=fs:=by
   cases fs with
   | nil=>rfl
   | cons x fs=>
    cases fs with
    | nil=>rfl
    | cons y fs=>simp at hn;omega
  rw[hE];exact⟨_,rfl,_,rfl,hw⟩
 have h:2≤n:=by have:=of_decide_eq_false h;omega
 refine A4 ?_;refine C8 (fun μ ρ w=>∃(k:Nat),μ+k=n∧1≤k∧Has ρ [(0,.slice a n c),(1,.func (.func 53) #[] #[]),(5,.int .i64 k)]∧U4 Ms (fs.take k)=fs.take k∧Wd Γ (.own (.slice a n c) 52 1 (fs.map cR)::S) w) (n-1) ⟨1,by omega,by omega,⟨rfl,rfl,rfl,trivial⟩,?_,hw⟩ ?_
 ·cases fs with
  | nil=>rfl
  | cons x fs=>rfl
 clear hw;rintro μ ρ w ⟨k,hk,hk1,hρ,ho,hw⟩
 rw[hρ.eq];refine A4 ?_;refine A0 rfl (fun h=>?_) (fun h=>?_)
 ·have hkn:k<n:=by have:=of_decide_eq_true h;omega
  obtain⟨y,hy⟩:=C0 (l:=fs) (k:=k) (by omega)
  obtain⟨x,hx0⟩:=C0 (l:=fs) (k:=k-1) (by omega)
  have hx:fs[((k:Int)-1).toNat]? = some x:=by rw[show ((k:Int)-1).toNat=k-1 from by omega];exact hx0
  have hfy:=hok y (List.mem_of_getElem? hy)
  have hfx:=hok x (List.mem_of_getElem? hx0)
  have hsucc:=u2 (p:=Ms) (by omega) hy hx0
  refine A4 ?_;refine L4 (by kernel_rfl) (by kernel_rfl) hw ?_
  iterate 10 (first|refine Al ?_|(apply O5;first|(apply U3;first|refine qP ?_|refine OD ?_)|refine qY ?_)|(apply J0;first|(apply U3;first|refine NG ?_|refine FX ?_)|refine qG ?_))
  refine Qp (v:=.bool (Ms y x)) (cap:=[]) (vs:=[y.1,x.1]) (fun Y w hw=>?_) ?_
  ·exact(FJ hfy hfx).h _ _ hw
  refine Hd ?_;intro w hw;refine A0 rfl (fun h2=>?_) (fun h2=>?_)
  ·rw[if_pos h2]at hsucc;refine A4 ?_;refine C8 (fun μ ρ w=>∃(m q:Nat) (cur:List K4),μ+(k+m)=n∧1≤m∧1≤q∧q<k+m∧Has ρ [(0,.slice a n c),(1,.func (.func 53) #[] #[]),(5,.int .i64 q),(6,.slice (m9 a k c 1) (n-k) (c-k)),(7,.int .i64 m)]∧cur.length=n∧cur.take q=U4 Ms (fs.take (k+m))∧(∀i,k+m-1≤i→cur[i]? = fs[i]?)∧Wd Γ (.own (.slice a n c) 52 1 (cur.map cR)::S) w) (n-(k+1)) ⟨1,k,fs,by omega,by omega,by omega,by omega,⟨rfl,rfl,rfl,rfl,rfl,trivial⟩,hn.symm,by rw[hsucc,ho],fun i _=>rfl,hw⟩ ?_
   clear hw hρ hsucc;rintro μ2 ρ w ⟨m,q,cur,hm,hm1,hq1,hq2,hρ,hcl,hcur,hsame,hw⟩
   rw[hρ.eq];refine A4 ?_;refine A0 rfl (fun h3=>?_) (fun h3=>?_)
   ·have hmn:k+m<n:=by have:=of_decide_eq_true h3;omega
    obtain⟨y2,hy2⟩:=C0 (l:=fs) (k:=k+m) (by omega)
    obtain⟨x2,hx2⟩:=C0 (l:=fs) (k:=k+m-1) (by omega)
    have hcy:(cur.drop k)[m]? = some y2:=by rw[List.getElem?_drop,hsame _ (by omega)];exact hy2
    have hcx:(cur.drop k)[((m:Int)-1).toNat]? = some x2:=by
     rw[List.getElem?_drop,hsame _ (by omega),show k+((m:Int)-1).toNat=k+m-1 from by omega];exact hx2
    have hfy2:=hok y2 (List.mem_of_getElem? hy2)
    have hfx2:=hok x2 (List.mem_of_getElem? hx2)
    have hsucc:=u2 (p:=Ms) (by omega) hy2 hx2
    have hlen:n-k=((cur.drop k).map cR).length:=by simp[hcl]
    have hR2:O9 Γ (.own (.slice a n c) 52 1 (cur.map cR)::S) (.slice (m9 a k c 1) (n-k) (c-k)) 1 ((cur.drop k).map cR):=⟨_,_,_,rfl,hlen,by omega,by omega,fun w hw=>by
     have:=(Wd.own_rd (i:=0) hw rfl).cut (c:=c) (by simp;omega) k (by simp;omega)
     rwa [←List.map_drop]at this⟩
    refine A4 ?_;refine L4 (by kernel_rfl) (by kernel_rfl) hw ?_
    iterate 10 (first|refine Al ?_|(apply O5;first|(apply U3;first|refine qP ?_|refine OD ?_)|refine qY ?_)|(apply J0;first|(apply U3;first|refine NG ?_|refine FX ?_)|refine qG ?_))
    refine Qp (v:=.bool (Ms y2 x2)) (cap:=[]) (vs:=[y2.1,x2.1]) (fun Y w hw=>?_) ?_
    ·exact(FJ hfy2 hfx2).h _ _ hw
    refine Hd ?_;intro w hw;refine A0 rfl (fun h4=>?_) (fun h4=>?_)
    ·have h4:Ms y2 x2=false:=by simpa using h4
     rw[if_neg (by rw[h4];decide)]at hsucc
     refine A4 ?_;have hcells:y2.1.cells.toList=[y2.1]:=by
      obtain⟨ya,yn,yc,hys,-⟩:=D3.shape hfy2
      rw[hys];rfl
     refine EK (k:=q) (r:=[y2.1]) ?_ (hv:=hcells) (hl:=rfl) (h1:=by rw[List.all_cons,JS.one hfy2];rfl)
     intro w hw;have hw:Wd Γ (.own (.slice a n c) 52 1 ((cur.map cR).set q (cR y2))::S) w:=hw
     rw[←List.map_set]at hw;refine A4 ?_;refine⟨n-(k+(m+1)),by omega,m+1,q+1,cur.set q y2,by omega,by omega,by omega,by omega,⟨rfl,rfl,rfl,rfl,rfl,trivial⟩,by rw[List.length_set];exact hcl,?_,fun i hi=>?_,hw⟩
     ·rw[show k+(m+1)=k+m+1 from rfl,hsucc,←hcur,List.take_add_one,List.take_set_of_le (by omega),List.getElem?_set_self (by omega)];rfl
     ·rw[List.getElem?_set_ne (by omega)];exact hsame i (by omega)
    ·have h4:Ms y2 x2=true:=by simpa using h4
     rw[if_pos h4]at hsucc;refine A4 ?_;exact⟨n-(k+(m+1)),by omega,m+1,q,cur,by omega,by omega,by omega,by omega,⟨rfl,rfl,rfl,rfl,rfl,trivial⟩,hcl,by rw[show k+(m+1)=k+m+1 from rfl,hsucc];exact hcur,fun i hi=>hsame i (by omega),hw⟩
   ·have hmn:k+m=n:=by have:=of_decide_eq_false h3;omega
    have hfn:fs.take n=fs:=List.take_of_length_le (by omega)
    rw[hmn,hfn]at hcur;have hqn:q≤n:=by omega
    have hw:=Wd.own_take (i:=0) (m:=q) hw rfl hqn
    rw[←List.map_take,hcur]at hw;have hw:Wd Γ (.own (.slice a q c) 52 1 ((U4 Ms fs).map cR)::S) w:=hw
    refine A4 ?_;refine HG ?_;intro w hw;refine A4 ?_;exact⟨_,rfl,_,rfl,hw⟩
  ·rw[if_neg (by rw[h2];decide)]at hsucc
   refine A4 ?_;refine⟨μ-1,by omega,k+1,by omega,by omega,⟨rfl,rfl,rfl,trivial⟩,?_,hw⟩
   rw[hsucc,ho,List.take_add_one,hy];rfl
 ·have hkn:¬k<n:=by have:=of_decide_eq_false h;omega
  rw[List.take_of_length_le (by omega)]at ho
  refine A4 ?_;rw[ho];exact⟨_,rfl,_,rfl,hw⟩
theorem MG{Γ:B8}{S:List A7}{w:World}(fs:List K4)(v:Value)(hok:∀f∈fs,JS Γ f)(hl:fs.length≤1000000)(hw:Wd Γ (.own v 52 1 (fs.map cR)::S) w) :
  Calls Tryz.prog 51 #[v,.func (.func 52) #[] #[]] w fun e w'=>e=.returned (.tuple #[])∧∃gs:List K4,gs.Perm fs∧(gs.Pairwise fun a b=>Go.Proofs.ltOf (fun a b:K4=>cL cV a.2 b.2) b a=false)∧Wd Γ (.own v 52 1 (gs.map cR)::S) w':=by
 have hxs:(fs.attachWith (JS Γ) hok).map Subtype.val=fs:=List.attachWith_map_subtype_val _
 have hrows:((fs.attachWith (JS Γ) hok).map fun a=>[a.1.1])=fs.map cR:=by
  conv=>rhs;rw[←hxs]
  rw[List.map_map];rfl
 rw[←hrows]at hw;haveI:Inhabited {f:K4 // JS Γ f}:=⟨⟨(.slice none 0 0,[]),D3.nil⟩⟩
 have:=Jd (α:={f:K4 // JS Γ f}) (f:=fun a=>a.1.1) Qx (fun a=>JS.one a.2) (fun a b=>cL cV a.1.2 b.1.2) 52 [] (fs.attachWith (JS Γ) hok) v hw (i:=0) rfl
  (Nh DX.list fun a:{f:K4 // JS Γ f}=>a.1.2) (by simp;omega) (fun dk w' hw' x y=>by
   have h1:∀b o,Γ.imm b=some o→(d9 w').imm b=some o:=fun b o hb=>hw'.imm b o hb
   have h2:=LM (Γ:=d9 w') (D3.imm x.2 h1) (D3.imm y.2 h1)
   refine(h2.h [] w' (Cf w')).mono ?_
   rintro e w'' ⟨he,hw''⟩
   exact⟨he,[],hw''⟩)
 refine this.mono ?_
 rintro e w' ⟨he,ys,hp,hs,hw'⟩
 refine⟨he,ys.map Subtype.val,?_,?_,?_⟩
 ·have:=hp.map Subtype.val
  rwa [hxs]at this
 ·rw[List.pairwise_map];exact hs
 ·rw[List.map_map];exact hw'
end Go.Proofs.YtlimglpjpcfpdaaGreat
end
section
open Go Mk
namespace Go.Proofs.YtlimglpjpcfpdaaGreat
set_option maxHeartbeats 16000000
attribute [local irreducible] Calls cI cB
structure RW(Γ:B8)(v:Value)(L:List K4):Prop where
 rep:D3 Γ v 1 (L.map cR)
 ok:∀p∈L,JS Γ p
theorem RW.mono{Γ Γ':B8}{v:Value}{L:List K4}(h:RW Γ v L)(hle:Γ.le Γ'):RW Γ' v L:=⟨h.rep.mono hle,fun p hp=>D3.mono (h.ok p hp) hle⟩
theorem RW.nil{Γ:B8}:RW Γ (.slice none 0 0) []:=⟨D3.nil,fun p h=>(by cases h)⟩
def rowsOf(L:List K4):List (List Val):=L.map (·.2)
theorem JB:∀ {L:List (Value×List (List Value))} {rs:List (List Val)},L.map (·.2)=(rs.map fun r=>r.map enc)→∃M:List K4,M.map cR=(L.map fun x=>[x.1])∧rowsOf M=rs∧∀p∈M,∃x∈L,x.1=p.1∧x.2=p.2.map enc
 | [],[],_=>⟨[],rfl,rfl,fun p h=>(by cases h)⟩
 | [],_::_,h=>by simp at h
 | _::_,[],h=>by simp at h
 | x::L,r::rs,h=>by
  simp only[List.map_cons,List.cons.injEq]at h
  obtain⟨M,h1,h2,h3⟩:=JB (L:=L) (rs:=rs) h.2
  refine⟨(x.1,r)::M,by rw[List.map_cons,List.map_cons,h1];rfl,by unfold rowsOf at *;rw[List.map_cons,h2],fun p hp=>?_⟩
  rcases List.mem_cons.1 hp with rfl|hp
  ·exact⟨x,by simp,rfl,h.1⟩
  ·obtain⟨y,hy,h4⟩:=h3 p hp
   exact⟨y,by simp[hy],h4⟩
theorem KM{db:List I3}{g:F5}(h:g.Kind=4→g.Low≤g.High):1≤P9 db g:=by
 unfold P9;split
 ·exact Nat.le_max_right ..
 split
 ·rename_i h4
  have:=h h4
  omega
 ·exact Nat.le_refl _
theorem KI{db:List I3}{l:List F5}{k:Nat}{g:F5}(h:l[k]? = some g):M9 db (l.take (k+1))=M9 db (l.take k)*P9 db g:=by
 unfold M9;rw[List.take_add_one,h,List.foldl_append];rfl
theorem Jv{db:List I3}{l:List F5}(h:∀g∈l,g.Kind=4→g.Low≤g.High)(k:Nat):M9 db (l.take k)≤M9 db l:=by
 have key:∀(r:List F5) (n:Nat),(∀g∈r,g.Kind=4→g.Low≤g.High)→n≤r.foldl (fun n g=>n*P9 db g) n:=by
  intro r;induction r with
  | nil=>intro n _;exact Nat.le_refl _
  | cons g r ih=>
   intro n hr;rw[List.foldl_cons];refine Nat.le_trans ?_ (ih _ fun g hg=>hr g (by simp[hg]))
   exact Nat.le_mul_of_pos_right n (KM (hr g (by simp)))
 have e:M9 db l=(l.drop k).foldl (fun n g=>n*P9 db g) (M9 db (l.take k)):=by
  unfold M9;rw[←List.foldl_append,List.take_append_drop]
 rw[e];exact key _ _ fun g hg=>h g (List.mem_of_mem_drop hg)
theorem PW{g:F5}(h:AB g=true)(h4:g.Kind=4):g.Low≤g.High∧g.High-g.Low≤1000000:=by
 unfold AB at h;rw[if_neg (by omega),if_pos h4]at h
 simpa using h
theorem Nv{q:E7}(h:BR q=0):∀g∈q.Goals,g.Kind=4→g.Low≤g.High∧g.High-g.Low≤1000000:=by
 intro g hg h4;refine PW ?_ h4
 have hn:BX q=true:=by
  cases hq:BX q with
  | true=>rfl
  | false=>
   unfold BR at h;rw[hq]at h;split at h
   ·cases h
   split at h
   ·cases h
   split at h
   ·cases h
   simp at h
 exact List.all_eq_true.1 hn g hg
theorem Ox{l:List I3}{r:ByteArray}{m:Int}:(MA l r m).length≤l.length:=by
 unfold MA;exact Nat.le_trans (List.length_filter_le ..) Ew
theorem Hk{db:List I3}{g:F5}:(R5 db g).length≤db.length:=by
 unfold R5;split
 ·exact Ox
 ·exact Nat.zero_le _
theorem T4.small{N:Nat}{q:E7}(h:T4 N q)(hv:BR q=0):CQ q:=by
 unfold BR at hv;split at hv
 ·cases hv
 rename_i h1
 split at hv
 ·cases hv
 rename_i h2
 simp only[Bool.not_eq_false]at h1 h2
 unfold y5 at h1;simp only[Bool.and_eq_true,decide_eq_true_eq]at h1
 refine⟨h.sel,h.names,h.len,fun g hg=>?_⟩
 have ho:=h.goals g hg
 have hl:g.Args.length≤1000:=by
  by_cases ha:F7 g=true
  ·have:=List.all_eq_true.1 h1.1.2 g hg
   rw[ha]at this;simp only[Bool.not_true,Bool.false_or,Bool.and_eq_true,decide_eq_true_eq]at this
   omega
  have hs:=List.all_eq_true.1 h2 g hg
  rw[Bool.and_eq_true]at hs;have hs:=hs.1
  unfold N4 at hs;unfold F7 at ha;simp only[Bool.or_eq_true,decide_eq_true_eq]at ha
  rw[if_neg ha]at hs;split at hs
  ·simp only[Bool.and_eq_true,decide_eq_true_eq]at hs;omega
  split at hs
  ·simp only[Bool.and_eq_true,decide_eq_true_eq]at hs;omega
  ·cases hs
 exact⟨ho.rel,hl,ho.args,ho.l,ho.r,ho.off,ho.low,ho.high⟩
theorem GX{N:Nat}{Γ:B8}{S:List A7}{w:World}{va vs vg:Value}{fs:List C1}{gs:List H4}{q:E7}(hF:RL Γ va fs)(hl:fs.length≤50000)(hq:QR Γ vs vg gs q)(hok:T4 N q)(hw:Wd Γ S w)(hN:N≤9223372036854775807:=by first|decide|assumption) :
  Calls Tryz.prog 14 #[va,.agg #[vs,vg]] w fun e w'=>∃(Γ':B8) (v:Value) (L:List K4),Γ.le Γ'∧e=.returned (.tuple #[v,.int .i64 (E1 (facts fs) q)])∧RW Γ' v L∧rowsOf L=G1 (facts fs) q∧Wd Γ' S w':=by
 obtain⟨ga,gn,gc,rfl,hgn,hgnc,hgc⟩:=hq.goals.shape;obtain⟨sa,sn,sc,rfl,hsn,hsnc,hsc⟩:=hq.sel.shape;obtain⟨fa,fc,rfl,hfc1,hfc2⟩:=hF.len;simp only[List.length_map]at hgn hsn
 have hgl:=hq.glen hok
 have hnl:=hq.nlen
 have p1:=HY hq hok
 obtain⟨db,hdb⟩:∃db,db=facts fs:=⟨_,rfl⟩
 have hdl:db.length≤50000:=by rw[hdb];unfold facts;rw[List.length_map];exact hl
 rw[←hdb];refine A3 Tryz.func14 rfl rfl ?_
 refine A4 ?_;refine E5 ?_;intro b3 w hw;have hw:Wd Γ (.blk b3 (.cells #[.slice sa sn sc,.slice ga gn gc] 26)::S) w:=hw
 repeat first|refine B6 ?_|refine B7 ?_;intro w hw
 refine A0 rfl (fun h=>?_) (fun h=>?_)
 ·have h:BR q≠0:=of_decide_eq_true h
  have he:E1 db q=BR q:=by unfold E1;rw[if_pos h]
  refine A4 ?_;refine⟨_,rfl,Γ,.slice none 0 0,[],B8.le.refl _,?_,RW.nil,?_,hw.drop⟩
  ·rw[he];rfl
  ·unfold G1;rw[he,if_neg h];rfl
 have hv:BR q=0:=by
  have:=of_decide_eq_false h
  simpa using this
 have hok:CQ q:=hok.small hv
 have hR:=Nv hv
 have hRl:∀g∈q.Goals,g.Kind=4→g.Low≤g.High:=fun g hg h4=>(hR g hg h4).1
 have hse:E1 db q=if 1000000<M9 db q.Goals then 15 else 0:=by
  unfold E1;rw[if_neg (fun e=>e hv)]
 clear h p1;refine A4 ?_;refine H1 rfl rfl (m8 (K:=9) (α:=ByteArray) (f:=Tn) hw fun bm w hw=>?_)
 have hw:Wd Γ (D1 bm []::.blk b3 (.cells #[.slice sa sn sc,.slice ga gn gc] 26)::S) w:=hw
 refine A4 ?_;refine E5 ?_;intro b7 w hw;have hw:=Wd.addNil (a:=none) (E:=58) (sz:=1) hw
 have hw:Wd Γ (.own (.slice none 0 0) 58 1 (([]:List (Value×List C1)).map fun t=>[t.1])::.blk b7 (E0 (.slice sa sn sc) (.slice ga gn gc) (.slice none 0 0) (.slice none 0 0) bm)::D1 bm []::.blk b3 (.cells #[.slice sa sn sc,.slice ga gn gc] 26)::S) w:=hw
 have hw:Wd Γ (.own (.slice none 0 0) 58 1 (([]:List (Value×List C1)).map fun t=>[t.1])::.blk b3 (.cells #[.slice sa sn sc,.slice ga gn gc] 26)::.blk b7 (E0 (.slice sa sn sc) (.slice ga gn gc) (.slice none 0 0) (.slice none 0 0) bm)::D1 bm []::S) w:=hw.perm M8
 refine A4 ?_;refine C8 (fun μ ρ w=>∃(Γ':B8) (k:Nat) (ts:List (Value×List C1)) (ta:Option Addr) (tn tc:Nat),Γ.le Γ'∧μ+k=gn∧Has ρ [(0,.slice fa fs.length fc),(3,.pointer (some ⟨b3,0,none⟩)),(7,.pointer (some ⟨b7,0,none⟩)),(8,.int .u64 (M9 db (q.Goals.take k))),(23,.slice ga gn gc),(24,.int .i64 gn),(25,.int .i64 k)]∧ts.length=k∧(∀t∈ts,RL Γ' t.1 t.2)∧(∀(i:Nat) x t,gs[i]? = some x→ts[i]? = some t→facts t.2=R5 db x.g)∧M9 db (q.Goals.take k)≤1000000∧Wd Γ' (.own (.slice ta tn tc) 58 1 (ts.map fun t=>[t.1])::.blk b3 (.cells #[.slice sa sn sc,.slice ga gn gc] 26)::.blk b7 (E0 (.slice sa sn sc) (.slice ga gn gc) (.slice ta tn tc) (.slice none 0 0) bm)::D1 bm []::S) w) gn ⟨Γ,0,[],none,0,0,B8.le.refl _,by omega,⟨rfl,rfl,rfl,rfl,rfl,rfl,rfl,trivial⟩,rfl,(fun t h=>(by cases h)),(fun i x t _ h=>(by simp at h)),(by show 1≤1000000;decide),hw⟩ ?_
 clear hw;rintro μ ρ w ⟨Γ1,k,ts,ta,tn,tc,hle1,hk,hρ,htl,hrl,heq,hwk,hw⟩
 rw[hρ.eq];clear hρ;have hq1:=hq.mono hle1
 have hrG1:=hq1.goals
 refine A4 ?_;refine A0 rfl (fun h=>?_) (fun h=>?_)
 ·have hkn:k<gn:=by have:=of_decide_eq_true h;omega
  clear h;obtain⟨x,hx⟩:=C0 (l:=gs) (k:=k) (by omega)
  have hxm:=List.mem_of_getElem? hx
  have hgoal:=hq.goal hok hxm
  have hgok:=hq1.ok x hxm
  have hgx:=hq.get hx
  have hws:=KI (db:=db) hgx
  have hwm:=Jv (db:=db) hRl (k+1)
  have hRx:=hR x.g (List.mem_of_getElem? hgx)
  obtain⟨l1,l2,l3⟩:=hgok.len;obtain⟨g,A,N,C⟩:=x;simp only at hgoal l1 l2 l3 hgx hws hRx
  have hal:=hgoal.len
  refine A4 ?_;refine B2 ?_;intro b10 w hw;refine A4 ?_;refine B0 ?_;intro w hw;have hw:Wd Γ1 (.blk b10 (.cells (cG ⟨g,A,N,C⟩).toArray 127)::.own (.slice ta tn tc) 58 1 (ts.map fun t=>[t.1])::.blk b3 (.cells #[.slice sa sn sc,.slice ga gn gc] 26)::.blk b7 (E0 (.slice sa sn sc) (.slice ga gn gc) (.slice ta tn tc) (.slice none 0 0) bm)::D1 bm []::S) w:=hw
  repeat first|refine B6 ?_|refine B7 ?_;intro w hw
  refine Gz (fun ρ w=>∃(Γ':B8) (a:Option Addr) (c:Nat) (fs':List C1),Γ1.le Γ'∧RL Γ' (.slice a fs'.length c) fs'∧facts fs'=R5 db g∧Has ρ [(0,.slice fa fs.length fc),(3,.pointer (some ⟨b3,0,none⟩)),(7,.pointer (some ⟨b7,0,none⟩)),(8,.int .u64 (M9 db (q.Goals.take k))),(10,.pointer (some ⟨b10,0,none⟩)),(11,.slice a fs'.length c),(23,.slice ga gn gc),(24,.int .i64 gn),(25,.int .i64 k)]∧Wd Γ' (.blk b10 (.cells (cG ⟨g,A,N,C⟩).toArray 127)::.own (.slice ta tn tc) 58 1 (ts.map fun t=>[t.1])::.blk b3 (.cells #[.slice sa sn sc,.slice ga gn gc] 26)::.blk b7 (E0 (.slice sa sn sc) (.slice ga gn gc) (.slice ta tn tc) (.slice none 0 0) bm)::D1 bm []::S) w) ?_ ?_
  ·refine A0 rfl (fun h=>?_) (fun h=>?_)
   ·have hat:g.Kind=1∨g.Kind=2:=by
     have h:F7 g=true:=h
     unfold F7 at h;simpa using h
    have ht:R5 db g=MA db g.Rel N:=by unfold R5;rw[if_pos hat,l1]
    have hF1:=hF.mono hle1
    refine A4 ?_;refine C5 (vs:=[.slice fa fs.length fc,.string g.Rel,.int .i64 N]) ((KC (r:=g.Rel) (m:=N) fs hF1.ok hl hF1.rep hw).mono fun e w hq2=>?_)
    clear hw;obtain⟨v',fs',rfl,hfs,hfo,hw⟩:=hq2;have hwf:=Kw hfo hw
    clear hw;obtain⟨Γ2,hle2,hrl2,hw⟩:=hwf;obtain⟨a,c,rfl,hc1,hc2⟩:=hrl2.len;refine⟨_,rfl,?_⟩;refine A4 ?_;exact⟨Γ2,a,c,fs',hle2,hrl2,by rw[hfs,ht,hdb],⟨rfl,rfl,rfl,rfl,rfl,rfl,rfl,rfl,rfl,trivial⟩,hw⟩
   ·have hat:¬(g.Kind=1∨g.Kind=2):=by
     have h:F7 g=false:=h
     unfold F7 at h;simpa using h
    have ht:R5 db g=[]:=by unfold R5;rw[if_neg hat]
    refine A4 ?_;exact⟨Γ1,none,0,[],B8.le.refl _,RL.nil,by rw[ht];rfl,⟨rfl,rfl,rfl,rfl,rfl,rfl,rfl,rfl,rfl,trivial⟩,hw⟩
  clear hw;rintro ρ w ⟨Γ2,a,c,fs',hle2,hrl2,hft,hρ,hw⟩
  rw[hρ.eq];clear hρ;obtain⟨-,-,-,hc1,hc2⟩:=hrl2.len;have hfl:fs'.length=(R5 db g).length:=by rw[←hft];unfold facts;rw[List.length_map]
  have htb:=Hk (db:=db) (g:=g)
  have hw:Wd Γ2 (.own (.slice ta tn tc) 58 1 (ts.map fun t=>[t.1])::.blk b7 (E0 (.slice sa sn sc) (.slice ga gn gc) (.slice ta tn tc) (.slice none 0 0) bm)::.blk b3 (.cells #[.slice sa sn sc,.slice ga gn gc] 26)::D1 bm []::.blk b10 (.cells (cG ⟨g,A,N,C⟩).toArray 127)::S) w:=hw.perm M8
  obtain⟨ta',tn',tc',hts,htn,htnc,htc⟩:=hw.own_shape (i:=0) rfl
  cases hts
  simp only[List.length_map]at htn
  refine A4 ?_;refine D7 [[.slice a fs'.length c]] ?_
  intro q2 w hw;refine Bp (i:=1) (rows2:=[[.slice a fs'.length c]]) ?_ (Wd.own_rd (i:=0) hw rfl)
  intro vt' w hw;obtain⟨tb,tm,td,rfl,-,-,-⟩:=hw.own_shape (i:=1) rfl
  refine A4 ?_;refine B0 (i:=2) ?_
  intro w hw;have hw:Wd Γ2 (.own (.slice (some q2) 1 1) 58 1 [[.slice a fs'.length c]]::.own (.slice tb tm td) 58 1 (ts.map (fun t=>[t.1])++[[.slice a fs'.length c]])::.blk b7 (E0 (.slice sa sn sc) (.slice ga gn gc) (.slice tb tm td) (.slice none 0 0) bm)::.blk b3 (.cells #[.slice sa sn sc,.slice ga gn gc] 26)::D1 bm []::.blk b10 (.cells (cG ⟨g,A,N,C⟩).toArray 127)::S) w:=hw
  rw[show ts.map (fun t=>[t.1])++[[Value.slice a fs'.length c]]=(ts++[(Value.slice a fs'.length c,fs')]).map (fun t=>[t.1]) from by rw[List.map_append];rfl]at hw
  have hw:Wd Γ2 (.blk b10 (.cells (cG ⟨g,A,N,C⟩).toArray 127)::.own (.slice tb tm td) 58 1 ((ts++[(Value.slice a fs'.length c,fs')]).map (fun t=>[t.1]))::.blk b3 (.cells #[.slice sa sn sc,.slice ga gn gc] 26)::.blk b7 (E0 (.slice sa sn sc) (.slice ga gn gc) (.slice tb tm td) (.slice none 0 0) bm)::D1 bm []::S) w:=(hw.dropAt 0).perm M8
  first|refine B6 ?_|(refine B7 ?_;intro w hw)
  refine Ba (fun ρ w=>Has ρ [(0,.slice fa fs.length fc),(3,.pointer (some ⟨b3,0,none⟩)),(7,.pointer (some ⟨b7,0,none⟩)),(8,.int .u64 (M9 db (q.Goals.take (k+1)))),(23,.slice ga gn gc),(24,.int .i64 gn),(25,.int .i64 k)]∧Wd Γ2 (.blk b10 (.cells (cG ⟨g,A,N,C⟩).toArray 127)::.own (.slice tb tm td) 58 1 ((ts++[(Value.slice a fs'.length c,fs')]).map (fun t=>[t.1]))::.blk b3 (.cells #[.slice sa sn sc,.slice ga gn gc] 26)::.blk b7 (E0 (.slice sa sn sc) (.slice ga gn gc) (.slice tb tm td) (.slice none 0 0) bm)::D1 bm []::S) w) ?_ ?_
  ·have hfac:P9 db g≤1000001:=by
    unfold P9;split
    ·omega
    split
    ·rename_i h4
     have:=hRx h4
     omega
    ·omega
   have hmul:M9 db (q.Goals.take k)*P9 db g≤1000000*1000001:=Nat.mul_le_mul hwk hfac
   refine A4 ?_;refine A0 rfl (fun h=>?_) (fun h=>?_)
   ·have hk1:g.Kind=1:=of_decide_eq_true h
    have hfe:P9 db g=max fs'.length 1:=by unfold P9;rw[if_pos hk1,hfl]
    refine A4 ?_;refine⟨⟨rfl,rfl,rfl,?_,rfl,rfl,rfl,trivial⟩,hw⟩
    show Value.int .u64 (IntKind.u64.wrap ((M9 db (q.Goals.take k):Int)*IntKind.u64.wrap (if (fs'.length:Int)<1 then 1 else (fs'.length:Int))))=_
    rw[show (if (fs'.length:Int)<1 then 1 else (fs'.length:Int))=max (fs'.length:Int) 1 from by split <;> omega]
    rw[p9 (a:=max (fs'.length:Int) 1) (by omega) (by omega),hws,hfe]
    rw[hfe]at hmul;have e:(M9 db (q.Goals.take k):Int)*max (fs'.length:Int) 1=((M9 db (q.Goals.take k)*max fs'.length 1:Nat):Int):=by
     rw[Int.natCast_mul];congr 1;omega
    rw[e,p9 (by omega) (by omega)]
   have hk1:¬g.Kind=1:=of_decide_eq_false h
   clear h;refine A4 ?_;refine A0 rfl (fun h=>?_) (fun h=>?_)
   ·have hk4:g.Kind=4:=of_decide_eq_true h
    obtain⟨hlh,hlh2⟩:=hRx hk4
    have hfe:P9 db g=(g.High-g.Low+1).toNat:=by unfold P9;rw[if_neg hk1,if_pos hk4]
    have hsub:=Gy hgoal.high hgoal.low hlh
    refine A4 ?_;refine⟨⟨rfl,rfl,rfl,?_,rfl,rfl,rfl,trivial⟩,hw⟩
    show Value.int .u64 (IntKind.u64.wrap ((M9 db (q.Goals.take k):Int)*IntKind.u64.wrap (IntKind.u64.wrap (IntKind.u64.wrap g.High-IntKind.u64.wrap g.Low)+1)))=_
    rw[hsub,p9 (a:=g.High-g.Low+1) (by omega) (by omega),hws,hfe]
    rw[hfe]at hmul;have e:(M9 db (q.Goals.take k):Int)*(g.High-g.Low+1)=((M9 db (q.Goals.take k)*(g.High-g.Low+1).toNat:Nat):Int):=by
     rw[Int.natCast_mul];congr 1;omega
    rw[e,p9 (by omega) (by omega)]
   have hk4:¬g.Kind=4:=of_decide_eq_false h
   have hfe:P9 db g=1:=by unfold P9;rw[if_neg hk1,if_neg hk4]
   refine A4 ?_;refine⟨⟨rfl,rfl,rfl,?_,rfl,rfl,rfl,trivial⟩,hw⟩
   rw[hws,hfe,Nat.mul_one];rfl
  clear hw;rintro ρ w ⟨hρ,hw⟩
  rw[hρ.eq];clear hρ;have hle12:=hle1.trans hle2
  refine A4 ?_;refine A0 rfl (fun h=>?_) (fun h=>?_)
  ·have h:(1000000:Int)<(M9 db (q.Goals.take (k+1)):Int):=of_decide_eq_true h
   have he:E1 db q=15:=by rw[hse,if_pos (by omega)]
   refine A4 ?_;refine⟨_,rfl,Γ2,.slice none 0 0,[],hle12,?_,RW.nil,?_,hw.ds [0,0,0,0,0]⟩
   ·rw[he];rfl
   ·unfold G1;rw[he,if_neg (by decide)];rfl
  have h:¬(1000000:Int)<(M9 db (q.Goals.take (k+1)):Int):=of_decide_eq_false h
  refine A4 ?_;refine⟨gn-k-1,by omega,Γ2,k+1,ts++[(Value.slice a fs'.length c,fs')],tb,tm,td,hle12,by omega,⟨rfl,rfl,rfl,rfl,rfl,rfl,rfl,trivial⟩,by rw[List.length_append,htl];rfl,fun t ht=>?_,fun i x t hxi hti=>?_,by omega,hw.drop⟩
  ·rcases List.mem_append.1 ht with h1|h1
   ·exact(hrl t h1).mono hle2
   ·rw[List.mem_singleton.1 h1];exact hrl2
  ·by_cases hik:i<k
   ·rw[List.getElem?_append_left (by omega)]at hti
    exact heq i x t hxi hti
   ·rw[List.getElem?_append_right (by omega)]at hti
    have hi0:i-ts.length=0:=by
     have:=(List.getElem?_eq_some_iff.1 hti).1
     simp at this
     omega
    have hik:i=k:=by omega
    subst hik;rw[hi0]at hti;cases hti
    rw[hx]at hxi;cases hxi
    exact hft
 have hkn:gn≤k:=by have:=of_decide_eq_false h;omega
 clear h;rw[List.take_of_length_le (by omega)]at hwk
 have he:E1 db q=0:=by rw[hse,if_neg (by omega)]
 have hss:G1 db q=Bn (cL cV) (HC db q):=by
  unfold G1;rw[he,if_pos rfl];rfl
 rw[he,hss];have hwf:=hw.freeze
 clear hw;obtain⟨Γ2,hle2,hrT,hw⟩:=hwf;have hq2:=hq1.mono hle2
 have hS:Ql Γ2 (.slice sa sn sc) (.slice ga gn gc) (.slice ta tn tc) gs ts db q:=⟨hq2,hok,hrT,by omega,fun t ht=>(hrl t ht).mono hle2,heq,fun x _ _=>EG⟩
 have hraw:(HC db q).length≤1000000:=by
  refine Nat.le_trans (IN (fun e=>Oe e) (J2 db q) (fun gt hg h4=>?_) []) ?_
  ·obtain⟨g,hgm,rfl⟩:=List.mem_map.1 hg
   exact hRl g hgm h4
  ·rw[←Ji];exact hwk
 have hw:Wd Γ2 (.blk b7 (E0 (.slice sa sn sc) (.slice ga gn gc) (.slice ta tn tc) (.slice none 0 0) bm)::(F4 (.slice none 0 0) []++(D1 bm []::.blk b3 (.cells #[.slice sa sn sc,.slice ga gn gc] 26)::S))) w:=by
  have h1:=Wd.addNil (a:=none) (E:=52) (sz:=1) hw
  rw[show F4 (.slice none 0 0) []=[.own (.slice none 0 0) 52 1 []] from rfl]
  exact h1.perm M8
 have hw:=R8 (rs:=[]) (L:=[]) rfl hw
 refine A4 ?_;refine C5 (vs:=[.pointer (some ⟨b7,0,none⟩),.int .i64 ((0:Nat):Int)]) ((Jp hS hR gs.length 0 (by omega) (.blk b3 (.cells #[.slice sa sn sc,.slice ga gn gc] 26)::S) [] [] w W5.nil (by rw[List.drop_zero];show 0+(HC db q).length≤1000000;omega) hw).mono fun r w hq3=>?_)
 clear hw;obtain⟨rfl,hw⟩:=hq3;refine⟨_,rfl,?_⟩;rw[List.drop_zero,List.nil_append]at hw;have hw:Wd Γ2 (SV b7 bm (.slice sa sn sc) (.slice ga gn gc) (.slice ta tn tc) (HC db q)::D1 bm []::.blk b3 (.cells #[.slice sa sn sc,.slice ga gn gc] 26)::S) w:=hw
 obtain⟨vr,L,hL,hw⟩:=s9 hw
 obtain⟨M,hM1,hM2,hM3⟩:=JB hL
 have hML:M.length=(HC db q).length:=by rw[←hM2];unfold rowsOf;rw[List.length_map]
 have hw1:Wd Γ2 (NP 54 3 L++(.own vr 52 1 (M.map cR)::.blk b7 (E0 (.slice sa sn sc) (.slice ga gn gc) (.slice ta tn tc) vr bm)::D1 bm []::.blk b3 (.cells #[.slice sa sn sc,.slice ga gn gc] 26)::S)) w:=by
  rw[hM1];have h1:Wd Γ2 (.blk b7 (E0 (.slice sa sn sc) (.slice ga gn gc) (.slice ta tn tc) vr bm)::((.own vr 52 1 (L.map fun x=>[x.1])::NP 54 3 L)++(D1 bm []::.blk b3 (.cells #[.slice sa sn sc,.slice ga gn gc] 26)::S))) w:=hw
  exact h1.perm M8
 clear hw;obtain⟨Γ3,hle3,hfr,hw⟩:=Ds (f:=fun x:Value×List (List Value)=>x.1) (g:=fun x=>x.2) (e:=54) (sz:=3) L hw1
 clear hw1;have hRok:∀p∈M,JS Γ3 p:=fun p hp=>by
  obtain⟨x,hx,e1,e2⟩:=hM3 p hp
  have:=hfr x hx
  unfold JS;rw[←e1,←e2];exact this
 obtain⟨ra,rn,rc,rfl,-,-,-⟩:=hw.own_shape (i:=0) rfl
 have hw:Wd Γ3 (.own (.slice ra rn rc) 52 1 (M.map cR)::.blk b7 (E0 (.slice sa sn sc) (.slice ga gn gc) (.slice ta tn tc) (.slice ra rn rc) bm)::D1 bm []::.blk b3 (.cells #[.slice sa sn sc,.slice ga gn gc] 26)::S) w:=hw
 refine A4 ?_;refine C5 (vs:=[.slice ra rn rc,.func (.func 52) #[] #[]]) ((MG M (.slice ra rn rc) hRok (by omega) hw).mono fun r w hq3=>?_)
 clear hw;obtain⟨rfl,G,hp,hs,hw⟩:=hq3;refine⟨_,rfl,?_⟩;have hGok:∀p∈G,JS Γ3 p:=fun p h=>hRok p (hp.mem_iff.1 h)
 have hGl:G.length≤1000000:=by rw[hp.length_eq];omega
 refine A4 ?_;refine C5 (vs:=[.slice ra rn rc,.func (.func 53) #[] #[]]) ((HN G hGok hGl hw).mono fun r w hq3=>?_)
 clear hw;obtain⟨v',rfl,hw⟩:=hq3;refine⟨_,rfl,?_⟩;have hwf:=hw.freeze
 clear hw;obtain⟨Γ4,hle4,hrr,hw⟩:=hwf;obtain⟨a4,n4,c4,rfl,-,-,-⟩:=hrr.shape;refine A4 ?_;refine⟨_,rfl,Γ4,.slice a4 n4 c4,U4 Ms G,hle1.trans (hle2.trans (hle3.trans hle4)),rfl,⟨hrr,fun p hp2=>D3.mono (hGok p (Ce hp2)) hle4⟩,?_,hw.ds [0,0,0]⟩
 have hset:=GR DX.list (fun p:K4=>p.2) hp (hs.imp fun {a b} h e=>by
  have h2:ltOf (cL cV) b.2 a.2=true:=DX.list.lt_iff.2 e
  have h:ltOf (cL cV) b.2 a.2=false:=h
  rw[h2]at h;cases h)
 unfold rowsOf;have e2:M.map (·.2)=HC db q:=hM2
 rw[←e2];exact hset
end Go.Proofs.YtlimglpjpcfpdaaGreat
end
section
open Go Mk
namespace Go.Proofs.YtlimglpjpcfpdaaGreat
set_option maxHeartbeats 16000000
attribute [local irreducible] Calls cI cB
section
variable {Γ:B8}{S:List A7}{w:World}
end
end Go.Proofs.YtlimglpjpcfpdaaGreat
end
section
open Go Mk
namespace Go.Proofs.YtlimglpjpcfpdaaGreat
set_option maxHeartbeats 16000000
attribute [local irreducible] Calls cI cB
end Go.Proofs.YtlimglpjpcfpdaaGreat
end
section
open Go Mk
namespace Go.Proofs.YtlimglpjpcfpdaaGreat
set_option maxHeartbeats 16000000
attribute [local irreducible] Calls cI cB
end Go.Proofs.YtlimglpjpcfpdaaGreat
end
section
open Go Mk
namespace Go.Proofs.YtlimglpjpcfpdaaGreat
set_option maxHeartbeats 16000000
attribute [local irreducible] Calls cI cB
end Go.Proofs.YtlimglpjpcfpdaaGreat
end
section
open Go Mk
namespace Go.Proofs.YtlimglpjpcfpdaaGreat
set_option maxHeartbeats 16000000
attribute [local irreducible] Calls cI cB
end Go.Proofs.YtlimglpjpcfpdaaGreat
end
section
open Go Mk
namespace Go.Proofs.YtlimglpjpcfpdaaGreat
set_option maxHeartbeats 16000000
attribute [local irreducible] Calls cI cB
def K8(toks:List Tok)(k:Nat):Tok:=toks.getD k default
def L5(toks:List Tok)(k:Nat)(kind:Int)(text:ByteArray):Bool:=decide ((K8 toks k).Kind=kind)&&decide ((K8 toks k).Text=text)
def B9(bp:Nat)(a:Option Addr)(n c at':Nat)(e1 e2:Int):A7:=.blk bp (.cells #[.slice a n c,.int .i64 at',.int .i64 e1,.int .i64 e2] 109)
section
variable {Γ:B8}{S:List A7}{w:World}{bp:Nat}{a:Option Addr}{n c at':Nat}{e1 e2:Int}{toks:List Tok}
theorem Ao(j:Nat)(hj:j≤1)(hat:at'≤n)(hN:toks.length≤1000000)(ht:D3 Γ (.slice a n c) 5 (toks.map enc))(hw:Wd Γ (B9 bp a n c at' e1 e2::S) w) :
  Calls Tryz.prog 145 #[.pointer (some ⟨bp,0,none⟩),.int .i64 j] w fun r w'=>r=.returned (.agg (enc (K8 toks (at'+j))).toArray)∧Wd Γ (B9 bp a n c at' e1 e2::S) w':=by
 have hn:n=toks.length∧n≤c∧c≤9223372036854775807:=by obtain⟨_,_,_,h1,h2,h3⟩:=ht.shape;cases h1;exact⟨by simpa using h2,h3⟩
 obtain⟨hn,hnc,hc⟩:=hn;unfold B9 at *
 refine F8 Tryz.func145 rfl rfl ?_
 refine A4 ?_;refine B2 ?_;intro b4 w hw;have hw:Wd Γ (.blk b4 (.cells (enc (default:Tok)).toArray 178)::.blk bp (.cells #[.slice a n c,.int .i64 at',.int .i64 e1,.int .i64 e2] 109)::S) w:=hw
 refine A4 ?_;refine L4 (by kernel_rfl) (by kernel_rfl) hw ?_
 refine Hd ?_;intro w hw;refine A0 rfl (fun h=>?_) (fun h=>?_)
 ·have h:at'+j<n:=by have:=of_decide_eq_true h;omega
  obtain⟨t,htk⟩:=C0 (l:=toks) (k:=at'+j) (by omega)
  have hT:K8 toks (at'+j)=t:=by unfold K8;rw[List.getD_eq_getElem?_getD,htk];rfl
  rw[hT];refine A4 ?_;refine Z7 [.blk bp (.cells #[.slice a n c,.int .i64 at',.int .i64 e1,.int .i64 e2] 109)] (.blk b4 (.cells (enc (default:Tok)).toArray 178)::S) [] [[],[],[],[],[],[],[],[],[],[],[],[],[0]] (hw.ps [1]) ?_
  refine i9 ?_;refine Z2 (φ:=fun (_:Unit) _=>True) (R:=fun _=>.blk b4 (.cells (enc (default:Tok)).toArray 178)::S) (v:=undef) (T':=Unit) (fun _ _=>True) (fun _=>.blk b4 (.cells (enc t).toArray 178)::S) (fun t' g w Y _ hw=>V6 (i:=0) (inferInstance:Kk Tryz.prog 178 5).h hw rfl rfl rfl rfl (fun u hu=>(List.all_eq_true.1 (Ca t)) u hu) rfl (Nat.le_refl 5) fun w' hw'=>⟨(),trivial,(fun _=>rfl),hw'⟩) ?_
  refine y6 fun t' w g _ hw=>?_
  have hw:Wd Γ (.blk b4 (.cells (enc t).toArray 178)::.blk bp (.cells #[.slice a n c,.int .i64 at',.int .i64 e1,.int .i64 e2] 109)::S) w:=hw.flip.ps [1]
  refine A4 ?_;exact⟨[.agg (enc t).toArray],⟨J6 (i:=0) hw rfl rfl rfl,trivial⟩,rfl,hw.drop⟩
 ·have h:¬at'+j<n:=by have:=of_decide_eq_false h;omega
  have hT:K8 toks (at'+j)=default:=by unfold K8;rw[List.getD_eq_getElem?_getD,List.getElem?_eq_none (by omega)];rfl
  rw[hT];refine A4 ?_;refine B0 ?_;intro w hw;have hw:Wd Γ (.blk b4 (.cells (enc (default:Tok)).toArray 178)::.blk bp (.cells #[.slice a n c,.int .i64 at',.int .i64 e1,.int .i64 e2] 109)::S) w:=hw
  refine A4 ?_;exact⟨[.agg (enc (default:Tok)).toArray],⟨J6 (i:=0) hw rfl rfl rfl,trivial⟩,rfl,hw.drop⟩
theorem Sv(j:Nat)(hj:j≤1)(kind:Int)(text:ByteArray)(hat:at'≤n)(hN:toks.length≤1000000)(ht:D3 Γ (.slice a n c) 5 (toks.map enc))(hw:Wd Γ (B9 bp a n c at' e1 e2::S) w) :
  Calls Tryz.prog 93 #[.pointer (some ⟨bp,0,none⟩),.int .i64 j,.int .i64 kind,.string text] w fun r w'=>r=.returned (.bool (L5 toks (at'+j) kind text))∧Wd Γ (B9 bp a n c at' e1 e2::S) w':=by
 refine A3 Tryz.func93 rfl rfl ?_
 refine A4 ?_;refine C5 (vs:=[.pointer (some ⟨bp,0,none⟩),.int .i64 j]) ?_
 refine(Ao j hj hat hN ht hw).mono ?_
 clear hw;rintro r w ⟨rfl,hw⟩
 refine⟨_,rfl,?_⟩;refine A4 ?_;refine B2 ?_;intro b9 w hw;refine B0 ?_;intro w hw;have hw:Wd Γ (.blk b9 (.cells (enc (K8 toks (at'+j))).toArray 178)::B9 bp a n c at' e1 e2::S) w:=hw
 refine A4 ?_;exact⟨_,rfl,G7 rfl rfl,hw.drop⟩
theorem R9(kind:Int)(text:ByteArray)(hat:at'≤n)(hN:toks.length≤1000000)(ht:D3 Γ (.slice a n c) 5 (toks.map enc))(hw:Wd Γ (B9 bp a n c at' e1 e2::S) w) :
  Calls Tryz.prog 95 #[.pointer (some ⟨bp,0,none⟩),.int .i64 kind,.string text] w fun r w'=>r=.returned (.bool (L5 toks at' kind text))∧Wd Γ (B9 bp a n c (if L5 toks at' kind text=true then at'+1 else at') e1 e2::S) w':=by
 have hn:n=toks.length:=by obtain⟨_,_,_,h1,h2,h3⟩:=ht.shape;cases h1;simpa using h2
 refine A3 Tryz.func95 rfl rfl ?_
 refine A4 ?_;refine C5 (vs:=[.pointer (some ⟨bp,0,none⟩),.int .i64 0,.int .i64 kind,.string text]) ?_
 refine(Sv (j:=0) (by decide) kind text hat hN ht hw).mono ?_
 clear hw;rintro r w ⟨rfl,hw⟩
 rw[Nat.add_zero];refine⟨_,rfl,?_⟩;unfold B9 at *
 refine A4 ?_;refine Gz (fun ρ w=>Has ρ [(7,.bool (L5 toks at' kind text))]∧Wd Γ (B9 bp a n c (if L5 toks at' kind text=true then at'+1 else at') e1 e2::S) w) ?_ ?_
 ·refine A0 rfl (fun h=>?_) (fun h=>?_)
  ·rw[if_pos h];refine A4 ?_;refine B0 (i:=0) ?_
   intro w hw;have hw:Wd Γ (B9 bp a n c (at'+1) e1 e2::S) w:=hw
   refine A4 ?_;exact⟨⟨rfl,trivial⟩,hw⟩
  ·rw[if_neg (by rw[h];decide)]
   refine A4 ?_;exact⟨⟨rfl,trivial⟩,hw⟩
 clear hw;rintro ρ w ⟨hρ,hw⟩
 rw[hρ.eq];refine A4 ?_;exact⟨_,rfl,G7 rfl rfl,hw⟩
end
end Go.Proofs.YtlimglpjpcfpdaaGreat
end
section
open Go
namespace Mk
attribute [local irreducible] Calls
section
variable {P:Program}{n:Nat}{ops:List Oper}{Γ:B8}{K:List A7}{wr tc stab:List (List Nat)}{Q:Fr→World→Prop}{i:Nat}{rest:List Oper}{ρ:Fr}{M:Nat→Fr→List A7}{T:Type}
variable {ty:TypeId}{pos:String}{es:Array Edge}
end
section
variable {P:Program}{n:Nat}{opa:Array Oper}{QQ:Exit→Fr→World→Prop}{ρ:Fr}{w:World}{rest:List Oper}{Γ:B8}{S:List A7}
variable {d:Option Tmp}{ty:TypeId}{pos:String}{es:Array Edge}{f j dj:Nat}{want c:Bool}{args:List Operand}{tys:Array TypeId}{vs:List Value}{v:Value}
attribute [local semireducible] gv
end
end Mk
end
section
open Go
namespace Mk
attribute [local semireducible] L W Step
def U6(PP:List PanicEntry→World→Prop)(P:Program)(o:Oper)(ρ:Fr)(w:World)(K:Value→World→Prop):Prop:=
 match (execOp (ev ρ) o).run P w with
 | .ok (.value v) w'=>K v w'
 | .ok .skip w'=>K undef w'
 | .ok (.enter f args) w'=>Calls P f args w' (Ends K PP)
 | .ok (.row row args) w'=>Rows P row args w' K
 | _=>False
section
variable {PP:List PanicEntry→World→Prop}{P:Program}{o:Oper}{ρ ρ':Fr}{w:World}{K K':Value→World→Prop}{ops:List Oper}
theorem Step.toE(h:Step P o ρ w K):U6 PP P o ρ w K:=by
 unfold Step at h;unfold U6;generalize (execOp (ev ρ) o).run P w=r at *
 cases r with
 | ok x w'=>
  cases x <;> first
   | exact h
   | exact Calls.mono h (fun e w'' he=>by obtain⟨v,rfl,hv⟩:=he;exact hv)
   | exact h.elim
 | halt x w'=>exact h.elim
theorem U6.mono(h:U6 PP P o ρ w K)(hk:∀v w,K v w→K' v w):U6 PP P o ρ w K':=by
 unfold U6 at *
 split at h <;> first|exact hk _ _ h|exact h.mono fun e w'' he=>he.mono hk (fun _ _ h=>h)|exact h.mono hk|exact h.elim
theorem U6.congr(hsel:f7 o=true)(hs:∀t∈looks ops o,ρ' t=ρ t)(h:U6 PP P o ρ w K):U6 PP P o ρ' w K:=by
 have:=execOp_congr o (fun cs b e=>by simp[f7,e]at hsel) (Rn hs)
 unfold U6 at *
 rw[this];exact h
theorem U6.wp{a:Act}{K2:Act→World→Prop}{Q':Exit→Act→World→Prop}(h:U6 PP P o (C4 a) w K)
  (hk:∀v w,K v w→K2 (a.put o.dst v) w) (hp:∀ch w,PP ch w→Q' (.panic ch) a w):o.wp P a w K2 Q':=by
 unfold U6 at h;unfold Oper.wp;rw[N7];generalize (execOp (ev (C4 a)) o).run P w=r at *
 cases r with
 | ok x w'=>
  cases x <;> simp only[Oper.upon]at h ⊢ <;> first
   | exact hk _ _ h
   | exact Calls.mono h (fun e w'' he=>by
     cases e with
     | returned v=>exact hk _ _ he
     | panicked ch=>exact hp _ _ he
     | outgrown=>exact he.elim)
   | exact Rows.mono h hk
   | exact h.elim
 | halt x w'=>exact h.elim
end
section
variable (PP:List PanicEntry→World→Prop)(V:O4)
structure Jc(i:Nat)(o:Oper)(st:Mt)(c:Mc):Prop where
 run:∀Γ' Y w g,V.rl V.Γ Γ'→Wd Γ' (V.K++(cellsOf V (V.t i) st.M g++Y)) w →
  (R6 V.ops o (D6 V.N g st.ρ)=true→U6 PP V.P o (D6 V.N g st.ρ) w fun v w'=>∃Γ'',V.rl Γ' Γ''∧Wd Γ'' (V.K++(cellsOf V (V.t i) (Mt.nxt V i st c) (C3 g o.dst v)++Y)) w'∧(V.free o=false→v=c.x)) ∧
  (R6 V.ops o (D6 V.N g st.ρ)=false→Wd Γ' (V.K++(cellsOf V (V.t i) (Mt.nxt V i st c) (C3 g o.dst undef)++Y)) w∧(V.free o=false→undef=c.x))
def MSwE(Q:Fr→World→Prop):Nat→List Oper→Mt→Prop
 | _,[],st=>DD V Q st
 | i,o::l,st=>∃c,Jc PP V i o st c∧MSwE Q (i+1) l (Mt.next V i st o c)
end
def O7(PP:List PanicEntry→World→Prop)(V:O4)(Q:Fr→World→Prop):Nat→List Oper→List Mc→Mt→Prop
 | _,[],[],st=>DD V Q st
 | i,o::l,c::cs,st=>Jc PP V i o st c∧O7 PP V Q (i+1) l cs (Mt.next V i st o c)
 | _,_,_,_=>False
theorem MSwE.chain{PP:List PanicEntry→World→Prop}{V:O4}{Q:Fr→World→Prop}:∀(l:List Oper) (i:Nat) (st:Mt),MSwE PP V Q i l st→∃cs,O7 PP V Q i l cs st
 | [],_,_,h=>⟨[],h⟩
 | _::l,i,st,⟨c,hg,h⟩=>by
  obtain⟨cs,hc⟩:=MSwE.chain l (i+1) _ h
  exact⟨c::cs,hg,hc⟩
section
variable {PP:List PanicEntry→World→Prop}{V:O4}{Q:Fr→World→Prop}
theorem O7.good:∀ {l:List Oper} {i:Nat} {cs:List Mc} {st:Mt} (k:Nat) {o:Oper},O7 PP V Q i l cs st→l[k]? = some o→∃c,cs[k]? = some c∧Jc PP V (i+k) o (H8 V l cs i st k) c
 | o'::l,i,c::cs,st,0,o,h,ho=>by
  simp at ho;subst ho
  exact⟨c,rfl,h.1⟩
 | o'::l,i,c::cs,st,k+1,o,h,ho=>by
  obtain⟨c',h1,h2⟩:=O7.good k h.2 (by simpa using ho)
  refine⟨c',by simpa using h1,?_⟩
  rw[show i+(k+1)=i+1+k from by omega]
  exact h2
 | [],_,_,_,_,_,_,ho=>by simp at ho
 | _::_,_,[],_,_,_,h,_=>h.elim
theorem O7.final:∀ {l:List Oper} {i:Nat} {cs:List Mc} {st:Mt},O7 PP V Q i l cs st→DD V Q (H8 V l cs i st l.length)
 | [],_,[],_,h=>h
 | o::l,i,c::cs,st,h=>by
  have:=O7.final (l:=l) (cs:=cs) h.2
  simpa[H8] using this
 | [],_,_::_,_,h=>h.elim
 | _::_,_,[],_,h=>h.elim
section
variable {st0:Mt}{cs:List Mc}{listed:Array Bool}{a:Act}{w:World}{done:List Nat}{Γ':B8}
theorem ER(hc:O7 PP V Q 0 V.ops cs st0){t j:Nat}:∀(m:Nat),j+m≤V.ops.length→(∀i,j≤i→i<j+m→∀o,V.ops[i]? = some o→o.dst≠some t)→(H8 V V.ops cs 0 st0 (j+m)).ρ t=(H8 V V.ops cs 0 st0 j).ρ t
 | 0,_,_=>rfl
 | m+1,hl,hn=>by
  have ih:=ER hc m (by omega) (fun i h1 h2=>hn i h1 (by omega))
  have ho:V.ops[j+m]? = some V.ops[j+m]:=List.getElem?_eq_getElem (by omega)
  obtain⟨c,h1,_⟩:=hc.good (j+m) ho
  rw[←Nat.add_assoc,Q3 ho h1,←ih];have hne:=hn (j+m) (by omega) (by omega) _ ho
  simp only[Mt.next]
  cases hd:(V.ops[j+m]).dst with
  | none=>rfl
  | some d=>exact upd_ne _ _ (fun e=>hne (by rw[hd,e]))
theorem MInv.sat_atE(hc:O7 PP V Q 0 V.ops cs st0)(inv:MInv V st0 cs listed a w done Γ'){k t:Nat}(hN:t∉V.N)(hk:k≤V.ops.length)(h1:∀j,j<k→∀o,V.ops[j]? = some o→o.dst=some t→j∈done)
  (h2:∀j∈done,∀o,V.ops[j]? = some o→o.dst=some t→j<k):C4 a t=(H8 V V.ops cs 0 st0 k).ρ t:=by
 rcases X8 (fun j=>∃o,V.ops[j]? = some o∧o.dst=some t) k with hn|⟨j,hj,⟨o,ho,hd⟩,hlast⟩
 ·have:=ER (j:=0) (t:=t) hc k (by omega) (fun i _ hi o ho hd=>hn i (by omega) ⟨o,ho,hd⟩)
  rw[Nat.zero_add,m0]at this;rw[this];exact inv.init t hN fun i hi o ho hd=>hn i (h2 i hi o ho hd) ⟨o,ho,hd⟩
 ·have hin:=h1 j hj o ho hd
  obtain⟨c,hcj,hg⟩:=hc.good j ho
  have hval:=inv.last j hin o t c ho hd hN hcj fun i hi o' ho' hd'=>by
   have:=h2 i hi o' ho' hd'
   rcases Nat.lt_or_ge j i with h|h
   ·exact absurd ⟨o',ho',hd'⟩ (hlast i h this)
   ·exact h
  have hs:(H8 V V.ops cs 0 st0 (j+1)).ρ t=c.x:=by
   rw[Q3 ho hcj];simp only[Mt.next,hd]
   exact upd_same _ _ _
  have:=ER (j:=j+1) (t:=t) hc (k-(j+1)) (by omega) (fun i h3 h4 o' ho' hd'=>hlast i (by omega) (by omega) ⟨o',ho',hd'⟩)
  rw[show j+1+(k-(j+1))=k from by omega]at this
  rw[hval,this,hs]
theorem BE(hc:O7 PP V Q 0 V.ops cs st0){p x:Nat}:∀(m:Nat),p+m≤V.ops.length→(∀j,p≤j→j<p+m→x∉V.w j)→(H8 V V.ops cs 0 st0 (p+m)).M x=(H8 V V.ops cs 0 st0 p).M x
 | 0,_,_=>rfl
 | m+1,hl,hn=>by
  have ih:=BE hc m (by omega) (fun i h1 h2=>hn i h1 (by omega))
  have ho:V.ops[p+m]? = some V.ops[p+m]:=List.getElem?_eq_getElem (by omega)
  obtain⟨c,h1,hg⟩:=hc.good (p+m) ho
  rw[←Nat.add_assoc,Q3 ho h1,←ih];have:=hn (p+m) (by omega) (by omega)
  simp[Mt.next,Mt.nxt,this]
theorem MInv.stepE{i:Nat}{QQ:Exit→Act→World→Prop}(hc:O7 PP V Q 0 V.ops cs st0)(hk:M4 V.n V.ops V.wr V.tc V.stab=true)(inv:MInv V st0 cs listed a w done Γ')(hPP:∀ch (a:Act) w,a.defers=[]→a.tmps.size=V.n→PP ch w→QQ (.panic ch) a w)
  (hr:i∈Region.ready .any V.ops.toArray listed):wpOp V.P V.ops.toArray QQ i (fun a' w'=>∃done' Γ'',MInv V st0 cs (listed.setIfInBounds i true) a' w' done' Γ''∧done'.length=done.length+1) a w∧i∉done:=by
 obtain⟨hun,o,hoa,hall⟩:=mem_ready.1 hr
 have ho:V.ops[i]? = some o:=by simpa using hoa
 have hil:i<V.ops.length:=(List.getElem?_eq_some_iff.1 ho).1
 have hni:i∉done:=fun h=>by rw[(inv.ls i hil).2 h]at hun;cases hun
 refine⟨?_,hni⟩
 obtain⟨c,hci,hg⟩:=hc.good i ho
 rw[Nat.zero_add]at hg;obtain⟨k1,k2,k3,kd,kw,kl,kn,ks,k4⟩:=N0 hk ho
 have hedges:∀e∈o.after,Region.binds .any e=true→e.on∈done:=fun e he hb=>by
  have h1:=hall e he hb
  have h2:=k1 e he hb
  have h3:e.on<listed.size:=by rw[inv.lsz];omega
  refine(inv.ls e.on (by omega)).1 ?_
  simp only[Array.getD_eq_getD_getElem?,Array.getElem?_eq_getElem h3,Option.getD_some]at h1 ⊢
  exact h1
 have hcl':Closed V.ops (·∈i::done):=fun j o' e hj ho' he hb=>by
  rcases List.mem_cons.1 hj with rfl|hj
  ·rw[ho]at ho';cases ho';exact List.mem_cons_of_mem _ (hedges e he hb)
  ·exact List.mem_cons_of_mem _ (inv.cl j o' e hj ho' he hb)
 have hanc:∀j,j∈(DF [] V.ops).getD i []→j∈i::done:=fun j hj=>T5 hcl' V.ops [] (by simp) (by simp) i j hj (by simp)
 have hanc2:∀j k,j∈(DF [] V.ops).getD k []→k∈done→j∈done:=fun j k hj hk=>T5 inv.cl V.ops [] (by simp) (by simp) k j hj hk
 have hsat:∀t∈looks V.ops o,t∉V.N→C4 a t=(H8 V V.ops cs 0 st0 i).ρ t:=fun t ht hN=>inv.sat_atE hc hN (Nat.le_of_lt hil) (fun j hj oj hoj hdj=>by
   rcases k4 j oj hj hoj with h|h
   ·exact absurd ht ((M1 h.1).1 t hdj).1
   ·rcases List.mem_cons.1 (hanc j h) with h|h
    ·omega
    ·exact h) (fun j hj oj hoj hdj=>by
   rcases Nat.lt_or_ge j i with h|h
   ·exact h
   ·rcases Nat.eq_or_lt_of_le h with h|h
    ·subst h;exact absurd hj hni
    ·obtain⟨_,_,_,_,_,_,_,_,q4⟩:=N0 hk hoj
     rcases q4 i o h ho with h'|h'
     ·exact absurd ht ((M1 h'.1).2 t hdj)
     ·exact absurd (hanc2 i j h' hj) hni)
 have hlook:∀t∈looks V.ops o,C4 a t=D6 V.N (C4 a) (H8 V V.ops cs 0 st0 i).ρ t:=fun t ht=>by
  by_cases hN:t∈V.N
  ·rw[J7 hN]
  ·rw[CX hN];exact hsat t ht hN
 obtain⟨p,hp,hwd⟩:=inv.wd;have htc:∀x∈V.t i,(H8 V V.ops cs 0 st0 i).M x=(H8 V V.ops cs 0 st0 (p x)).M x:=fun x hx=>by
  rcases Nat.lt_or_ge i (p x) with hlt|hge
  ·
   have:=BE hc (p:=i) (x:=x) (p x-i) (by have:=(hp x).1;omega) (fun j h1 h2 hj=>by
    have hjl:j<V.ops.length:=by have:=(hp x).1;omega
    have hjd:=((hp x).2 j hj hjl).2 (by omega)
    have hoj:V.ops[j]? = some V.ops[j]:=List.getElem?_eq_getElem hjl
    rcases Nat.eq_or_lt_of_le h1 with h|h
    ·subst h;exact hni hjd
    ·obtain⟨_,_,_,_,_,_,_,_,q4⟩:=N0 hk hoj
     rcases q4 i o h ho with h'|h'
     ·exact LG h'.2 hx hj
     ·exact hni (hanc2 i j h' hjd))
   rw[show i+(p x-i)=p x from by omega]at this
   exact this.symm
  ·have:=BE hc (p:=p x) (x:=x) (i-p x) (by omega) (fun j h1 h2 hj=>by
    have hoj:V.ops[j]? = some V.ops[j]:=List.getElem?_eq_getElem (by omega)
    rcases k4 j _ (by omega) hoj with h|h
    ·exact EN h.2 hj hx
    ·rcases List.mem_cons.1 (hanc j h) with h|h
     ·omega
     ·have:=((hp x).2 j hj (by omega)).1 h;omega)
   rwa [show p x+(i-p x)=i from by omega]at this
 let rest:=(List.range V.stab.length).filter fun x=>!(V.t i).contains x
 have hperm:(List.range V.stab.length).Perm (V.t i++rest):=by
  refine(List.perm_ext_iff_of_nodup List.nodup_range ?_).2 fun x=>?_
  ·refine List.nodup_append.2 ⟨kn,List.nodup_range.filter _,fun x hx y hy hxy=>?_⟩
   subst hxy;have:=(List.mem_filter.1 hy).2
   simp at this;exact this hx
  ·simp only[List.mem_append,List.mem_range,rest,List.mem_filter]
   constructor
   ·intro h;by_cases hx:x∈V.t i
    ·exact .inl hx
    ·exact .inr ⟨h,by simpa using hx⟩
   ·rintro (h|h)
    ·exact kl x h
    ·exact h.1
 have hfm:∀F:Nat→List A7,((List.range V.stab.length).flatMap F).Perm ((V.t i).flatMap F++rest.flatMap F):=fun F=>by
  rw[←List.flatMap_append];exact List.Perm.flatMap_right _ hperm
 have hw1:Wd Γ' (V.K++(cellsOf V (V.t i) (H8 V V.ops cs 0 st0 i).M (C4 a)++rest.flatMap fun x=>(H8 V V.ops cs 0 st0 (p x)).M x (D6 (V.s x) (C4 a) C6))) w:=by
  have:=hwd.perm (List.Perm.append_left V.K (hfm _))
  rwa [show cellsOf V (V.t i) (H8 V V.ops cs 0 st0 i).M (C4 a)=(V.t i).flatMap fun x=>(H8 V V.ops cs 0 st0 (p x)).M x (D6 (V.s x) (C4 a) C6) from F3 fun x hx=>by rw[htc x hx]]
 have hrun:=hg.run Γ' _ w (C4 a) inv.le hw1
 have next:∀v w' Γ'',V.rl Γ' Γ''→(V.free o=false→v=c.x)→Wd Γ'' (V.K++(cellsOf V (V.t i) (Mt.nxt V i (H8 V V.ops cs 0 st0 i) c) (C3 (C4 a) o.dst v)++rest.flatMap fun x=>(H8 V V.ops cs 0 st0 (p x)).M x (D6 (V.s x) (C4 a) C6))) w' →
   MInv V st0 cs (listed.setIfInBounds i true) (a.put o.dst v) w' (i::done) Γ'':=by
  intro v w' Γ'' hle he hwd';have hput:C4 (a.put o.dst v)=C3 (C4 a) o.dst v:=N8 a _ v (by rw[inv.size];exact G4 kd)
  refine⟨(G5 a _ v).trans inv.defers,(size_put a _ v).trans inv.size,by simpa using inv.lsz,List.nodup_cons.2 ⟨hni,inv.nd⟩,?_,?_,hcl',V.rl_trans inv.le hle,?_,?_,?_⟩
  ·intro j hj;rcases List.mem_cons.1 hj with rfl|hj
   ·exact hil
   ·exact inv.lt j hj
  ·intro j hj;by_cases hji:j=i
   ·subst hji;simp[inv.lsz,hil]
   ·rw[getD_set_ne true (Ne.symm hji),inv.ls j hj];simp[hji]
  ·intro t hN hn;rw[hput];have h1:o.dst≠some t:=hn i (by simp) o ho
   have:C3 (C4 a) o.dst v t=C4 a t:=by
    cases hd:o.dst with
    | none=>rfl
    | some d=>exact upd_ne _ _ (fun e=>h1 (by rw[hd,e]))
   rw[this];exact inv.init t hN fun j hj=>hn j (List.mem_cons_of_mem _ hj)
  ·intro j hj o' t c' ho' hd' hN hc' hmax;rw[hput];rcases List.mem_cons.1 hj with rfl|hj
   ·rw[ho]at ho';cases ho'
    rw[hci]at hc';cases hc'
    rw[hd',show C3 (C4 a) (some t) v t=v from upd_same _ _ _];exact he (by simp only[O4.free,hd'];simpa using hN)
   ·have hji:j≠i:=fun e=>hni (e ▸ hj)
    have h1:o.dst≠some t:=fun e=>by
     have hle':=hmax i (by simp) o ho e
     have hlt:i<j:=by omega
     obtain⟨_,_,_,_,_,_,_,_,q4⟩:=N0 hk ho'
     rcases q4 i o hlt ho with h|h
     ·exact((M1 h.1).1 t e).2 hd'
     ·exact hni (hanc2 i j h hj)
    have:C3 (C4 a) o.dst v t=C4 a t:=by
     cases hd:o.dst with
     | none=>rfl
     | some d=>exact upd_ne _ _ (fun e=>h1 (by rw[hd,e]))
    rw[this];exact inv.last j hj o' t c' ho' hd' hN hc' fun k hk'=>hmax k (List.mem_cons_of_mem _ hk')
  ·refine⟨fun x=>if x∈V.w i then i+1 else p x,fun x=>⟨?_,fun j hj hjl=>?_⟩,?_⟩
   ·show (if x∈V.w i then i+1 else p x)≤V.ops.length
    have:=(hp x).1
    split <;> omega
   ·by_cases hx:x∈V.w i
    ·simp only[hx,if_true]
     by_cases hji:j=i
     ·subst hji;simp
     ·simp only[List.mem_cons,hji,false_or]
      have hpi:p x≤i:=Nat.le_of_not_lt fun h=>hni (((hp x).2 i hx hil).2 h)
      rw[(hp x).2 j hj hjl];constructor
      ·intro h;omega
      ·intro h;refine((hp x).2 j hj hjl).1 ?_
       have hoj:V.ops[j]? = some V.ops[j]:=List.getElem?_eq_getElem hjl
       rcases k4 j _ (by omega) hoj with h'|h'
       ·exact absurd (EN h'.2 hj (kw x hx)) id
       ·rcases List.mem_cons.1 (hanc j h') with h'|h'
        ·omega
        ·exact h'
    ·have hji:j≠i:=fun e=>hx (e ▸ hj)
     simp only[hx,if_false,List.mem_cons,hji,false_or]
     exact(hp x).2 j hj hjl
   ·refine Wd.perm ?_ (List.Perm.append_left V.K (hfm _)).symm
    have e1:cellsOf V (V.t i) (Mt.nxt V i (H8 V V.ops cs 0 st0 i) c) (C3 (C4 a) o.dst v)=(V.t i).flatMap fun x=>(H8 V V.ops cs 0 st0 (if x∈V.w i then i+1 else p x)).M x (D6 (V.s x) (C4 (a.put o.dst v)) C6):=F3 fun x hx=>by
     rw[hput];by_cases hxw:x∈V.w i
     ·simp only[hxw,if_true]
      rw[Q3 ho hci,Nat.zero_add];rfl
     ·simp only[hxw,if_false,Mt.nxt]
      rw[←htc x hx];simp[hxw]
    have e2:(rest.flatMap fun x=>(H8 V V.ops cs 0 st0 (p x)).M x (D6 (V.s x) (C4 a) C6))=rest.flatMap fun x=>(H8 V V.ops cs 0 st0 (if x∈V.w i then i+1 else p x)).M x (D6 (V.s x) (C4 (a.put o.dst v)) C6):=F3 fun x hx=>by
     have hxt:x∉V.t i:=by have:=(List.mem_filter.1 hx).2;simpa using this
     have hxw:x∉V.w i:=fun h=>hxt (kw x h)
     simp only[hxw,if_false]
     rw[hput];congr 1
     refine BH fun t ht=>?_
     cases hd:o.dst with
     | none=>rfl
     | some d=>exact(upd_ne _ _ (fun e=>hxw (ks d x hd (by subst e;exact ht)))).symm
    rw[←e1,←e2];exact hwd'
 have hwant:Region.wanted o (yielded V.ops.toArray a.tmps)=R6 V.ops o (D6 V.N (C4 a) (H8 V V.ops cs 0 st0 i).ρ):=by
  unfold R6;cases hgd:o.guard with
  | none=>simp[Region.wanted,hgd]
  | some q=>
   obtain⟨j,want⟩:=q;obtain⟨dj,hdj⟩:=k3 j want hgd
   have hdn:dj<V.n:=by
    cases hoj:V.ops[j]? with
    | none=>simp[hoj]at hdj
    | some oj=>simp[hoj]at hdj;exact G4 ((N0 hk hoj).2.2.2.1) dj hdj
   simp only[hdj]
   rw[←hlook dj (List.mem_append_right _ (by simp only[hgd];simpa using hdj))]
   exact Y1 o V.ops.toArray a j want hgd dj (by simpa using hdj) (by rw[inv.size];exact hdn)
 unfold wpOp;simp only[hoa,hwant]
 have hsel:f7 o=true:=by
  unfold f7;split
  ·rename_i h;exact absurd h (k2 _ _)
  ·rfl
 cases hwt:R6 V.ops o (D6 V.N (C4 a) (H8 V V.ops cs 0 st0 i).ρ) with
 | true=>
  simp only[if_true]
  have hst:=(hrun.1 hwt).congr (ops:=V.ops) hsel hlook
  exact .inl (U6.wp hst (fun v w' ⟨Γ'',h1,h2,h3⟩=>⟨_,_,next v w' Γ'' h1 h3 h2,by simp⟩) fun ch w h=>hPP ch a w inv.defers inv.size h)
 | false=>
  obtain⟨h1,h2⟩:=hrun.2 hwt
  exact⟨_,_,next undef w Γ' (V.rl_refl _) h2 h1,by simp⟩
theorem MInv.finE(hc:O7 PP V Q 0 V.ops cs st0)(inv:MInv V st0 cs listed a w done Γ')(hall:∀i,i<V.ops.length→i∈done):Q (C4 a) w:=by
 have hfin:=hc.final
 obtain⟨p,hp,hwd⟩:=inv.wd;have hρ:C4 a=D6 V.N (C4 a) (H8 V V.ops cs 0 st0 V.ops.length).ρ:=by
  funext t
  by_cases hN:t∈V.N
  ·rw[J7 hN]
  ·rw[CX hN];exact inv.sat_atE hc hN (Nat.le_refl _) (fun j hj _ _ _=>hall j hj) (fun j hj _ _ _=>inv.lt j hj)
 rw[hρ];refine hfin Γ' w (C4 a) inv.le ?_
 have:cellsOf V (List.range V.stab.length) (H8 V V.ops cs 0 st0 V.ops.length).M (C4 a)=(List.range V.stab.length).flatMap fun x=>(H8 V V.ops cs 0 st0 (p x)).M x (D6 (V.s x) (C4 a) C6):=F3 fun x _=>by
  have:=BE hc (p:=p x) (x:=x) (V.ops.length-p x) (by have:=(hp x).1;omega) (fun j h1 h2 hj=>by
   have hjl:j<V.ops.length:=by have:=(hp x).1;omega
   have:=((hp x).2 j hj hjl).1 (hall j hjl)
   omega)
  rw[show p x+(V.ops.length-p x)=V.ops.length from by have:=(hp x).1;omega]at this
  rw[this]
 rw[this];exact hwd
theorem MInv.anyE{QQ:Exit→Fr→World→Prop}(hc:O7 PP V (fun ρ w=>QQ .normal ρ w) 0 V.ops cs st0)(hk:M4 V.n V.ops V.wr V.tc V.stab=true)(hPP:∀ch ρ w,PP ch w→QQ (.panic ch) ρ w) :
  ∀(fuel:Nat) (listed:Array Bool) (a:Act) (w:World) (done:List Nat) (Γ':B8),MInv V st0 cs listed a w done Γ'→fuel+done.length=V.ops.length→wpAny V.P .any V.ops.toArray (lift V.n QQ) fuel listed a w
 | 0,listed,a,w,done,Γ',inv,hf=>by
  have hall:∀i,i<V.ops.length→i∈done:=by
   intro i hi;refine Classical.byContradiction fun hn=>?_
   have:=AP V.ops.length (i::done) (List.nodup_cons.2 ⟨hn,inv.nd⟩) (fun x hx=>by
    rcases List.mem_cons.1 hx with rfl|hx
    ·exact hi
    ·exact inv.lt x hx)
   simp at this;omega
  refine⟨?_,inv.defers,inv.size,inv.finE hc hall⟩
  refine List.eq_nil_iff_forall_not_mem.2 fun i hi=>?_
  obtain⟨hun,o,ho,_⟩:=mem_ready.1 hi
  have hil:i<V.ops.length:=by have:=(Array.getElem?_eq_some_iff.1 ho).1;simpa using this
  rw[(inv.ls i hil).2 (hall i hil)]at hun;cases hun
 | fuel+1,listed,a,w,done,Γ',inv,hf=>by
  refine⟨fun h=>⟨inv.defers,inv.size,inv.finE hc (Z8 hk inv h)⟩,fun i hi=>?_⟩
  refine wpOp_mono ?_ (inv.stepE hc hk (fun ch a w h1 h2 h=>⟨h1,h2,hPP ch _ w h⟩) hi).1
  rintro a' w' ⟨done',Γ'',inv',hl⟩
  exact MInv.anyE hc hk hPP fuel _ a' w' done' Γ'' inv' (by omega)
end
end
theorem NB{PP:List PanicEntry→World→Prop}{P:Program}{n id:Nat}{l:List Oper}{Q:Exit→Fr→World→Prop}{ρ:Fr}{w:World}{Γ:B8}(K:List A7)(M:Nat→Fr→List A7)(wr tc stab:List (List Nat))(fixed:Bool)(hm:P.follows .mixedOrders=true)
  (hk:M4 n l wr tc stab=true) (hPP:∀ch ρ w,PP ch w→Q (.panic ch) ρ w) (hw:Wd Γ (K++cellsOf ⟨P,n,l,Γ,K,wr,tc,stab,fixed⟩ (List.range stab.length) M ρ) w) (h:MSwE PP ⟨P,n,l,Γ,K,wr,tc,stab,fixed⟩ (fun ρ w=>Q .normal ρ w) 0 l ⟨ρ,M⟩):W P n (.region id l.toArray true) Q ρ w:=by
 unfold W;intro a hda hs hf;refine wp_region_any hm ?_
 obtain⟨cs,hc⟩:=h.chain;have inv:MInv ⟨P,n,l,Γ,K,wr,tc,stab,fixed⟩ ⟨ρ,M⟩ cs (Array.replicate l.toArray.size false) a { w with drawn:=w.drawn+1 } [] Γ:=by
  refine⟨hda,hs,by simp,by simp,by simp,fun i hi=>?_,fun _ _ _ h=>by simp at h,O4.rl_refl _,fun t _ _=>by rw[hf],by simp,fun _=>0,fun x=>⟨Nat.zero_le _,by simp⟩,?_⟩
  ·have:i<l.length:=hi
   simp[this]
  ·simp only[m0,hf]
   exact hw.drawn
 exact MInv.anyE hc hk hPP _ _ a _ [] Γ inv (by simp)
section
variable {PP:List PanicEntry→World→Prop}{V:O4}{Q:Fr→World→Prop}
end
end Mk
end
section
open Go Mk
namespace Go.Proofs.YtlimglpjpcfpdaaGreat
set_option maxHeartbeats 16000000
attribute [local irreducible] Calls cI cB
def x7(p:F1)(er:Int):PanicEntry:={ v:=.iface 103 (.agg #[.int .i64 p.Line,.int .i64 p.Col,.int .i64 er]),recovered:=false }
def HU{α β:Type}(f:α→β):PR α→PR β
 | .ok (x,k)=>.ok (f x,k)
 | .error q=>.error q
def z1(toks:List Tok)(e:F1)(kind:Int)(text:ByteArray)(k:Nat):PR Unit:=if L5 toks k kind text=true then .ok ((),k+1) else .error (X5 toks k e,50)
def W3(toks:List Tok)(e:F1)(k:Nat):PR ByteArray:=if (K8 toks k).Kind=1∧Fp (K8 toks k).Text=false then (if (K8 toks k).Text.size≤24 then .ok ((K8 toks k).Text,k+1) else .error (X5 toks k e,63)) else .error (X5 toks k e,50)
def y9(toks:List Tok)(e:F1)(most:Int)(k:Nat):PR Int:=if (K8 toks k).Kind=2 then (if (K8 toks k).Value≤most then .ok ((K8 toks k).Value,k+1) else .error (X5 toks k e,6)) else .error (X5 toks k e,50)
def AS:ByteArray:=⟨#[45]⟩
def CU(toks:List Tok)(e:F1)(k:Nat):PR Int:=if L5 toks k 4 AS=true then HU (fun v=>IntKind.i64.wrap (-(IntKind.i64.wrap v))) (y9 toks e 9223372036854775808 (k+1)) else HU (fun v=>IntKind.i64.wrap v) (y9 toks e 9223372036854775807 k)
def IY(s:ByteArray):Bool:=decide (s=⟨#[95]⟩)||(decide (65≤A5 s 0)&&decide (A5 s 0≤90))
def Dc(s:ByteArray):K0:=if IY s=true then ⟨s,N3⟩ else ⟨D8,⟨2,0,s⟩⟩
def Fe(toks:List Tok)(e:F1)(k:Nat):PR K0:=
 if (K8 toks k).Kind=1 then HU Dc (W3 toks e k)
 else if (K8 toks k).Kind=3 then (if (K8 toks k).Text=⟨#[]⟩∨24<(K8 toks k).Text.size then .error (X5 toks k e,63) else .ok (⟨D8,⟨2,0,(K8 toks k).Text⟩⟩,k+1))
 else HU (fun v=>⟨D8,⟨1,v,⟨#[]⟩⟩⟩) (CU toks e k)
def w5{α:Type}(Γ:B8)(S:List A7)(bp:Nat)(a:Option Addr)(n c:Nat)(e:F1)(K:α→Value):PR α→Ending→World→Prop
 | .ok (x,k),r,w=>r=.returned (K x)∧k≤n∧Wd Γ (B9 bp a n c k e.Line e.Col::S) w
 | .error (p,er),r,w=>r=.panicked [x7 p er]∧∃k,Wd Γ (B9 bp a n c k e.Line e.Col::S) w
def EE(toks:List Tok):Prop:=∀k,(K8 toks k).Kind=1→0<(K8 toks k).Text.size
section
variable {Γ:B8}{S:List A7}{w:World}{bp:Nat}{a:Option Addr}{n c at':Nat}{e:F1}{toks:List Tok}
theorem u9(h:(K8 toks at').Kind≠0):at'<toks.length:=by
 by_cases hk:at'<toks.length
 ·exact hk
 ·unfold K8 at h;rw[List.getD_eq_getElem?_getD,List.getElem?_eq_none (by omega)]at h
  exact absurd rfl h
theorem Z0{kind:Int}{text:ByteArray}(h0:kind≠0)(h:L5 toks at' kind text=true):at'<toks.length:=by
 unfold L5 at h;simp only[Bool.and_eq_true,decide_eq_true_eq]at h
 exact u9 (by omega)
theorem Aa(er:Int)(ht:D3 Γ (.slice a n c) 5 (toks.map enc))(hw:Wd Γ (B9 bp a n c at' e.Line e.Col::S) w) :
  Calls Tryz.prog 97 #[.pointer (some ⟨bp,0,none⟩),.int .i64 er] w fun r w'=>r=.panicked [x7 (X5 toks at' e) er]∧Wd Γ (B9 bp a n c at' e.Line e.Col::S) w':=by
 have hn:n=toks.length:=by obtain⟨_,_,_,h1,h2,_⟩:=ht.shape;cases h1;simpa using h2
 unfold B9 at *
 refine A3 Tryz.func97 rfl rfl ?_
 refine A4 ?_;refine B2 ?_;intro b4 w hw;refine B0 ?_;intro w hw;refine U5 ?_
 have hw:Wd Γ (.blk b4 (.cells (enc e).toArray 44)::.blk bp (.cells #[.slice a n c,.int .i64 at',.int .i64 e.Line,.int .i64 e.Col] 109)::S) w:=hw
 refine Ba (fun ρ w=>∃b4:Nat,Has ρ [(1,.int .i64 er),(4,.pointer (some ⟨b4,0,none⟩))]∧Wd Γ (.blk b4 (.cells (enc (X5 toks at' e)).toArray 44)::.blk bp (.cells #[.slice a n c,.int .i64 at',.int .i64 e.Line,.int .i64 e.Col] 109)::S) w) ?_ ?_
 ·refine A4 ?_;refine L4 (by kernel_rfl) (by kernel_rfl) hw ?_
  refine Hd ?_;intro w hw;refine A0 rfl (fun h=>?_) (fun h=>?_)
  ·have h:at'<n:=by simp at h;omega
   obtain⟨t,htk⟩:=C0 (l:=toks) (k:=at') (by omega)
   have hp:X5 toks at' e=⟨t.Line,t.Col⟩:=by unfold X5;rw[htk]
   refine A4 ?_;refine Z7 [.blk bp _] (.blk b4 _::S) [] [[],[],[],[],[],[],[],[],[],[],[],[0]] (hw.ps [1]) ?_
   refine i9 ?_;refine Z2 (φ:=fun (_:Unit) _=>True) (R:=fun _=>.blk b4 (.cells (enc e).toArray 44)::S) (v:=undef) (T':=Unit) (fun _ _=>True) (fun _=>.blk b4 (.cells (enc (⟨t.Line,t.Col⟩:F1)).toArray 44)::S) (fun t' g w Y _ hw=>V6 (i:=0) (inferInstance:Kk Tryz.prog 44 2).h hw rfl rfl rfl rfl (fun u hu=>(List.all_eq_true.1 (Ca (⟨t.Line,t.Col⟩:F1))) u hu) rfl (Nat.le_refl 2) fun w' hw'=>⟨(),trivial,(fun _=>rfl),hw'⟩) ?_
   refine y6 fun t' w g _ hw=>?_
   refine A4 ?_;exact⟨b4,⟨rfl,rfl,trivial⟩,by rw[hp];exact hw.flip.ps [1]⟩
  ·have h:¬at'<n:=by simp at h;omega
   have hp:X5 toks at' e=e:=by unfold X5;rw[List.getElem?_eq_none (by omega)]
   refine A4 ?_;exact⟨b4,⟨rfl,rfl,trivial⟩,by rw[hp];exact hw⟩
 ·rintro ρ w ⟨b4,hρ,hw⟩
  rw[hρ.eq];refine A4 ?_;refine lY (v:=.iface 103 (.agg #[.int .i64 (X5 toks at' e).Line,.int .i64 (X5 toks at' e).Col,.int .i64 er])) ?_ (hy:=Mg Tryz.underlying103 rfl)
  refine Qz ?_
  exact⟨rfl,hw.drop⟩
theorem Ck(kind:Int)(text:ByteArray)(h0:kind≠0)(hat:at'≤n)(hN:toks.length≤1000000)(ht:D3 Γ (.slice a n c) 5 (toks.map enc))(hw:Wd Γ (B9 bp a n c at' e.Line e.Col::S) w) :
  Calls Tryz.prog 92 #[.pointer (some ⟨bp,0,none⟩),.int .i64 kind,.string text] w (w5 Γ S bp a n c e (fun _:Unit=>.tuple #[]) (z1 toks e kind text at')):=by
 have hn:n=toks.length:=by obtain⟨_,_,_,h1,h2,_⟩:=ht.shape;cases h1;simpa using h2
 refine A3 Tryz.func92 rfl rfl ?_
 refine A4 ?_;refine C5 (vs:=[.pointer (some ⟨bp,0,none⟩),.int .i64 kind,.string text]) ?_
 refine(R9 kind text hat hN ht hw).mono ?_
 clear hw;rintro r w ⟨rfl,hw⟩
 refine⟨_,rfl,?_⟩;unfold z1;cases hi:L5 toks at' kind text with
 | true=>
  have hlt:=Z0 h0 hi
  rw[hi,if_pos rfl]at hw;rw[if_pos rfl];refine A4 ?_;refine A0 rfl (fun h=>by cases h) (fun h=>?_)
  refine A4 ?_;exact⟨_,rfl,rfl,by omega,hw⟩
 | false=>
  rw[hi,if_neg (by decide)]at hw
  rw[if_neg (by decide)]
  refine A4 ?_;refine A0 rfl (fun h=>?_) (fun h=>by cases h)
  refine A4 ?_;refine H0 ?_
  refine(Aa 50 ht hw).mono ?_
  rintro r w ⟨rfl,hw⟩
  exact⟨rfl,at',hw⟩
theorem GF(hat:at'≤n)(hN:toks.length≤1000000)(ht:D3 Γ (.slice a n c) 5 (toks.map enc))(hw:Wd Γ (B9 bp a n c at' e.Line e.Col::S) w) :
  Calls Tryz.prog 94 #[.pointer (some ⟨bp,0,none⟩)] w (w5 Γ S bp a n c e (fun s:ByteArray=>.string s) (W3 toks e at')):=by
 have hn:n=toks.length:=by obtain⟨_,_,_,h1,h2,h3⟩:=ht.shape;cases h1;simpa using h2
 refine A3 Tryz.func94 rfl rfl ?_
 refine A4 ?_;refine C5 (vs:=[.pointer (some ⟨bp,0,none⟩),.int .i64 0]) ?_
 refine(Ao (j:=0) (by decide) hat hN ht hw).mono ?_
 clear hw;rintro r w ⟨rfl,hw⟩
 rw[Nat.add_zero];refine⟨_,rfl,?_⟩;have hlt:=u9 (toks:=toks) (at':=at')
 unfold W3;generalize K8 toks at'=t at *
 refine A4 ?_;refine B2 ?_;intro b3 w hw;refine B0 ?_;intro w hw;have hw:Wd Γ (.blk b3 (.cells (enc t).toArray 178)::.blk bp (.cells #[.slice a n c,.int .i64 at',.int .i64 e.Line,.int .i64 e.Col] 109)::S) w:=hw
 refine A4 ?_;refine A0 rfl (fun h=>?_) (fun h=>?_)
 ·have h:(decide (t.Kind≠1)||Fp t.Text)=true:=h
  rw[if_neg (fun⟨h1,h2⟩=>by rw[h1,h2]at h;cases h)]
  refine A4 ?_;refine H0 ?_
  refine(Aa (S:=.blk b3 _::S) 50 ht (hw.ps [1])).mono ?_
  rintro r w ⟨rfl,hw⟩
  exact⟨rfl,at',hw.dropAt 1⟩
 have h:(decide (t.Kind≠1)||Fp t.Text)=false:=h
 obtain⟨h1,h2⟩:=Bool.or_eq_false_iff.1 h
 have h1:t.Kind=1:=by simpa using h1
 rw[if_pos ⟨h1,h2⟩];have hlt:=hlt (by omega)
 clear h;refine A4 ?_;refine A0 rfl (fun h=>?_) (fun h=>?_)
 ·have h:=of_decide_eq_true h
  rw[if_neg (by omega)]
  refine A4 ?_;refine H0 ?_
  refine(Aa (S:=.blk b3 _::S) 63 ht (hw.ps [1])).mono ?_
  rintro r w ⟨rfl,hw⟩
  exact⟨rfl,at',hw.dropAt 1⟩
 have h:=of_decide_eq_false h
 rw[if_pos (by omega)]
 refine A4 ?_;refine B0 (i:=1) ?_
 intro w hw;have hw:Wd Γ (.blk b3 (.cells (enc t).toArray 178)::B9 bp a n c (at'+1) e.Line e.Col::S) w:=hw
 refine A4 ?_;exact⟨_,rfl,rfl,by omega,hw.drop⟩
theorem EM(most:Int)(hat:at'≤n)(hN:toks.length≤1000000)(ht:D3 Γ (.slice a n c) 5 (toks.map enc))(hw:Wd Γ (B9 bp a n c at' e.Line e.Col::S) w) :
  Calls Tryz.prog 150 #[.pointer (some ⟨bp,0,none⟩),.int .u64 most] w (w5 Γ S bp a n c e (fun v:Int=>.int .u64 v) (y9 toks e most at')):=by
 have hn:n=toks.length:=by obtain⟨_,_,_,h1,h2,h3⟩:=ht.shape;cases h1;simpa using h2
 refine A3 Tryz.func150 rfl rfl ?_
 refine A4 ?_;refine C5 (vs:=[.pointer (some ⟨bp,0,none⟩),.int .i64 0]) ?_
 refine(Ao (j:=0) (by decide) hat hN ht hw).mono ?_
 clear hw;rintro r w ⟨rfl,hw⟩
 rw[Nat.add_zero];refine⟨_,rfl,?_⟩;have hlt:=u9 (toks:=toks) (at':=at')
 unfold y9;generalize K8 toks at'=t at *
 refine A4 ?_;refine B2 ?_;intro b5 w hw;refine B0 ?_;intro w hw;have hw:Wd Γ (.blk b5 (.cells (enc t).toArray 178)::.blk bp (.cells #[.slice a n c,.int .i64 at',.int .i64 e.Line,.int .i64 e.Col] 109)::S) w:=hw
 refine A4 ?_;refine A0 rfl (fun h=>?_) (fun h=>?_)
 ·have h:t.Kind≠2:=of_decide_eq_true h
  rw[if_neg h];refine A4 ?_;refine H0 ?_
  refine(Aa (S:=.blk b5 _::S) 50 ht (hw.ps [1])).mono ?_
  rintro r w ⟨rfl,hw⟩
  exact⟨rfl,at',hw.dropAt 1⟩
 have h1:t.Kind=2:=by have:=of_decide_eq_false h;omega
 rw[if_pos h1];have hlt:=hlt (by omega)
 clear h;refine A4 ?_;refine A0 rfl (fun h=>?_) (fun h=>?_)
 ·have h:most<t.Value:=of_decide_eq_true h
  rw[if_neg (by omega)]
  refine A4 ?_;refine H0 ?_
  refine(Aa (S:=.blk b5 _::S) 6 ht (hw.ps [1])).mono ?_
  rintro r w ⟨rfl,hw⟩
  exact⟨rfl,at',hw.dropAt 1⟩
 have h:¬most<t.Value:=of_decide_eq_false h
 rw[if_pos (by omega)]
 refine A4 ?_;refine B0 (i:=1) ?_
 intro w hw;have hw:Wd Γ (.blk b5 (.cells (enc t).toArray 178)::B9 bp a n c (at'+1) e.Line e.Col::S) w:=hw
 refine A4 ?_;exact⟨_,rfl,rfl,by omega,hw.drop⟩
theorem Ec(hat:at'≤n)(hN:toks.length≤1000000)(ht:D3 Γ (.slice a n c) 5 (toks.map enc))(hw:Wd Γ (B9 bp a n c at' e.Line e.Col::S) w) :
  Calls Tryz.prog 148 #[.pointer (some ⟨bp,0,none⟩)] w (w5 Γ S bp a n c e (fun v:Int=>.int .i64 v) (CU toks e at')):=by
 have hn:n=toks.length:=by obtain⟨_,_,_,h1,h2,h3⟩:=ht.shape;cases h1;simpa using h2
 refine A3 Tryz.func148 rfl rfl ?_
 refine A4 ?_;refine C5 (vs:=[.pointer (some ⟨bp,0,none⟩),.int .i64 4,.string AS]) ?_
 refine(R9 4 AS hat hN ht hw).mono ?_
 clear hw;rintro r w ⟨rfl,hw⟩
 refine⟨_,rfl,?_⟩;unfold CU;cases hi:L5 toks at' 4 AS with
 | true=>
  have hlt:=Z0 (by decide) hi
  rw[hi,if_pos rfl]at hw;rw[if_pos rfl];refine A4 ?_;refine A0 rfl (fun h=>?_) (fun h=>by cases h)
  refine A4 ?_;refine H0 (vs:=[.pointer (some ⟨bp,0,none⟩),.int .u64 9223372036854775808]) ?_
  refine(EM (at':=at'+1) 9223372036854775808 (by omega) hN ht hw).mono ?_
  clear hw;rintro r w hr
  cases hN2:y9 toks e 9223372036854775808 (at'+1) with
  | error q=>
   obtain⟨p,er⟩:=q;rw[hN2]at hr;obtain⟨rfl,hw⟩:=hr;exact⟨rfl,hw⟩
  | ok q=>
   obtain⟨x,k⟩:=q;rw[hN2]at hr;obtain⟨rfl,hk,hw⟩:=hr;refine A4 ?_;refine lY (v:=.int .i64 (IntKind.i64.wrap (-(IntKind.i64.wrap x)))) ?_ (hy:=Ny rfl)
   refine A4 ?_;exact⟨_,rfl,rfl,hk,hw⟩
 | false=>
  rw[hi,if_neg (by decide)]at hw
  rw[if_neg (by decide)]
  refine A4 ?_;refine A0 rfl (fun h=>by cases h) (fun h=>?_)
  refine A4 ?_;refine H0 (vs:=[.pointer (some ⟨bp,0,none⟩),.int .u64 9223372036854775807]) ?_
  refine(EM 9223372036854775807 hat hN ht hw).mono ?_
  clear hw;rintro r w hr
  cases hN2:y9 toks e 9223372036854775807 at' with
  | error q=>
   obtain⟨p,er⟩:=q;rw[hN2]at hr;obtain⟨rfl,hw⟩:=hr;exact⟨rfl,hw⟩
  | ok q=>
   obtain⟨x,k⟩:=q;rw[hN2]at hr;obtain⟨rfl,hk,hw⟩:=hr;refine A4 ?_;exact⟨_,rfl,rfl,hk,hw⟩
theorem m4(hW:EE toks)(hat:at'≤n)(hN:toks.length≤1000000)(ht:D3 Γ (.slice a n c) 5 (toks.map enc))(hw:Wd Γ (B9 bp a n c at' e.Line e.Col::S) w) :
  Calls Tryz.prog 147 #[.pointer (some ⟨bp,0,none⟩)] w (w5 Γ S bp a n c e (fun o:K0=>.agg (enc o).toArray) (Fe toks e at')):=by
 have hn:n=toks.length:=by obtain⟨_,_,_,h1,h2,h3⟩:=ht.shape;cases h1;simpa using h2
 refine F8 Tryz.func147 rfl rfl ?_
 refine A4 ?_;refine B2 ?_;intro b2 w hw;have hw:Wd Γ (B9 bp a n c at' e.Line e.Col::.blk b2 (.cells (enc (⟨D8,N3⟩:K0)).toArray 125)::S) w:=hw.ps [1]
 refine A4 ?_;refine C5 (vs:=[.pointer (some ⟨bp,0,none⟩),.int .i64 0]) ?_
 refine(Ao (j:=0) (by decide) hat hN ht hw).mono ?_
 clear hw;rintro r w ⟨rfl,hw⟩
 rw[Nat.add_zero];refine⟨_,rfl,?_⟩;have hlt:=u9 (toks:=toks) (at':=at')
 have hpos:=hW at'
 have hWd:=fun (S:List A7) (w:World) hw=>GF (S:=S) (w:=w) (e:=e) (bp:=bp) hat hN ht hw
 unfold Fe;unfold W3 at hWd;unfold W3;generalize K8 toks at'=t at *
 refine A4 ?_;refine B2 ?_;intro b3 w hw;refine B0 ?_;intro w hw;have hw:Wd Γ (B9 bp a n c at' e.Line e.Col::.blk b2 (.cells (enc (⟨D8,N3⟩:K0)).toArray 125)::.blk b3 (.cells (enc t).toArray 178)::S) w:=hw.ps [2,2]
 refine A4 ?_;refine A0 rfl (fun h=>?_) (fun h=>?_)
 ·have h1:t.Kind=1:=of_decide_eq_true h
  clear h;rw[if_pos h1];have hp0:=hpos h1
  refine A4 ?_;refine H0 (vs:=[.pointer (some ⟨bp,0,none⟩)]) ?_
  refine(hWd _ _ hw).mono ?_
  clear hw;rintro r w hr
  by_cases hc:t.Kind=1∧Fp t.Text=false
  rotate_left
  ·rw[if_neg hc]at hr ⊢
   obtain⟨rfl,k,hw⟩:=hr;exact⟨rfl,k,(hw.dropAt 1).dropAt 1⟩
  rw[if_pos hc]at hr ⊢
  by_cases hs:t.Text.size≤24
  rotate_left
  ·rw[if_neg hs]at hr ⊢
   obtain⟨rfl,k,hw⟩:=hr;exact⟨rfl,k,(hw.dropAt 1).dropAt 1⟩
  rw[if_pos hs]at hr ⊢
  obtain⟨rfl,hk,hw⟩:=hr;have hv:Dc t.Text=if IY t.Text=true then ⟨t.Text,N3⟩ else ⟨D8,⟨2,0,t.Text⟩⟩:=rfl
  refine A4 ?_;refine A0 rfl (fun h=>?_) (fun h=>?_)
  ·have h:IY t.Text=true:=h
   rw[if_pos h]at hv;refine A4 ?_;refine B0 (i:=1) ?_
   intro w hw;have hw:Wd Γ (.blk b2 (.cells (enc (⟨t.Text,N3⟩:K0)).toArray 125)::B9 bp a n c (at'+1) e.Line e.Col::.blk b3 (.cells (enc t).toArray 178)::S) w:=hw.ps [1]
   refine A4 ?_;refine⟨[.agg (enc (⟨t.Text,N3⟩:K0)).toArray],⟨J6 (i:=0) hw rfl rfl rfl,trivial⟩,?_⟩
   show w5 Γ S bp a n c e (fun o:K0=>.agg (enc o).toArray) (.ok (Dc t.Text,at'+1)) _ _
   rw[hv];exact⟨rfl,hk,hw.drop.dropAt 1⟩
  ·have h:IY t.Text=false:=h
   rw[if_neg (by rw[h];decide)]at hv
   refine A4 ?_;refine B0 (i:=1) ?_
   intro w hw;have hw:Wd Γ (.blk b2 (.cells (enc (⟨D8,⟨2,0,t.Text⟩⟩:K0)).toArray 125)::B9 bp a n c (at'+1) e.Line e.Col::.blk b3 (.cells (enc t).toArray 178)::S) w:=hw.ps [1]
   refine A4 ?_;refine⟨[.agg (enc (⟨D8,⟨2,0,t.Text⟩⟩:K0)).toArray],⟨J6 (i:=0) hw rfl rfl rfl,trivial⟩,?_⟩
   show w5 Γ S bp a n c e (fun o:K0=>.agg (enc o).toArray) (.ok (Dc t.Text,at'+1)) _ _
   rw[hv];exact⟨rfl,hk,hw.drop.dropAt 1⟩
 have h1:¬t.Kind=1:=of_decide_eq_false h
 clear h;rw[if_neg h1];refine A4 ?_;refine A0 rfl (fun h=>?_) (fun h=>?_)
 ·have h3:t.Kind=3:=of_decide_eq_true h
  clear h;rw[if_pos h3];have hlt:=hlt (by omega)
  refine A4 ?_;refine A0 rfl (fun h=>?_) (fun h=>?_)
  ·have h:(decide (t.Text=⟨#[]⟩)||decide ((24:Int)<(t.Text.size:Int)))=true:=h
   rw[if_pos (by simp only[Bool.or_eq_true,decide_eq_true_eq]at h;exact h.imp id fun h=>by omega)]
   refine A4 ?_;refine H0 ?_
   refine(Aa 63 ht hw).mono ?_
   rintro r w ⟨rfl,hw⟩
   exact⟨rfl,at',(hw.dropAt 1).dropAt 1⟩
  ·have h:(decide (t.Text=⟨#[]⟩)||decide ((24:Int)<(t.Text.size:Int)))=false:=h
   rw[if_neg (by simp only[Bool.or_eq_false_iff,decide_eq_false_iff_not]at h;exact fun hh=>hh.elim h.1 fun h2=>h.2 (by omega))]
   unfold B9 at hw;refine A4 ?_;refine B0 ?_;intro w hw;refine A4 ?_;refine B0 (i:=1) ?_
   intro w hw;have hw:Wd Γ (.blk b2 (.cells (enc (⟨D8,⟨2,0,t.Text⟩⟩:K0)).toArray 125)::B9 bp a n c (at'+1) e.Line e.Col::.blk b3 (.cells (enc t).toArray 178)::S) w:=hw.ps [1]
   refine A4 ?_;exact⟨[.agg (enc (⟨D8,⟨2,0,t.Text⟩⟩:K0)).toArray],⟨J6 (i:=0) hw rfl rfl rfl,trivial⟩,rfl,by omega,hw.drop.dropAt 1⟩
 ·have h3:¬t.Kind=3:=of_decide_eq_false h
  clear h;rw[if_neg h3];refine A4 ?_;refine H0 (vs:=[.pointer (some ⟨bp,0,none⟩)]) ?_
  refine(Ec hat hN ht hw).mono ?_
  clear hw;rintro r w hr
  cases hI:CU toks e at' with
  | error q=>
   obtain⟨p,er⟩:=q;rw[hI]at hr;obtain⟨rfl,k,hw⟩:=hr;exact⟨rfl,k,(hw.dropAt 1).dropAt 1⟩
  | ok q=>
   obtain⟨x,k⟩:=q;rw[hI]at hr;obtain⟨rfl,hk,hw⟩:=hr;refine A4 ?_;refine B0 (i:=1) ?_
   intro w hw;have hw:Wd Γ (.blk b2 (.cells (enc (⟨D8,⟨1,x,⟨#[]⟩⟩⟩:K0)).toArray 125)::B9 bp a n c k e.Line e.Col::.blk b3 (.cells (enc t).toArray 178)::S) w:=hw.ps [1]
   refine A4 ?_;exact⟨[.agg (enc (⟨D8,⟨1,x,⟨#[]⟩⟩⟩:K0)).toArray],⟨J6 (i:=0) hw rfl rfl rfl,trivial⟩,rfl,hk,hw.drop.dropAt 1⟩
end
end Go.Proofs.YtlimglpjpcfpdaaGreat
end
section
open Go Mk
namespace Go.Proofs.YtlimglpjpcfpdaaGreat
set_option maxHeartbeats 16000000
attribute [local irreducible] Calls cI cB
section
variable {P:Program}{n:Nat}{ops:List Oper}{Γ:B8}{K:List A7}{wr tc stab:List (List Nat)}{Q:Fr→World→Prop}{i:Nat}{rest:List Oper}{ρ:Fr}{M:Nat→Fr→List A7}
variable {T T':Type}{ty:TypeId}{pos:String}{es:Array Edge}
theorem DT{c dd f:Nat}{args:List Operand}{tys:Array TypeId}{vs:List Value}{φ:T→Fr→Prop}{R:T→List A7}[B5 P f](val:T'→Value)(R':T'→List A7)
  (hcall:∀t S w,Wd Γ (R t++S) w→Calls P f vs.toArray w fun e w'=>∃t':T',e=.returned (val t')∧Wd Γ (R' t'++S) w')
  (h:MSw (mV P n ops Γ K wr tc stab) Q (i+1) rest ⟨C3 ρ (some dd) undef,G9 M c (L3 (fun (t:T') g=>g dd=val t) R')⟩)
  (hw0:wr.getD i []=[c]:=by exact rfl) (ht:tc.getD i []=[c]:=by exact rfl) (hM:M c=L3 φ R:=by first|exact A6|exact Mw|exact y4|exact((A1 (by decide)).trans A6)|exact((A1 (by decide)).trans y4)|exact rfl)
  (hs:(stab.getD c []).contains dd=true:=by exact rfl) (hfr:Q6 stab (some dd)=true:=by exact rfl) (ha:∀g,EvL (D6 stab.flatten g ρ) args vs:=by intro g;exact r8) :
  MSw (mV P n ops Γ K wr tc stab) Q i (⟨some dd,.call { callee:=.value (.func f),args:=args.toArray,argTypes:=tys },ty,pos,es,none⟩::rest) ⟨ρ,M⟩:=
 mS (v:=undef) (L3 (fun (t:T') g=>g dd=val t) R') (fun g w Y hw=>by
  obtain⟨t,-,hw⟩:=G3 hw
  refine Y8 (ha g).eqA ((hcall t _ _ hw).mono ?_)
  rintro e w' ⟨t',rfl,hw'⟩
  refine⟨_,rfl,fun hh=>(by rw[hfr]at hh;cases hh),L8 t' ?_ hw'⟩
  rw[J7 (by simpa using hs)];exact upd_same _ _ _) h hM hw0 ht rfl
end
theorem Iq{P:Program}{d:Option Tmp}{T f:Nat}{x:Operand}{ty:TypeId}{pos:String}{es:Array Edge}{g:Option (Nat×Bool)}{ρ:Fr}{w:World}{cs:Array Value}{v:Value}{fs:Array Field}{fd:Field}(hu:P.underlying T=some (.struct fs))(hf:fs[f]? = some fd)(hs:Ke P fd.type=true)(hc:cs[fd.offset]? = some v)(hx:ev ρ x=.agg cs) :
  Mk.Yields P ⟨d,.field T x f,ty,pos,es,g⟩ ρ w v:=by
 unfold Mk.Yields;simp[execOp,go_sem,hx,Instr.field,run_underlying hu,hf,part,x0 hs,hc,asAgg]
theorem FO{c:Bool}{v:Value}(h:c=true):gv c v=v:=z7 h rfl
def O2:ByteArray:=⟨#[44]⟩
def Y6:ByteArray:=⟨#[40]⟩
def IC:ByteArray:=⟨#[41]⟩
def X7:ByteArray:=⟨#[110,111,116]⟩
def F6:K0:=⟨D8,N3⟩
def RD(s:ByteArray)(os:List K0):F5:=⟨1,s,os,0,F6,F6,0,0,0⟩
section
variable {Γ:B8}{S:List A7}{w:World}{bp:Nat}{a:Option Addr}{n c at':Nat}{e1 e2:Int}{toks:List Tok}
end
end Go.Proofs.YtlimglpjpcfpdaaGreat
end
section
open Go
namespace Mk
attribute [local irreducible] Calls
section
variable {PP:List PanicEntry→World→Prop}{P:Program}{n:Nat}{ops:List Oper}{Γ:B8}{K:List A7}{wr tc stab:List (List Nat)}{Q:Fr→World→Prop}{i:Nat}{rest:List Oper}{ρ:Fr}{M:Nat→Fr→List A7}{o:Oper}{v:Value}
theorem eC(hy:∀Y w g,Wd Γ (K++(D5 tc stab i M g++Y)) w→Step P o (D6 stab.flatten g ρ) w fun u w'=>u=v∧Wd Γ (K++(D5 tc stab i M g++Y)) w')(hw0:wr.getD i []=[])(hg:o.guard=none)(ho:Ai tc stab i o.dst=true)
  (h:MSwE PP (mV P n ops Γ K wr tc stab) Q (i+1) rest ⟨C3 ρ o.dst v,M⟩):MSwE PP (mV P n ops Γ K wr tc stab) Q i (o::rest) ⟨ρ,M⟩:=by
 have hn:∀c,Mt.nxt (mV P n ops Γ K wr tc stab) i ⟨ρ,M⟩ c=M:=fun c=>by
  funext x;simp only[Mt.nxt,O4.w,hw0];rfl
 refine⟨⟨v,M⟩,⟨fun Γ' Y w g hr hw=>?_⟩,?_⟩
 ·have hΓ:Γ'=Γ:=hr
  subst hΓ;rw[hn];refine⟨fun _=>Step.toE ((hy Y w g hw).mono fun u w' ⟨h1,h2⟩=>⟨Γ',rfl,?_,fun _=>h1⟩),fun hf=>?_⟩
  ·have:=Aj (g:=g) (v:=u) ho M
   show Wd Γ' (K++(D5 tc stab i M (C3 g o.dst u)++Y)) w'
   rw[this];exact h2
  ·rw[M5 hg]at hf;cases hf
 ·simp only[Mt.next,hn];exact h
theorem eY(h:MSwE PP (mV P n ops Γ K wr tc stab) Q (i+1) rest ⟨C3 ρ o.dst v,M⟩)(hw0:wr.getD i []=[]:=by exact rfl)(hg:o.guard=none:=by exact rfl)(ho:Ai tc stab i o.dst=true:=by exact rfl)
  (hy:∀Y w g,Wd Γ (K++(D5 tc stab i M g++Y)) w→Yields P o (D6 stab.flatten g ρ) w v:=by (intro Y w g hw;exact If)):MSwE PP (mV P n ops Γ K wr tc stab) Q i (o::rest) ⟨ρ,M⟩:=
 eC (fun Y w g hw=>(hy Y w g hw).step ⟨rfl,hw⟩) hw0 hg ho h
theorem eM{x:Nat}(m:Fr→List A7)(hs:∀Y w g,Wd Γ (K++(D5 tc stab i M g++Y)) w→U6 PP P o (D6 stab.flatten g ρ) w fun u w'=>Wd Γ (K++(D5 tc stab i (G9 M x m) (C3 g o.dst u)++Y)) w'∧(Q6 stab o.dst=false→u=v))
  (h:MSwE PP (mV P n ops Γ K wr tc stab) Q (i+1) rest ⟨C3 ρ o.dst v,G9 M x m⟩) (hw0:wr.getD i []=[x]:=by exact rfl) (hg:o.guard=none:=by exact rfl):MSwE PP (mV P n ops Γ K wr tc stab) Q i (o::rest) ⟨ρ,M⟩:=by
 have hn:Mt.nxt (mV P n ops Γ K wr tc stab) i ⟨ρ,M⟩ ⟨v,fun _=>m⟩=G9 M x m:=by
  funext y;simp only[Mt.nxt,O4.w,hw0];rfl
 refine⟨⟨v,fun _=>m⟩,⟨fun Γ' Y w g hr hw=>?_⟩,?_⟩
 ·have hΓ:Γ'=Γ:=hr
  subst hΓ;rw[hn];refine⟨fun _=>(hs Y w g hw).mono fun u w' ⟨h1,h2⟩=>⟨Γ',rfl,h1,h2⟩,fun hf=>?_⟩
  rw[M5 hg]at hf;cases hf
 ·simp only[Mt.next,hn];exact h
theorem eS{c:Nat}{F:Fr→List A7}(F':Fr→List A7)
  (hs:∀g w Y,Wd Γ (F (D6 (stab.getD c []) g C6)++(K++Y)) w→U6 PP P o (D6 stab.flatten g ρ) w fun u w'=>(Q6 stab o.dst=false→u=v)∧Wd Γ (F' (D6 (stab.getD c []) (C3 g o.dst u) C6)++(K++Y)) w')
  (h:MSwE PP (mV P n ops Γ K wr tc stab) Q (i+1) rest ⟨C3 ρ o.dst v,G9 M c F'⟩) (hM:M c=F:=by first|exact A6|exact Mw|exact y4|exact((A1 (by decide)).trans A6)|exact rfl) (hw0:wr.getD i []=[c]:=by exact rfl) (ht:tc.getD i []=[c]:=by exact rfl) (hg:o.guard=none:=by exact rfl) :
  MSwE PP (mV P n ops Γ K wr tc stab) Q i (o::rest) ⟨ρ,M⟩:=by
 refine eM _ (fun Y w g hw=>?_) h hw0 hg
 rw[R4 ht,hM]at hw;refine(hs g w Y hw.swapApp).mono ?_
 rintro u w' ⟨h2,h3⟩
 refine⟨?_,h2⟩
 rw[R4 ht,A6];exact h3.swapApp
theorem GZ{T T':Type}{c dd f:Nat}{args:List Operand}{tys:Array TypeId}{ty:TypeId}{pos:String}{es:Array Edge}{vs:List Value}{φ:T→Fr→Prop}{R:T→List A7}[B5 P f](val:T'→Value)(R':T'→List A7)
  (hcall:∀t Z w,Wd Γ (R t++Z) w→Calls P f vs.toArray w (Ends (fun u w'=>∃t':T',u=val t'∧Wd Γ (R' t'++Z) w') PP))
  (h:MSwE PP (mV P n ops Γ K wr tc stab) Q (i+1) rest ⟨C3 ρ (some dd) undef,G9 M c (L3 (fun (t:T') g=>g dd=val t) R')⟩)
  (hw0:wr.getD i []=[c]:=by exact rfl) (ht:tc.getD i []=[c]:=by exact rfl) (hM:M c=L3 φ R:=by first|exact A6|exact Mw|exact y4|exact((A1 (by decide)).trans A6)|exact((A1 (by decide)).trans y4)|exact rfl)
  (hs:(stab.getD c []).contains dd=true:=by exact rfl) (hfr:Q6 stab (some dd)=true:=by exact rfl) (ha:∀g,EvL (D6 stab.flatten g ρ) args vs:=by intro g;exact r8) :
  MSwE PP (mV P n ops Γ K wr tc stab) Q i (⟨some dd,.call { callee:=.value (.func f),args:=args.toArray,argTypes:=tys },ty,pos,es,none⟩::rest) ⟨ρ,M⟩:=
 eS (v:=undef) (L3 (fun (t:T') g=>g dd=val t) R') (fun g w Y hw=>by
  obtain⟨t,-,hw⟩:=G3 hw
  have hr:(execOp (ev (D6 stab.flatten g ρ)) ⟨some dd,.call { callee:=.value (.func f),args:=args.toArray,argTypes:=tys },ty,pos,es,none⟩).run P w=.ok (.enter f vs.toArray) w:=by
   simp only[execOp,resolve,(ha g).eqA,ev,Deferred.ofValue,Sem.run_bind,Sem.run_pure,Result.andThen_ok,invoke]
   simp[M0]
  unfold U6;rw[hr];refine(hcall t _ _ hw).mono ?_
  intro e w' he;refine he.mono ?_ fun ch w h=>h
  rintro u w' ⟨t',rfl,hw'⟩
  refine⟨fun hh=>(by rw[hfr]at hh;cases hh),L8 t' ?_ hw'⟩
  rw[J7 (by simpa using hs)];exact upd_same _ _ _) h hM hw0 ht rfl
theorem NT{id:Nat}{l:List Oper}{QQ:Exit→Fr→World→Prop}{w:World}(PP:List PanicEntry→World→Prop)(K:List A7)(M:List (Fr→List A7))(wr tc stab:List (List Nat))(hw:Wd Γ (K++(List.range stab.length).flatMap fun x=>(ML M) x (D6 (stab.getD x []) ρ C6)) w)
  (hPP:∀ch ρ w,PP ch w→QQ (.panic ch) ρ w)
  (h:MSwE PP (mV P n l Γ K wr tc stab) (fun ρ w=>QQ .normal ρ w) 0 l ⟨ρ,ML M⟩) (hm:P.follows .mixedOrders=true:=by kernel_rfl) (hk:M4 n l wr tc stab=true:=by kernel_rfl):W P n (.region id l.toArray true) QQ ρ w:=
 NB K (ML M) wr tc stab true hm hk hPP hw h
theorem noCell{L:List Nat}{c:Nat}{w:World}{Y:List A7}{g:Fr}{N:Nat→List Nat}{φ:Empty→Fr→Prop}{R:Empty→List A7}(hc:c∈L)(hM:M c=L3 φ R)(hw:Wd Γ (K++((L.flatMap fun x=>M x (D6 (N x) g C6))++Y)) w):False:=by
 obtain⟨l1,l2,rfl⟩:=List.append_of_mem hc
 rw[List.flatMap_append,List.flatMap_cons,hM]at hw;have hw:Wd Γ (L3 φ R (D6 (N c) g C6)++(K++((l1.flatMap fun x=>M x (D6 (N x) g C6))++((l2.flatMap fun x=>M x (D6 (N x) g C6))++Y)))) w:=hw.perm (by
  rw[List.append_assoc,List.append_assoc];exact(List.Perm.append_left K (List.perm_append_comm_assoc _ _ _)).trans (List.perm_append_comm_assoc _ _ _))
 obtain⟨t,-,-⟩:=G3 hw
 exact t.elim
theorem Hh{c:Nat}{φ:Empty→Fr→Prop}{R:Empty→List A7}(h:MSwE PP (mV P n ops Γ K wr tc stab) Q (i+1) rest ⟨C3 ρ o.dst undef,M⟩)(hM:M c=L3 φ R:=by first|exact A6|exact rfl)(ht:(tc.getD i []).contains c=true:=by exact rfl) :
  MSwE PP (mV P n ops Γ K wr tc stab) Q i (o::rest) ⟨ρ,M⟩:=by
 have hn:Mt.nxt (mV P n ops Γ K wr tc stab) i ⟨ρ,M⟩ ⟨undef,M⟩=M:=by
  funext x;simp only[Mt.nxt];cases ((mV P n ops Γ K wr tc stab).w i).contains x <;> rfl
 refine⟨⟨undef,M⟩,⟨fun Γ' Y w g hr hw=>?_⟩,?_⟩
 ·exact(noCell (L:=tc.getD i []) (N:=fun x=>stab.getD x []) (by simpa using ht) hM hw).elim
 ·simp only[Mt.next,hn];exact h
theorem DJ{c:Nat}{φ:Empty→Fr→Prop}{R:Empty→List A7}(hM:M c=L3 φ R:=by first|exact A6|exact rfl)(hl:(List.range stab.length).contains c=true:=by exact rfl):MSwE PP (mV P n ops Γ K wr tc stab) Q i [] ⟨ρ,M⟩:=fun Γ' w g hr hw=>by
 refine(noCell (L:=List.range stab.length) (N:=fun x=>stab.getD x []) (Y:=[]) (K:=K) (Γ:=Γ') (w:=w) (g:=g) (by simpa using hl) hM ?_).elim
 rw[List.append_nil];exact hw
theorem BD{id:Nat}{l:List Oper}{QQ:Exit→Fr→World→Prop}{w:World}(PP:List PanicEntry→World→Prop)(K X0 X1 X2:List A7)(N1 N2:List Nat)(wr tc:List (List Nat))(hw:Wd Γ (K++(X0++(X1++X2))) w)
  (hPP:∀ch ρ w,PP ch w→QQ (.panic ch) ρ w)
  (h:MSwE PP (mV P n l Γ K wr tc [[],N1,N2]) (fun ρ w=>QQ .normal ρ w) 0 l ⟨ρ,ML [fun _=>X0,L3 (T:=Unit) (fun _ _=>True) (fun _=>X1),L3 (T:=Unit) (fun _ _=>True) (fun _=>X2)]⟩)
  (hm:P.follows .mixedOrders=true:=by kernel_rfl) (hk:M4 n l wr tc [[],N1,N2]=true:=by kernel_rfl):W P n (.region id l.toArray true) QQ ρ w:=
 NT PP K [fun _=>X0,L3 (T:=Unit) (fun _ _=>True) (fun _=>X1),L3 (T:=Unit) (fun _ _=>True) (fun _=>X2)] wr tc [[],N1,N2] (by
  show Wd Γ (K++(X0++(L3 (T:=Unit) (fun _ _=>True) (fun _=>X1) (D6 N1 ρ C6)++(L3 (T:=Unit) (fun _ _=>True) (fun _=>X2) (D6 N2 ρ C6)++[])))) w
  rw[List.append_nil];have h1:Wd Γ (X1++(X2++(K++X0))) w:=hw.perm (by
   rw[←List.append_assoc,←List.append_assoc X1];exact List.perm_append_comm)
  have h2:Wd Γ (L3 (T:=Unit) (fun _ _=>True) (fun _=>X1) (D6 N1 ρ C6)++(X2++(K++X0))) w:=L8 () trivial h1
  have h3:Wd Γ (X2++(L3 (T:=Unit) (fun _ _=>True) (fun _=>X1) (D6 N1 ρ C6)++(K++X0))) w:=h2.perm (List.perm_append_comm_assoc _ _ _)
  have h4:Wd Γ (L3 (T:=Unit) (fun _ _=>True) (fun _=>X2) (D6 N2 ρ C6)++(L3 (T:=Unit) (fun _ _=>True) (fun _=>X1) (D6 N1 ρ C6)++(K++X0))) w:=L8 () trivial h3
  have h5:Wd Γ (L3 (T:=Unit) (fun _ _=>True) (fun _=>X1) (D6 N1 ρ C6)++(L3 (T:=Unit) (fun _ _=>True) (fun _=>X2) (D6 N2 ρ C6)++(K++X0))) w:=h4.perm (List.perm_append_comm_assoc _ _ _)
  exact h5.perm (by
   rw[←List.append_assoc,←List.append_assoc K];exact List.perm_append_comm)) hPP h hm hk
end
end Mk
end
