/- Texts of this proof, one behind another. -/
import Derived.Test.YtfoggcgogafocaaGreatM3
set_option linter.unusedVariables false
set_option linter.unusedSimpArgs false
section
open Go Mk
open Go.ChangeShapes Go.WideShapes Go.ChangeAt Go.RowKit
namespace Go.Proofs.YtfoggcgogafocaaGreat
def wideI(n:Int):Prop:=0≤n∧n≤18446744073709551615
section
variable {H:Type}{en:TypeId×Value→H}{W W':World}{base:Nat}{sp:Nat→Bool}{held:Bool}{S:List Res}
theorem read_slice{α:Type}[Inhabited α]{F:α→List Value}{p:α→Prop}{t e sz:Nat}(hc:Tryz.prog.cellsOf e=sz)(h0:0<sz)(hF:∀x,(F x).length=sz)(ht:Tryz.prog.underlying t=some (.slice e))
  (hel:∀ {n:Nat} {cs:List Value} {y:DataW H×List MemPlace},DataW.trod en Tryz.prog W base sp held n e cs=some y→∃x:α,cs=F x∧p x)
  {n:Nat} {v:Value} {y:DataW H×List MemPlace} (h:DataW.trod en Tryz.prog W base sp held n t [v]=some y):∃xs:List α,RepS (allG W) v sz (xs.map F)∧∀x∈xs,p x:=by
 rcases Deep.open_slice ht h with⟨h0,-⟩|⟨a,len,cap,m,k,D,Pl,h1,-,hlc,hcm,hm,-,hel2⟩
 ·cases h0
  exact⟨[],RepS.nil,fun x hx=>by cases hx⟩
 ·cases h1
  have hlm:len≤m:=by rw[hm];split <;> omega
  have hx:∀i,i<len→∃x:α,p x∧∀j u,(F x)[j]? = some u→W.cell? (a.add (i*sz+j))=some u:=fun i hi=>by
   obtain⟨cs',h1,h2⟩:=hel2 i (by omega)
   rw[hc]at h1;obtain⟨-,hl,hat⟩:=World.cells?_some h1
   obtain⟨x,rfl,hp⟩:=hel h2
   refine⟨x,hp,fun j u hu=>?_⟩
   have hj:j<sz:=by rw[←hl];exact(List.getElem?_eq_some_iff.1 hu).1
   have:=hat j hj
   rw[hu,Go.Deep.add_add]at this;exact this
  obtain⟨f,hf⟩:∃f:Nat→α,∀i,i<len→p (f i)∧∀j u,(F (f i))[j]? = some u→W.cell? (a.add (i*sz+j))=some u:=by
   refine⟨fun i=>if hi:i<len then (hx i hi).choose else default,fun i hi=>?_⟩
   simp only[hi,dif_pos]
   exact(hx i hi).choose_spec
  refine⟨(List.range len).map f,?_,fun x hx=>?_⟩
  ·unfold RepS;refine⟨fun r hr=>?_,some a,len,cap,rfl,by simp,hlc,hcm,fun hpos=>?_⟩
   ·obtain⟨x,-,rfl⟩:=List.mem_map.1 hr
    exact hF x
   ·have hpos:0<len:=by simpa using hpos
    obtain⟨u0,hu0⟩:∃u,(F (f 0))[0]? = some u:=⟨_,List.getElem?_eq_getElem (by rw[hF];exact h0)⟩
    have h00:=(hf 0 hpos).2 0 u0 hu0
    obtain⟨g,o,spt⟩:=a;have h01:W.cell? ⟨g,o,spt⟩=some u0:=by
     rw[Nat.zero_mul]at h00;simpa[Addr.add] using h00
    unfold World.cell? at h01
    cases hg:W.heap[g]? with
    | none=>rw[hg]at h01;simp at h01
    | some ob=>
     rw[hg]at h01;cases ob with
     | cells cur e fr=>
      cases spt with
      | some q=>simp at h01
      | none=>
       refine⟨g,o,cur,e,fr,rfl,hg,fun j u hj=>?_⟩
       obtain⟨i,r,row,h1,h2,h3⟩:=flat_inv (sz:=sz) (rows:=((List.range len).map f).map F) (fun r hr=>by
        obtain⟨x,-,rfl⟩:=List.mem_map.1 hr
        exact hF x) hj
       rw[List.getElem?_map,List.getElem?_map]at h1;have hi:i<len:=by
        by_cases hi:i<len
        ·exact hi
        ·rw[List.getElem?_eq_none (by simpa using hi)]at h1;simp at h1
       rw[List.getElem?_range hi]at h1;simp only[Option.map_some,Option.some.injEq]at h1
       subst h1;have h4:W.cell? ⟨g,o+(i*sz+r),none⟩=some u:=by
        have h5:=(hf i hi).2 r u h2
        rwa [show Addr.add ⟨g,o,none⟩ (i*sz+r)=⟨g,o+(i*sz+r),none⟩ from by
         unfold Addr.add;by_cases h0:i*sz+r=0
         ·rw[if_pos h0,h0];rfl
         ·rw[if_neg h0]]at h5
       unfold World.cell? at h4
       rw[hg]at h4;rw[h3];simpa using h4
     | _=>simp at h01
  ·obtain⟨i,hi,rfl⟩:=List.mem_map.1 hx
   exact(hf i (List.mem_range.1 hi)).1
theorem list3:∀cs:List Value,cs.length=3→∃a b c,cs=[a,b,c]
 | [a,b,c],_=>⟨a,b,c,rfl⟩
end
section
variable {H:Type}{en:TypeId×Value→H}{W W':World}{base:Nat}{sp:Nat→Bool}{held:Bool}{S:List Res}
def okI(n:Int):Prop:=-9223372036854775808≤n∧n≤9223372036854775807
theorem list4:∀cs:List Value,cs.length=4→∃a b c d,cs=[a,b,c,d]
 | [a,b,c,d],_=>⟨a,b,c,d,rfl⟩
theorem list5:∀cs:List Value,cs.length=5→∃a b c d e,cs=[a,b,c,d,e]
 | [a,b,c,d,e],_=>⟨a,b,c,d,e,rfl⟩
theorem list6:∀cs:List Value,cs.length=6→∃a b c d e f,cs=[a,b,c,d,e,f]
 | [a,b,c,d,e,f],_=>⟨a,b,c,d,e,f,rfl⟩
theorem read_i{n:Nat}{cs:List Value}{y:DataW H×List MemPlace}(h:DataW.trod en Tryz.prog W base sp held n 3 cs=some y):∃x:Int,cs=[.int .i64 x]∧okI x:=by
 obtain⟨a,ha,-,hw⟩:=DataW.trod_int Tryz.underlying3 h
 subst ha;refine⟨a,rfl,?_⟩
 simp only[Lit.wf,IntKind.min,IntKind.max,IntKind.bits,IntKind.signed]at hw
 simpa[okI] using hw
theorem read_u{n:Nat}{cs:List Value}{y:DataW H×List MemPlace}(h:DataW.trod en Tryz.prog W base sp held n 80 cs=some y):∃x:Int,cs=[.int .u64 x]∧wideI x:=by
 obtain⟨a,ha,-,hw⟩:=DataW.trod_int Tryz.underlying80 h
 subst ha;refine⟨a,rfl,?_⟩
 simp only[Lit.wf,IntKind.min,IntKind.max,IntKind.bits,IntKind.signed]at hw
 simpa[wideI] using hw
theorem read_s{n:Nat}{cs:List Value}{y:DataW H×List MemPlace}(h:DataW.trod en Tryz.prog W base sp held n 9 cs=some y):∃x:ByteArray,cs=[.string x]:=by
 obtain⟨s,hs,-,-⟩:=DataW.trod_string Tryz.underlying9 h
 exact⟨s,hs⟩
theorem read_intsK{n:Nat}{v:Value}{y:DataW H×List MemPlace}(h:DataW.trod en Tryz.prog W base sp held n 22 [v]=some y):∃xs:List Int,RepS (allG W) v 1 (intRows xs)∧∀x∈xs,okI x:=
 read_slice (F:=fun x:Int=>[.int .i64 x]) (sz:=1) (e:=3) (by kernel_rfl) (by decide) (fun x=>rfl) Tryz.underlying22 (fun h=>read_i h) h
theorem read_core{n:Nat}{cs:List Value}{y:DataW H×List MemPlace}(h:DataW.trod en Tryz.prog W base sp held n 37 cs=some y):∃x:CoreT,cs=enc x∧(okI x.ID∧okI x.Width∧okI x.Node∧okI x.Speed):=by
 obtain⟨xs,k,-,-,hl,hxl,hf⟩:=DataW.trod_struct Tryz.underlying37 h
 have hl:cs.length=4:=hl.trans (by kernel_rfl)
 obtain⟨c0,c1,c2,c3,rfl⟩:=list4 cs hl
 have hxl:xs.length=4:=hxl
 have e0:Tryz.prog.cellsOf 3=1:=by kernel_rfl
 have g0:DataW.trod en Tryz.prog W base sp held k 3 (([c0,c1,c2,c3].drop 0).take (Tryz.prog.cellsOf 3))=xs[0]?:=hf 0 { name:= "ID",type:=3,offset:=0,embedded:=false,tag:= "",pkgPath:= "",byteOffset:=0 } rfl
 rw[e0,List.getElem?_eq_getElem (by omega)]at g0
 have e1:Tryz.prog.cellsOf 3=1:=by kernel_rfl
 have g1:DataW.trod en Tryz.prog W base sp held k 3 (([c0,c1,c2,c3].drop 1).take (Tryz.prog.cellsOf 3))=xs[1]?:=hf 1 { name:= "Width",type:=3,offset:=1,embedded:=false,tag:= "",pkgPath:= "",byteOffset:=8 } rfl
 rw[e1,List.getElem?_eq_getElem (by omega)]at g1
 have e2:Tryz.prog.cellsOf 3=1:=by kernel_rfl
 have g2:DataW.trod en Tryz.prog W base sp held k 3 (([c0,c1,c2,c3].drop 2).take (Tryz.prog.cellsOf 3))=xs[2]?:=hf 2 { name:= "Node",type:=3,offset:=2,embedded:=false,tag:= "",pkgPath:= "",byteOffset:=16 } rfl
 rw[e2,List.getElem?_eq_getElem (by omega)]at g2
 have e3:Tryz.prog.cellsOf 3=1:=by kernel_rfl
 have g3:DataW.trod en Tryz.prog W base sp held k 3 (([c0,c1,c2,c3].drop 3).take (Tryz.prog.cellsOf 3))=xs[3]?:=hf 3 { name:= "Speed",type:=3,offset:=3,embedded:=false,tag:= "",pkgPath:= "",byteOffset:=24 } rfl
 rw[e3,List.getElem?_eq_getElem (by omega)]at g3
 obtain⟨x0,h0,i0⟩:=read_i g0
 obtain⟨x1,h1,i1⟩:=read_i g1
 obtain⟨x2,h2,i2⟩:=read_i g2
 obtain⟨x3,h3,i3⟩:=read_i g3
 simp only[List.drop_zero,List.take_succ_cons,List.take_zero,List.drop_succ_cons,List.cons.injEq,and_true]at h0
 subst h0;simp only[List.drop_zero,List.take_succ_cons,List.take_zero,List.drop_succ_cons,List.cons.injEq,and_true]at h1
 subst h1;simp only[List.drop_zero,List.take_succ_cons,List.take_zero,List.drop_succ_cons,List.cons.injEq,and_true]at h2
 subst h2;simp only[List.drop_zero,List.take_succ_cons,List.take_zero,List.drop_succ_cons,List.cons.injEq,and_true]at h3
 subst h3;exact⟨⟨x0,x1,x2,x3⟩,rfl,i0,i1,i2,i3⟩
theorem read_link{n:Nat}{cs:List Value}{y:DataW H×List MemPlace}(h:DataW.trod en Tryz.prog W base sp held n 79 cs=some y):∃x:LinkT,cs=enc x∧(okI x.A∧okI x.B∧okI x.Latency):=by
 obtain⟨xs,k,-,-,hl,hxl,hf⟩:=DataW.trod_struct Tryz.underlying79 h
 have hl:cs.length=3:=hl.trans (by kernel_rfl)
 obtain⟨c0,c1,c2,rfl⟩:=list3 cs hl
 have hxl:xs.length=3:=hxl
 have e0:Tryz.prog.cellsOf 3=1:=by kernel_rfl
 have g0:DataW.trod en Tryz.prog W base sp held k 3 (([c0,c1,c2].drop 0).take (Tryz.prog.cellsOf 3))=xs[0]?:=hf 0 { name:= "A",type:=3,offset:=0,embedded:=false,tag:= "",pkgPath:= "",byteOffset:=0 } rfl
 rw[e0,List.getElem?_eq_getElem (by omega)]at g0
 have e1:Tryz.prog.cellsOf 3=1:=by kernel_rfl
 have g1:DataW.trod en Tryz.prog W base sp held k 3 (([c0,c1,c2].drop 1).take (Tryz.prog.cellsOf 3))=xs[1]?:=hf 1 { name:= "B",type:=3,offset:=1,embedded:=false,tag:= "",pkgPath:= "",byteOffset:=8 } rfl
 rw[e1,List.getElem?_eq_getElem (by omega)]at g1
 have e2:Tryz.prog.cellsOf 3=1:=by kernel_rfl
 have g2:DataW.trod en Tryz.prog W base sp held k 3 (([c0,c1,c2].drop 2).take (Tryz.prog.cellsOf 3))=xs[2]?:=hf 2 { name:= "Latency",type:=3,offset:=2,embedded:=false,tag:= "",pkgPath:= "",byteOffset:=16 } rfl
 rw[e2,List.getElem?_eq_getElem (by omega)]at g2
 obtain⟨x0,h0,i0⟩:=read_i g0
 obtain⟨x1,h1,i1⟩:=read_i g1
 obtain⟨x2,h2,i2⟩:=read_i g2
 simp only[List.drop_zero,List.take_succ_cons,List.take_zero,List.drop_succ_cons,List.cons.injEq,and_true]at h0
 subst h0;simp only[List.drop_zero,List.take_succ_cons,List.take_zero,List.drop_succ_cons,List.cons.injEq,and_true]at h1
 subst h1;simp only[List.drop_zero,List.take_succ_cons,List.take_zero,List.drop_succ_cons,List.cons.injEq,and_true]at h2
 subst h2;exact⟨⟨x0,x1,x2⟩,rfl,i0,i1,i2⟩
theorem read_mem{n:Nat}{cs:List Value}{y:DataW H×List MemPlace}(h:DataW.trod en Tryz.prog W base sp held n 83 cs=some y):∃x:MemT,cs=enc x∧(wideI x.Base∧wideI x.Size∧okI x.Node∧okI x.Latency):=by
 obtain⟨xs,k,-,-,hl,hxl,hf⟩:=DataW.trod_struct Tryz.underlying83 h
 have hl:cs.length=5:=hl.trans (by kernel_rfl)
 obtain⟨c0,c1,c2,c3,c4,rfl⟩:=list5 cs hl
 have hxl:xs.length=5:=hxl
 have e0:Tryz.prog.cellsOf 9=1:=by kernel_rfl
 have g0:DataW.trod en Tryz.prog W base sp held k 9 (([c0,c1,c2,c3,c4].drop 0).take (Tryz.prog.cellsOf 9))=xs[0]?:=hf 0 { name:= "Name",type:=9,offset:=0,embedded:=false,tag:= "",pkgPath:= "",byteOffset:=0 } rfl
 rw[e0,List.getElem?_eq_getElem (by omega)]at g0
 have e1:Tryz.prog.cellsOf 80=1:=by kernel_rfl
 have g1:DataW.trod en Tryz.prog W base sp held k 80 (([c0,c1,c2,c3,c4].drop 1).take (Tryz.prog.cellsOf 80))=xs[1]?:=hf 1 { name:= "Base",type:=80,offset:=1,embedded:=false,tag:= "",pkgPath:= "",byteOffset:=16 } rfl
 rw[e1,List.getElem?_eq_getElem (by omega)]at g1
 have e2:Tryz.prog.cellsOf 80=1:=by kernel_rfl
 have g2:DataW.trod en Tryz.prog W base sp held k 80 (([c0,c1,c2,c3,c4].drop 2).take (Tryz.prog.cellsOf 80))=xs[2]?:=hf 2 { name:= "Size",type:=80,offset:=2,embedded:=false,tag:= "",pkgPath:= "",byteOffset:=24 } rfl
 rw[e2,List.getElem?_eq_getElem (by omega)]at g2
 have e3:Tryz.prog.cellsOf 3=1:=by kernel_rfl
 have g3:DataW.trod en Tryz.prog W base sp held k 3 (([c0,c1,c2,c3,c4].drop 3).take (Tryz.prog.cellsOf 3))=xs[3]?:=hf 3 { name:= "Node",type:=3,offset:=3,embedded:=false,tag:= "",pkgPath:= "",byteOffset:=32 } rfl
 rw[e3,List.getElem?_eq_getElem (by omega)]at g3
 have e4:Tryz.prog.cellsOf 3=1:=by kernel_rfl
 have g4:DataW.trod en Tryz.prog W base sp held k 3 (([c0,c1,c2,c3,c4].drop 4).take (Tryz.prog.cellsOf 3))=xs[4]?:=hf 4 { name:= "Latency",type:=3,offset:=4,embedded:=false,tag:= "",pkgPath:= "",byteOffset:=40 } rfl
 rw[e4,List.getElem?_eq_getElem (by omega)]at g4
 obtain⟨x0,h0⟩:=read_s g0
 obtain⟨x1,h1,i1⟩:=read_u g1
 obtain⟨x2,h2,i2⟩:=read_u g2
 obtain⟨x3,h3,i3⟩:=read_i g3
 obtain⟨x4,h4,i4⟩:=read_i g4
 simp only[List.drop_zero,List.take_succ_cons,List.take_zero,List.drop_succ_cons,List.cons.injEq,and_true]at h0
 subst h0;simp only[List.drop_zero,List.take_succ_cons,List.take_zero,List.drop_succ_cons,List.cons.injEq,and_true]at h1
 subst h1;simp only[List.drop_zero,List.take_succ_cons,List.take_zero,List.drop_succ_cons,List.cons.injEq,and_true]at h2
 subst h2;simp only[List.drop_zero,List.take_succ_cons,List.take_zero,List.drop_succ_cons,List.cons.injEq,and_true]at h3
 subst h3;simp only[List.drop_zero,List.take_succ_cons,List.take_zero,List.drop_succ_cons,List.cons.injEq,and_true]at h4
 subst h4;exact⟨⟨x0,x1,x2,x3,x4⟩,rfl,i1,i2,i3,i4⟩
theorem read_dev{n:Nat}{cs:List Value}{y:DataW H×List MemPlace}(h:DataW.trod en Tryz.prog W base sp held n 85 cs=some y):∃x:DevT,cs=enc x∧(okI x.Node∧okI x.IRQ∧wideI x.Base∧wideI x.Size):=by
 obtain⟨xs,k,-,-,hl,hxl,hf⟩:=DataW.trod_struct Tryz.underlying85 h
 have hl:cs.length=5:=hl.trans (by kernel_rfl)
 obtain⟨c0,c1,c2,c3,c4,rfl⟩:=list5 cs hl
 have hxl:xs.length=5:=hxl
 have e0:Tryz.prog.cellsOf 9=1:=by kernel_rfl
 have g0:DataW.trod en Tryz.prog W base sp held k 9 (([c0,c1,c2,c3,c4].drop 0).take (Tryz.prog.cellsOf 9))=xs[0]?:=hf 0 { name:= "Name",type:=9,offset:=0,embedded:=false,tag:= "",pkgPath:= "",byteOffset:=0 } rfl
 rw[e0,List.getElem?_eq_getElem (by omega)]at g0
 have e1:Tryz.prog.cellsOf 3=1:=by kernel_rfl
 have g1:DataW.trod en Tryz.prog W base sp held k 3 (([c0,c1,c2,c3,c4].drop 1).take (Tryz.prog.cellsOf 3))=xs[1]?:=hf 1 { name:= "Node",type:=3,offset:=1,embedded:=false,tag:= "",pkgPath:= "",byteOffset:=16 } rfl
 rw[e1,List.getElem?_eq_getElem (by omega)]at g1
 have e2:Tryz.prog.cellsOf 3=1:=by kernel_rfl
 have g2:DataW.trod en Tryz.prog W base sp held k 3 (([c0,c1,c2,c3,c4].drop 2).take (Tryz.prog.cellsOf 3))=xs[2]?:=hf 2 { name:= "IRQ",type:=3,offset:=2,embedded:=false,tag:= "",pkgPath:= "",byteOffset:=24 } rfl
 rw[e2,List.getElem?_eq_getElem (by omega)]at g2
 have e3:Tryz.prog.cellsOf 80=1:=by kernel_rfl
 have g3:DataW.trod en Tryz.prog W base sp held k 80 (([c0,c1,c2,c3,c4].drop 3).take (Tryz.prog.cellsOf 80))=xs[3]?:=hf 3 { name:= "Base",type:=80,offset:=3,embedded:=false,tag:= "",pkgPath:= "",byteOffset:=32 } rfl
 rw[e3,List.getElem?_eq_getElem (by omega)]at g3
 have e4:Tryz.prog.cellsOf 80=1:=by kernel_rfl
 have g4:DataW.trod en Tryz.prog W base sp held k 80 (([c0,c1,c2,c3,c4].drop 4).take (Tryz.prog.cellsOf 80))=xs[4]?:=hf 4 { name:= "Size",type:=80,offset:=4,embedded:=false,tag:= "",pkgPath:= "",byteOffset:=40 } rfl
 rw[e4,List.getElem?_eq_getElem (by omega)]at g4
 obtain⟨x0,h0⟩:=read_s g0
 obtain⟨x1,h1,i1⟩:=read_i g1
 obtain⟨x2,h2,i2⟩:=read_i g2
 obtain⟨x3,h3,i3⟩:=read_u g3
 obtain⟨x4,h4,i4⟩:=read_u g4
 simp only[List.drop_zero,List.take_succ_cons,List.take_zero,List.drop_succ_cons,List.cons.injEq,and_true]at h0
 subst h0;simp only[List.drop_zero,List.take_succ_cons,List.take_zero,List.drop_succ_cons,List.cons.injEq,and_true]at h1
 subst h1;simp only[List.drop_zero,List.take_succ_cons,List.take_zero,List.drop_succ_cons,List.cons.injEq,and_true]at h2
 subst h2;simp only[List.drop_zero,List.take_succ_cons,List.take_zero,List.drop_succ_cons,List.cons.injEq,and_true]at h3
 subst h3;simp only[List.drop_zero,List.take_succ_cons,List.take_zero,List.drop_succ_cons,List.cons.injEq,and_true]at h4
 subst h4;exact⟨⟨x0,x1,x2,x3,x4⟩,rfl,i1,i2,i3,i4⟩
theorem read_cache{n:Nat}{cs:List Value}{y:DataW H×List MemPlace}(h:DataW.trod en Tryz.prog W base sp held n 89 cs=some y):∃x:CacheH,cs=cC x∧(COk (allG W) x∧okI x.Level∧okI x.Line∧wideI x.Size∧∀v∈x.Cores,okI v):=by
 obtain⟨xs,k,-,-,hl,hxl,hf⟩:=DataW.trod_struct Tryz.underlying89 h
 have hl:cs.length=5:=hl.trans (by kernel_rfl)
 obtain⟨c0,c1,c2,c3,c4,rfl⟩:=list5 cs hl
 have hxl:xs.length=5:=hxl
 have e0:Tryz.prog.cellsOf 9=1:=by kernel_rfl
 have g0:DataW.trod en Tryz.prog W base sp held k 9 (([c0,c1,c2,c3,c4].drop 0).take (Tryz.prog.cellsOf 9))=xs[0]?:=hf 0 { name:= "Name",type:=9,offset:=0,embedded:=false,tag:= "",pkgPath:= "",byteOffset:=0 } rfl
 rw[e0,List.getElem?_eq_getElem (by omega)]at g0
 have e1:Tryz.prog.cellsOf 3=1:=by kernel_rfl
 have g1:DataW.trod en Tryz.prog W base sp held k 3 (([c0,c1,c2,c3,c4].drop 1).take (Tryz.prog.cellsOf 3))=xs[1]?:=hf 1 { name:= "Level",type:=3,offset:=1,embedded:=false,tag:= "",pkgPath:= "",byteOffset:=16 } rfl
 rw[e1,List.getElem?_eq_getElem (by omega)]at g1
 have e2:Tryz.prog.cellsOf 3=1:=by kernel_rfl
 have g2:DataW.trod en Tryz.prog W base sp held k 3 (([c0,c1,c2,c3,c4].drop 2).take (Tryz.prog.cellsOf 3))=xs[2]?:=hf 2 { name:= "Line",type:=3,offset:=2,embedded:=false,tag:= "",pkgPath:= "",byteOffset:=24 } rfl
 rw[e2,List.getElem?_eq_getElem (by omega)]at g2
 have e3:Tryz.prog.cellsOf 80=1:=by kernel_rfl
 have g3:DataW.trod en Tryz.prog W base sp held k 80 (([c0,c1,c2,c3,c4].drop 3).take (Tryz.prog.cellsOf 80))=xs[3]?:=hf 3 { name:= "Size",type:=80,offset:=3,embedded:=false,tag:= "",pkgPath:= "",byteOffset:=32 } rfl
 rw[e3,List.getElem?_eq_getElem (by omega)]at g3
 have e4:Tryz.prog.cellsOf 22=1:=by kernel_rfl
 have g4:DataW.trod en Tryz.prog W base sp held k 22 (([c0,c1,c2,c3,c4].drop 4).take (Tryz.prog.cellsOf 22))=xs[4]?:=hf 4 { name:= "Cores",type:=22,offset:=4,embedded:=false,tag:= "",pkgPath:= "",byteOffset:=40 } rfl
 rw[e4,List.getElem?_eq_getElem (by omega)]at g4
 obtain⟨x0,h0⟩:=read_s g0
 obtain⟨x1,h1,i1⟩:=read_i g1
 obtain⟨x2,h2,i2⟩:=read_i g2
 obtain⟨x3,h3,i3⟩:=read_u g3
 have g4:DataW.trod en Tryz.prog W base sp held k 22 [c4]=some _:=g4
 obtain⟨x4,r4,i4⟩:=read_intsK g4
 obtain⟨va,vm,vc,rfl,-⟩:=r4.shape;simp only[List.drop_zero,List.take_succ_cons,List.take_zero,List.drop_succ_cons,List.cons.injEq,and_true]at h0
 subst h0;simp only[List.drop_zero,List.take_succ_cons,List.take_zero,List.drop_succ_cons,List.cons.injEq,and_true]at h1
 subst h1;simp only[List.drop_zero,List.take_succ_cons,List.take_zero,List.drop_succ_cons,List.cons.injEq,and_true]at h2
 subst h2;simp only[List.drop_zero,List.take_succ_cons,List.take_zero,List.drop_succ_cons,List.cons.injEq,and_true]at h3
 subst h3;exact⟨⟨x0,x1,x2,x3,va,vm,vc,x4⟩,rfl,r4,i1,i2,i3,i4⟩
instance:Inhabited CoreT:=⟨⟨0,0,0,0⟩⟩
structure HwIn64(H:HwT):Prop where
 c:∀x∈H.Cores,okI x.ID∧okI x.Width∧okI x.Node∧okI x.Speed
 h:∀x∈H.Caches,okI x.Level∧okI x.Line∧wideI x.Size∧∀v∈x.Cores,okI v
 l:∀x∈H.Links,okI x.A∧okI x.B∧okI x.Latency
 m:∀x∈H.Mems,wideI x.Base∧wideI x.Size∧okI x.Node∧okI x.Latency
 d:∀x∈H.Devs,okI x.Node∧okI x.IRQ∧wideI x.Base∧wideI x.Size
theorem HwIn64.memWide{H:HwT}(h:HwIn64 H):MemWide H:=fun x hx=>by have:=(h.m x hx).1;unfold wideI at this;unfold u64I;omega
set_option maxRecDepth 100000 in
theorem read_hwV{r:Go.Reach}{b:Nat}{v:Value}{d:DataW H}{pl:List MemPlace}(hk:Value.okWide Tryz.prog W r b 30 v)(h:DataW.Trod en Tryz.prog W base sp held 30 v d pl):∃H:HwT,HwQ (allG W) v H∧HwIn64 H:=by
 obtain⟨cs,rfl,-⟩:=okWide_struct Tryz.underlying30 hk
 obtain⟨n,h⟩:=h;have h:DataW.trod en Tryz.prog W base sp held n 30 cs.toList=some _:=h
 obtain⟨xs,k,-,-,hl,hxl,hf⟩:=DataW.trod_struct Tryz.underlying30 h
 have hl:cs.toList.length=6:=hl.trans (by kernel_rfl)
 obtain⟨c0,c1,c2,c3,c4,c5,hcs⟩:=list6 cs.toList hl
 have hxl:xs.length=6:=hxl
 rw[hcs]at hf;have e0:Tryz.prog.cellsOf 9=1:=by kernel_rfl
 have g0:DataW.trod en Tryz.prog W base sp held k 9 (([c0,c1,c2,c3,c4,c5].drop 0).take (Tryz.prog.cellsOf 9))=xs[0]?:=hf 0 { name:= "Name",type:=9,offset:=0,embedded:=false,tag:= "",pkgPath:= "",byteOffset:=0 } rfl
 rw[e0,List.getElem?_eq_getElem (by omega)]at g0
 have e1:Tryz.prog.cellsOf 24=1:=by kernel_rfl
 have g1:DataW.trod en Tryz.prog W base sp held k 24 (([c0,c1,c2,c3,c4,c5].drop 1).take (Tryz.prog.cellsOf 24))=xs[1]?:=hf 1 { name:= "Cores",type:=24,offset:=1,embedded:=false,tag:= "",pkgPath:= "",byteOffset:=16 } rfl
 rw[e1,List.getElem?_eq_getElem (by omega)]at g1
 have e2:Tryz.prog.cellsOf 25=1:=by kernel_rfl
 have g2:DataW.trod en Tryz.prog W base sp held k 25 (([c0,c1,c2,c3,c4,c5].drop 2).take (Tryz.prog.cellsOf 25))=xs[2]?:=hf 2 { name:= "Caches",type:=25,offset:=2,embedded:=false,tag:= "",pkgPath:= "",byteOffset:=40 } rfl
 rw[e2,List.getElem?_eq_getElem (by omega)]at g2
 have e3:Tryz.prog.cellsOf 26=1:=by kernel_rfl
 have g3:DataW.trod en Tryz.prog W base sp held k 26 (([c0,c1,c2,c3,c4,c5].drop 3).take (Tryz.prog.cellsOf 26))=xs[3]?:=hf 3 { name:= "Links",type:=26,offset:=3,embedded:=false,tag:= "",pkgPath:= "",byteOffset:=64 } rfl
 rw[e3,List.getElem?_eq_getElem (by omega)]at g3
 have e4:Tryz.prog.cellsOf 27=1:=by kernel_rfl
 have g4:DataW.trod en Tryz.prog W base sp held k 27 (([c0,c1,c2,c3,c4,c5].drop 4).take (Tryz.prog.cellsOf 27))=xs[4]?:=hf 4 { name:= "Memories",type:=27,offset:=4,embedded:=false,tag:= "",pkgPath:= "",byteOffset:=88 } rfl
 rw[e4,List.getElem?_eq_getElem (by omega)]at g4
 have e5:Tryz.prog.cellsOf 28=1:=by kernel_rfl
 have g5:DataW.trod en Tryz.prog W base sp held k 28 (([c0,c1,c2,c3,c4,c5].drop 5).take (Tryz.prog.cellsOf 28))=xs[5]?:=hf 5 { name:= "Devices",type:=28,offset:=5,embedded:=false,tag:= "",pkgPath:= "",byteOffset:=112 } rfl
 rw[e5,List.getElem?_eq_getElem (by omega)]at g5
 obtain⟨s,hs⟩:=read_s g0
 simp only[List.drop_zero,List.take_succ_cons,List.take_zero,List.cons.injEq,and_true]at hs
 subst hs;have g1:DataW.trod en Tryz.prog W base sp held k 24 [c1]=some _:=g1
 have g2:DataW.trod en Tryz.prog W base sp held k 25 [c2]=some _:=g2
 have g3:DataW.trod en Tryz.prog W base sp held k 26 [c3]=some _:=g3
 have g4:DataW.trod en Tryz.prog W base sp held k 27 [c4]=some _:=g4
 have g5:DataW.trod en Tryz.prog W base sp held k 28 [c5]=some _:=g5
 obtain⟨x1,r1,i1⟩:=read_slice (F:=fun x:CoreT=>enc x) (sz:=4) (e:=37) (by kernel_rfl) (by decide) (fun x=>rfl) Tryz.underlying24 (fun h=>read_core h) g1
 obtain⟨x2,r2,i2⟩:=read_slice (F:=cC) (sz:=5) (e:=89) (by kernel_rfl) (by decide) (fun x=>rfl) Tryz.underlying25 (fun h=>read_cache h) g2
 obtain⟨x3,r3,i3⟩:=read_slice (F:=fun x:LinkT=>enc x) (sz:=3) (e:=79) (by kernel_rfl) (by decide) (fun x=>rfl) Tryz.underlying26 (fun h=>read_link h) g3
 obtain⟨x4,r4,i4⟩:=read_slice (F:=fun x:MemT=>enc x) (sz:=5) (e:=83) (by kernel_rfl) (by decide) (fun x=>rfl) Tryz.underlying27 (fun h=>read_mem h) g4
 obtain⟨x5,r5,i5⟩:=read_slice (F:=fun x:DevT=>enc x) (sz:=5) (e:=85) (by kernel_rfl) (by decide) (fun x=>rfl) Tryz.underlying28 (fun h=>read_dev h) g5
 obtain⟨a1,n1,k1,rfl,-⟩:=r1.shape;obtain⟨a2,n2,k2,rfl,-⟩:=r2.shape;obtain⟨a3,n3,k3,rfl,-⟩:=r3.shape;obtain⟨a4,n4,k4,rfl,-⟩:=r4.shape;obtain⟨a5,n5,k5,rfl,-⟩:=r5.shape;refine⟨⟨s,x1,x2.map CacheH.T,x3,x4,x5⟩,⟨a1,n1,k1,a2,n2,k2,a3,n3,k3,a4,n4,k4,a5,n5,k5,x2,?_,rfl,fun c hc=>(i2 c hc).1,r1,r2,r3,r4,r5⟩,i1,fun x hx=>?_,i3,i4,i5⟩
 ·have:cs = #[.string s,.slice a1 n1 k1,.slice a2 n2 k2,.slice a3 n3 k3,.slice a4 n4 k4,.slice a5 n5 k5]:=by
   apply Array.toList_inj.1;exact hcs
  rw[this]
 ·obtain⟨c,hc,rfl⟩:=List.mem_map.1 hx
  exact(i2 c hc).2
end
end Go.Proofs.YtfoggcgogafocaaGreat
end
section
open Go
namespace Mk
attribute [local irreducible] Calls
section
variable {α β:Type}[DecidableEq α]
theorem aGet_cons'(a b:α)(v:β)(l:List (α×β)):aGet ((a,v)::l) b=if a=b then some v else aGet l b:=by
 unfold aGet aIx;by_cases h:a=b
 ·subst h;simp[List.findIdx?_cons]
 ·simp only[List.findIdx?_cons,decide_eq_true_eq,h,decide_false,Bool.false_eq_true,if_false]
  cases l.findIdx? (fun p=>decide (p.1=b)) <;> simp
theorem aSet_cons'(a b:α)(v u:β)(l:List (α×β)):aSet ((a,v)::l) b u=if a=b then (b,u)::l else (a,v)::aSet l b u:=by
 unfold aSet aIx;by_cases h:a=b
 ·subst h;simp[List.findIdx?_cons]
 ·simp only[List.findIdx?_cons,h,decide_false,Bool.false_eq_true,if_false]
  cases l.findIdx? (fun p=>decide (p.1=b)) <;> simp
theorem aGet_none'{l:List (α×β)}{a:α}:aGet l a=none↔a∉l.map (·.1):=by
 induction l with
 | nil=>simp[aGet,aIx]
 | cons p l ih=>
  obtain⟨x,v⟩:=p;rw[aGet_cons'];by_cases h:x=a
  ·simp[h]
  ·rw[if_neg h,ih];simp[Ne.symm h]
theorem aSet_perm{l:List (α×β)}(h:(l.map (·.1)).Nodup)(a:α)(u:β):(aSet l a u).Perm ((a,u)::l.filter fun p=>!decide (p.1=a)):=by
 induction l with
 | nil=>simp[aSet,aIx]
 | cons p l ih=>
  obtain⟨x,v⟩:=p;simp only[List.map_cons,List.nodup_cons]at h
  rw[aSet_cons'];by_cases e:x=a
  ·subst e;rw[if_pos rfl];simp only[List.filter_cons,decide_true,Bool.not_true,Bool.false_eq_true,if_false]
   rw[List.filter_eq_self.2 (fun p hp=>by simp;intro e;exact h.1 (e ▸ List.mem_map_of_mem hp))]
  ·rw[if_neg e];simp only[List.filter_cons,decide_eq_false e,Bool.not_false,if_true]
   exact((ih h.2).cons _).trans (.swap _ _ _)
theorem aGet_perm{l:List (α×β)}(h:(l.map (·.1)).Nodup){a:α}{v:β}(hg:aGet l a=some v):l.Perm ((a,v)::l.filter fun p=>!decide (p.1=a)):=by
 induction l with
 | nil=>simp[aGet,aIx]at hg
 | cons p l ih=>
  obtain⟨x,u⟩:=p;simp only[List.map_cons,List.nodup_cons]at h
  rw[aGet_cons']at hg;by_cases e:x=a
  ·subst e;rw[if_pos rfl]at hg;cases hg
   simp only[List.filter_cons,decide_true,Bool.not_true,Bool.false_eq_true,if_false]
   rw[List.filter_eq_self.2 (fun p hp=>by simp;intro e;exact h.1 (e ▸ List.mem_map_of_mem hp))]
  ·rw[if_neg e]at hg;simp only[List.filter_cons,decide_eq_false e,Bool.not_false,if_true]
   exact((ih h.2 hg).cons _).trans (.swap _ _ _)
theorem aGet_none_filter{l:List (α×β)}{a:α}(hg:aGet l a=none):(l.filter fun p=>!decide (p.1=a))=l:=
 List.filter_eq_self.2 fun p hp=>by
  have:=aGet_none'.1 hg
  simp;intro e;exact this (e ▸ List.mem_map_of_mem hp)
theorem aSet_keys{l:List (α×β)}(h:(l.map (·.1)).Nodup)(a:α)(u:β):((aSet l a u).map (·.1)).Nodup:=by
 refine((aSet_perm h a u).map _).nodup_iff.2 ?_
 simp only[List.map_cons,List.nodup_cons]
 refine⟨fun hm=>?_,(List.filter_sublist.map _).nodup h⟩
 obtain⟨p,hp,e⟩:=List.mem_map.1 hm
 have:=(List.mem_filter.1 hp).2
 simp[e]at this
theorem aGet_aSet(l:List (α×β))(a b:α)(u:β):aGet (aSet l a u) b=if a=b then some u else aGet l b:=by
 induction l with
 | nil=>simp only[aSet,aIx,List.findIdx?_nil,List.nil_append];rw[aGet_cons']
 | cons p l ih=>
  obtain⟨x,v⟩:=p;rw[aSet_cons'];by_cases e:x=a
  ·subst e;rw[if_pos rfl,aGet_cons',aGet_cons'];by_cases e2:x=b <;> simp[e2]
  ·rw[if_neg e,aGet_cons',ih,aGet_cons'];by_cases e2:x=b
   ·subst e2;rw[if_pos rfl,if_pos rfl,if_neg (Ne.symm e)]
   ·rw[if_neg e2,if_neg e2]
end
section
variable {P:Program}{n:Nat}{ops:List Oper}{Γ:Gho}{K:List Res}{wr tc stab:List (List Nat)}{Q:Fr→World→Prop}{i:Nat}{rest:List Oper}{ρ:Fr}{M:Nat→Fr→List Res}
variable {ty T:TypeId}{pos:String}{es:Array Edge}{x y:Operand}
theorem mPutV{c b j dv:Nat}{l:List (Int×Value)}{a:Int}{k:IntKind}{X:Fr→List Res}{KT ET:TypeId}[hMp:TMap P T KT ET][hK:TInt P KT k](h:MSw (mV P n ops Γ K wr tc stab) Q (i+1) rest ⟨ρ,setC M c fun g=>(X g).set j (Res.mpT P KT (id:Value→Value) b (aSet l a (g dv)))⟩)
  (ht:tc.getD i []=[c]:=by exact rfl) (hM:M c=X:=by exact rfl) (hj:∀g,(X g)[j]? = some (Res.mpT P KT (id:Value→Value) b l):=by intro g;exact byIX) (hw0:wr.getD i []=[c]:=by exact rfl) (hx:∀g,ev (ovr stab.flatten g ρ) x=.map (some b):=by intro g;exact rfl) (hy:∀g,ev (ovr stab.flatten g ρ) y=.int k a:=by intro g;exact rfl)
  (hs:(stab.getD c []).contains dv=true:=by exact rfl) (hfv:stab.flatten.contains dv=true:=by exact rfl) :
  MSw (mV P n ops Γ K wr tc stab) Q i (⟨none,.mapUpdate T x y (.tmp dv),ty,pos,es,none⟩::rest) ⟨ρ,M⟩:=by
 refine mM (v:=undef) _ (fun Y w g hw=>?_) h hw0 rfl
 rw[cells1 ht,hM]at hw;have hz:ev (ovr stab.flatten g ρ) (.tmp dv)=g dv:=ovr_in (by simpa using hfv)
 have hg:ovr (stab.getD c []) g noFr dv=g dv:=ovr_in (by simpa using hs)
 have hjl:j<(X (ovr (stab.getD c []) g noFr)).length:=(List.getElem?_eq_some_iff.1 (hj _)).1
 refine s_mapUpdate (f:=(id:Value→Value)) (v:=g dv) hw (hx g) (hy g) hz (i:=K.length+j) (by rw[List.getElem?_append_right (Nat.le_add_right _ _),Nat.add_sub_cancel_left,List.getElem?_append_left hjl];exact hj _) fun w' hw'=>⟨?_,fun _=>rfl⟩
 rw[cells1 ht,setC_self];rw[List.set_append_right _ _ (Nat.le_add_right _ _),Nat.add_sub_cancel_left,List.set_append_left _ _ hjl]at hw';simp only[putO,hg]
 exact hw'
end
def hpG(Γ:Gho)(w:World):Gho:=⟨hp w,Γ.os,Γ.tape,Γ.out,Γ.dr⟩
theorem hpG_le{Γ:Gho}{S:List Res}{w:World}(h:Wd Γ S w):Γ.le (hpG Γ w):=⟨h.imm,rfl,rfl,rfl,rfl⟩
theorem hpG_wd{Γ:Gho}{S:List Res}{w:World}(h:Wd Γ S w):Wd (hpG Γ w) [] w:=⟨h.os,h.tape,h.out,h.dr,fun _ _ h=>h,[],trivial,by simp,by simp⟩
theorem Holds.noimm{m m' h}:∀(R:List Res) (bss:List (List Nat)),(∀r∈R,∀bs,r.holds m bs h→r.holds m' bs h)→Holds m R bss h→Holds m' R bss h
 | [],[],_,_=>trivial
 | r::R,bs::bss,hr,hh=>⟨hr r (by simp) bs hh.1,Holds.noimm R bss (fun r h=>hr r (by simp[h])) hh.2⟩
 | [],_::_,_,hh=>hh.elim
 | _::_,[],_,hh=>hh.elim
theorem wd_keptG{Γ Γ':Gho}{S R:List Res}{w w':World}(h:Wd Γ S w)(hle:(hpG Γ w).le Γ')(hR:∀r∈R,∀bs,r.holds Γ'.imm bs (hp w')→r.holds Γ.imm bs (hp w'))(h':Wd Γ' R w'):Wd Γ (R++S) w':=by
 obtain⟨cs,k6,k7,k8⟩:=h'.own;have him:=h.imm
 obtain⟨h1,h2,h3,h4,h5,dss,d6,d7,d8⟩:=h;have hat:∀b∈dss.flatten,∃o,w.heap[b]? = some o:=fun b hbm=>⟨_,Array.getElem?_eq_getElem (d8 b hbm).1⟩
 have hnew:∀b∈cs.flatten,w.heap[b]? = none:=fun b hbm=>by
  cases hq:w.heap[b]? with
  | none=>rfl
  | some o=>have:=hle.imm b o hq;rw[(k8 b hbm).2]at this;cases this
 have hold:∀b∈dss.flatten,b∉cs.flatten:=fun b hbm hbs=>by
  obtain⟨o,ho⟩:=hat b hbm
  rw[hnew b hbs]at ho;cases ho
 have hkeep:∀b∈dss.flatten,w'.heap[b]? = w.heap[b]?:=fun b hbm=>by
  obtain⟨o,ho⟩:=hat b hbm
  rw[ho];exact h'.imm b o (hle.imm b o ho)
 refine⟨h'.os.trans hle.os,h'.tape.trans hle.tape,h'.out.trans hle.out,by have:=h'.dr;rw[hle.dr]at this;exact this,fun b o hb=>h'.imm b o (hle.imm b o (him b o hb)),cs++dss,Holds.append _ _ _ _ (Holds.noimm R cs hR k6) (Holds.loc (fun b o h=>h) S dss hkeep d6),?_,?_⟩
 ·rw[List.flatten_append,List.nodup_append];exact⟨k7,d7,fun a ha b hb' e=>hold b hb' (e ▸ ha)⟩
 ·intro b hbm;rw[List.flatten_append,List.mem_append]at hbm;rcases hbm with hbm|hbm
  ·refine⟨(k8 b hbm).1,?_⟩
   cases hq:Γ.imm b with
   | none=>rfl
   | some o=>have:=him b o hq;rw[hnew b hbm]at this;cases this
  ·obtain⟨o,ho⟩:=hat b hbm
   have:=hkeep b hbm
   rw[ho]at this;exact⟨(Array.getElem?_eq_some_iff.1 this).1,(d8 b hbm).2⟩
theorem own_noimm{m m':Hp}{h:Hp}{v:Value}{e sz:Nat}{rows:List (List Value)}:∀r∈[Res.own v e sz rows],∀bs,r.holds m bs h→r.holds m' bs h:=fun r hr bs hh=>by
 simp only[List.mem_singleton]at hr
 subst hr;unfold Res.own at hh ⊢
 exact hh
theorem freeze_list{α:Type}{f:α→Value}{e sz:Nat}{g:α→List (List Value)}{S:List Res}{w:World}:∀(l:List α) {Γ:Gho},Wd Γ (l.map (fun x=>Res.own (f x) e sz (g x))++S) w→∃Γ',Γ.le Γ'∧(∀x∈l,RepS Γ' (f x) sz (g x))∧Wd Γ' S w
 | [],Γ,hw=>⟨Γ,.refl _,by simp,hw⟩
 | x::l,Γ,hw=>by
  obtain⟨Γ1,h1,h2,hw⟩:=Wd.freeze (S:=l.map (fun x=>Res.own (f x) e sz (g x))++S) hw
  obtain⟨Γ2,h3,h4,hw⟩:=freeze_list l hw
  refine⟨Γ2,h1.trans h3,fun y hy=>?_,hw⟩
  rcases List.mem_cons.1 hy with rfl|hy
  ·exact h2.mono h3
  ·exact h4 y hy
theorem repS_nil{Γ:Gho}{a:Option Addr}{sz:Nat}:RepS Γ (.slice a 0 0) sz []:=by
 unfold RepS;exact⟨by simp,a,0,0,rfl,rfl,Nat.le_refl _,by simp,fun h=>by simp at h⟩
end Mk
end
section
open Go Mk
namespace Go.Proofs.YtfoggcgogafocaaGreat
set_option maxHeartbeats 4000000
attribute [local irreducible] Calls
def nbrL(ls:List LinkT)(x:Int):List Pl:=ls.flatMap fun l=>(if l.A=x then [(l.B,l.Latency)] else [])++(if l.B=x then [(l.A,l.Latency)] else [])
def addN(N:Int→List Pl)(a:Int)(p:Pl):Int→List Pl:=fun x=>if a=x then N x++[p] else N x
theorem nbrL_step{ls:List LinkT}{k:Nat}{l:LinkT}(h:ls[k]? = some l):addN (addN (nbrL (ls.take k)) l.A (l.B,l.Latency)) l.B (l.A,l.Latency)=nbrL (ls.take (k+1)):=by
 funext x
 rw[take_succ_of h];unfold addN nbrL;simp only[List.flatMap_append,List.flatMap_cons,List.flatMap_nil,List.append_nil]
 by_cases h1:l.A=x <;> by_cases h2:l.B=x <;> simp[h1,h2]
abbrev adjM(bm:Nat)(l:List (Int×Value)):Res:=Res.mpT Tryz.prog 3 (id:Value→Value) bm l
def plO(N:Int→List Pl)(e:Int×Value):Res:=.own e.2 122 2 ((N e.1).map plV)
def AdjS(Γ:Gho)(S:List Res)(bm:Nat)(N:Int→List Pl)(w:World):Prop:=
 ∃l:List (Int×Value),(l.map (·.1)).Nodup∧(∀x,aGet l x=none→N x=[])∧Wd Γ (adjM bm l::(l.map (plO N)++S)) w
def restL(l:List (Int×Value))(a:Int):List (Int×Value):=l.filter fun p=>!decide (p.1=a)
def zeroOr(l:List (Int×Value))(a:Int)(v:Value):Prop:=aGet l a=some v∨(aGet l a=none∧v=.slice none 0 0)
theorem adj_open{Γ:Gho}{S:List Res}{bm:Nat}{N:Int→List Pl}{w:World}{l:List (Int×Value)}(hn:(l.map (·.1)).Nodup)(h0:∀x,aGet l x=none→N x=[])(hw:Wd Γ (adjM bm l::(l.map (plO N)++S)) w)(a:Int) :
  ∃v,zeroOr l a v∧Wd Γ (adjM bm l::.own v 122 2 ((N a).map plV)::((restL l a).map (plO N)++S)) w:=by
 cases hg:aGet l a with
 | some v=>
  refine⟨v,.inl hg,hw.perm (List.Perm.cons _ ?_)⟩
  exact((aGet_perm hn hg).map (plO N)).append_right S
 | none=>
  refine⟨.slice none 0 0,.inr ⟨hg,rfl⟩,?_⟩
  have h1:=(Wd.addNil (a:=none) (E:=122) (sz:=2) hw).ps [1]
  rw[h0 a hg];have:restL l a=l:=aGet_none_filter hg
  rw[this];exact h1
theorem adj_close{Γ:Gho}{S:List Res}{bm:Nat}{N:Int→List Pl}{w:World}{l:List (Int×Value)}{a:Int}{p:Pl}{v:Value}(hn:(l.map (·.1)).Nodup)(h0:∀x,aGet l x=none→N x=[])(hw:Wd Γ (adjM bm (aSet l a v)::.own v 122 2 ((N a).map plV++[plV p])::((restL l a).map (plO N)++S)) w) :
  AdjS Γ S bm (addN N a p) w:=by
 refine⟨aSet l a v,aSet_keys hn a v,fun x hx=>?_,hw.perm (List.Perm.cons _ ?_)⟩
 ·rw[aGet_aSet]at hx;by_cases e:a=x
  ·rw[if_pos e]at hx;cases hx
  ·rw[if_neg e]at hx;unfold addN;rw[if_neg e];exact h0 x hx
 ·have h1:(restL l a).map (plO N)=(restL l a).map (plO (addN N a p)):=List.map_congr_left fun e he=>by
   have:=(List.mem_filter.1 he).2
   unfold plO addN;rw[if_neg (by intro h;simp[h]at this)]
  have h2:Res.own v 122 2 ((N a).map plV++[plV p])=plO (addN N a p) (a,v):=by
   unfold plO addN;simp
  rw[h1,h2];exact(((aSet_perm hn a v).map (plO (addN N a p))).append_right S).symm
theorem adj_front{Γ:Gho}{S R:List Res}{A B b:Res}{w:World}(hw:Wd Γ (A::B::(R++b::S)) w):Wd Γ (b::A::B::(R++S)) w:=
 hw.perm (((List.perm_middle.cons _).cons _).trans (((List.Perm.swap _ _ _).cons _).trans (.swap _ _ _)))
theorem adj_back{Γ:Gho}{S R:List Res}{A B b:Res}{w:World}(hw:Wd Γ (b::A::B::(R++S)) w):Wd Γ (A::B::(R++b::S)) w:=
 hw.perm (((List.perm_middle.cons _).cons _).trans (((List.Perm.swap _ _ _).cons _).trans (.swap _ _ _))).symm
theorem nbr_len{ls:List LinkT}{x:Int}:(nbrL ls x).length≤2*ls.length:=by
 induction ls with
 | nil=>simp[nbrL]
 | cons l ls ih=>
  have:nbrL (l::ls) x=((if l.A=x then [(l.B,l.Latency)] else [])++(if l.B=x then [(l.A,l.Latency)] else []))++nbrL ls x:=by simp[nbrL]
  rw[this];simp only[List.length_append,List.length_cons]
  split <;> split <;> simp <;> omega
theorem addN_len{N:Int→List Pl}{a x:Int}{p:Pl}:(addN N a p x).length≤(N x).length+1:=by
 unfold addN;split <;> simp
theorem AdjS.drop{Γ:Gho}{S:List Res}{b:Res}{bm:Nat}{N:Int→List Pl}{w:World}(h:AdjS Γ (b::S) bm N w):AdjS Γ S bm N w:=by
 obtain⟨l,h1,h2,hw⟩:=h;exact⟨l,h1,h2,(hw.perm ((List.perm_middle.cons _).trans (.swap _ _ _))).drop⟩
theorem y_lookupZ{Γ:Gho}{S:List Res}{w:World}{ρ:Fr}{d:Option Tmp}{T ty ET:TypeId}{pos:String}{es:Array Edge}{g:Option (Nat×Bool)}{x y:Operand}{l:List (Int×Value)}{a:Int}{v:Value}{bm i:Nat}[hM:TMap Tryz.prog T 3 ET][hz:TZV Tryz.prog ET (.slice none 0 0)](hw:Wd Γ S w)(hv:zeroOr l a v)(hi:S[i]? = some (adjM bm l))(hx:ev ρ x=.map (some bm))(hy:ev ρ y=.int .i64 a) :
  Mk.Yields Tryz.prog ⟨d,.lookup T x y false,ty,pos,es,g⟩ ρ w v:=by
 rcases hv with hv|⟨hv,rfl⟩
 ·exact y_lookup_some (f:=(id:Value→Value)) hw hx hy hi hv false
 ·exact y_lookup_none (f:=(id:Value→Value)) hw hx hy hi hv false
theorem neighbours_any{Γ:Gho}{u:Value}{H:HwT}[hh:HwR Γ u H](hc:H.Links.length≤1000){S:List Res}{w:World}(hw:Wd Γ S w) :
  Calls Tryz.prog 45 #[u] w fun e w'=>∃bm,e=.returned (.map (some bm))∧AdjS Γ S bm (nbrL H.Links) w':=by
 obtain⟨a1,n1,c1,a2,n2,c2,a3,n3,c3,a4,n4,c4,a5,n5,c5,cs,rfl,hcs,hok,hsz,r1,r2,r3,r4,r5⟩:=hh.h;obtain⟨hn3,hm3,hx3⟩:=rep_facts r3
 simp only[List.length_map]at hn3
 refine calls_of_W Tryz.func45 rfl rfl ?_
 repeat first|refine byW ?_|refine byV ?_;intro w hw
 refine lBox ?_;intro b1 w hw;repeat first|refine byW ?_|refine byV ?_;intro w hw
 refine L_step rfl rfl (s_makeMap (K:=3) (α:=Int) (f:=(id:Value→Value)) hw fun bm w hw=>?_)
 have hw:=hw.ps [1]
 have hw:Wd Γ (.blk b1 (.cells #[.string H.Name,.slice a1 n1 c1,.slice a2 n2 c2,.slice a3 n3 c3,.slice a4 n4 c4,.slice a5 n5 c5] 30)::adjM bm []::S) w:=hw
 repeat first|refine byW ?_|refine byV ?_;intro w hw
 refine W_loop (fun μ ρ w=>∃(k:Nat),μ+k=n3∧Has ρ [(1,.pointer (some ⟨b1,0,none⟩)),(3,.map (some bm)),(8,.slice a3 n3 c3),(9,.int .i64 n3),(10,.int .i64 k)]∧AdjS Γ (.blk b1 (.cells #[.string H.Name,.slice a1 n1 c1,.slice a2 n2 c2,.slice a3 n3 c3,.slice a4 n4 c4,.slice a5 n5 c5] 30)::S) bm (nbrL (H.Links.take k)) w) n3 ⟨0,by omega,⟨rfl,rfl,rfl,rfl,rfl,trivial⟩,[],by simp,fun _ _=>rfl,hw.ps [1]⟩ ?_
 clear hw;rintro μ ρ w ⟨k,hk,hρ,l,hnd,h0,hw⟩
 rw[hρ.eq];clear hρ;repeat first|refine byW ?_|refine byV ?_;intro w hw
 refine W_cond rfl (fun h=>?_) (fun h=>?_)
 ·have hkn:k<n3:=by have:=of_decide_eq_true h;omega
  clear h;obtain⟨x,hx⟩:=get_lt (l:=H.Links) (k:=k) (by omega)
  repeat first|refine byW ?_|refine byV ?_;intro w hw
  refine lAlloc ?_;intro b5 w hw;refine lStore ?_;intro w hw;have hw:Wd Γ (.blk b5 (.cells (enc x).toArray 79)::adjM bm l::(l.map (plO (nbrL (H.Links.take k)))++(.blk b1 (.cells #[.string H.Name,.slice a1 n1 c1,.slice a2 n2 c2,.slice a3 n3 c3,.slice a4 n4 c4,.slice a5 n5 c5] 30)::S))) w:=hw
  replace hw:=hw.perm ((List.Perm.swap _ _ _).trans (List.Perm.cons _ List.perm_middle.symm))
  obtain⟨v,hv,hw⟩:=adj_open hnd h0 hw x.A
  obtain⟨a0,m0,c0,rfl,hm0,hmc0,-⟩:=hw.own_shape (i:=1) rfl
  simp only[List.length_map]at hm0
  have hlen:m0≤4000:=by rw[hm0];have:=nbr_len (ls:=H.Links.take k) (x:=x.A);simp at this;omega
  have hw:=adj_front hw
  repeat first|refine byW ?_|refine byV ?_;intro w hw
  refine W_mix2 [.blk b5 (.cells (enc x).toArray 79)] _ [[],[],[],[],[],[],[],[],[],[],[],[],[1],[0],[0]] [[],[],[],[],[],[],[0],[],[],[],[],[],[1],[0,1],[0]] [[27],[26]] hw ?_
  refine byM ?_;refine mY (v:=.slice a0 m0 c0) ?_ (hy:=fun Y w g hw=>y_lookupZ hw hv (i:=1) rfl rfl rfl)
  refine byM ?_;refine mY (v:=.agg (plV (x.B,x.Latency)).toArray) ?_ (hy:=fun Y w g hw=>y_build rfl)
  refine mBuild [plV (x.B,x.Latency)] ?_
  refine mApp (j:=1) ?_
  refine mPutV (j:=0) ?_
  refine mEnd fun w g hw=>?_
  have hw:=Wd.dropEnd hw
  have hw:Wd Γ (.blk b5 (.cells (enc x).toArray 79)::adjM bm (aSet l x.A (g 27))::.own (g 27) 122 2 ((nbrL (H.Links.take k) x.A).map plV++[plV (x.B,x.Latency)])::((restL l x.A).map (plO (nbrL (H.Links.take k)))++.blk b1 (.cells #[.string H.Name,.slice a1 n1 c1,.slice a2 n2 c2,.slice a3 n3 c3,.slice a4 n4 c4,.slice a5 n5 c5] 30)::S)) w:=hw
  have hA:=adj_close hnd h0 (adj_back hw)
  generalize g 27=gg at *
  obtain⟨l,hnd,h0,hw⟩:=hA;obtain⟨v,hv,hw⟩:=adj_open hnd h0 hw x.B
  obtain⟨a0,m0,c0,rfl,hm0,hmc0,-⟩:=hw.own_shape (i:=1) rfl
  simp only[List.length_map]at hm0
  have hlen:m0≤4000:=by rw[hm0];have:=addN_len (N:=nbrL (H.Links.take k)) (a:=x.A) (p:=(x.B,x.Latency)) (x:=x.B) ; have:=nbr_len (ls:=H.Links.take k) (x:=x.B);simp at this;omega
  have hw:=adj_front hw
  repeat first|refine byW ?_|refine byV ?_;intro w hw
  refine W_mix2 [.blk b5 (.cells (enc x).toArray 79)] _ [[],[],[],[],[],[],[],[],[],[],[],[],[1],[0],[0]] [[],[],[],[],[],[],[0],[],[],[],[],[],[1],[0,1],[0]] [[41],[40]] hw ?_
  refine byM ?_;refine mY (v:=.slice a0 m0 c0) ?_ (hy:=fun Y w g hw=>y_lookupZ hw hv (i:=1) rfl rfl rfl)
  refine byM ?_;refine mY (v:=.agg (plV (x.A,x.Latency)).toArray) ?_ (hy:=fun Y w g hw=>y_build rfl)
  refine mBuild [plV (x.A,x.Latency)] ?_
  refine mApp (j:=1) ?_
  refine mPutV (j:=0) ?_
  refine mEnd fun w g hw=>?_
  have hw:=Wd.dropEnd hw
  have hw:Wd Γ (.blk b5 (.cells (enc x).toArray 79)::adjM bm (aSet l x.B (g 41))::.own (g 41) 122 2 ((addN (nbrL (H.Links.take k)) x.A (x.B,x.Latency) x.B).map plV++[plV (x.A,x.Latency)])::((restL l x.B).map (plO (addN (nbrL (H.Links.take k)) x.A (x.B,x.Latency)))++.blk b1 (.cells #[.string H.Name,.slice a1 n1 c1,.slice a2 n2 c2,.slice a3 n3 c3,.slice a4 n4 c4,.slice a5 n5 c5] 30)::S)) w:=hw
  have hA:=adj_close hnd h0 (adj_back hw)
  generalize g 41=gg at *
  have hA:=AdjS.drop hA
  rw[nbrL_step hx]at hA;repeat first|refine byW ?_|refine byV ?_;intro w hw
  exact⟨μ-1,by omega,k+1,by omega,⟨rfl,rfl,rfl,rfl,rfl,trivial⟩,hA⟩
 ·have hkn:¬k<n3:=by have:=of_decide_eq_false h;omega
  have hA:AdjS Γ (.blk b1 (.cells #[.string H.Name,.slice a1 n1 c1,.slice a2 n2 c2,.slice a3 n3 c3,.slice a4 n4 c4,.slice a5 n5 c5] 30)::S) bm (nbrL (H.Links.take k)) w:=⟨l,hnd,h0,hw⟩
  rw[List.take_of_length_le (by omega)]at hA
  repeat first|refine byW ?_|refine byV ?_;intro w hw
  exact⟨_,rfl,bm,rfl,hA.drop⟩
end Go.Proofs.YtfoggcgogafocaaGreat
end
section
namespace Go.Proofs.YtfoggcgogafocaaGreat
inductive Way (nb:Int→List Pl) (s:Int):Int→Int→Prop
 | refl:Way nb s s 0
 | step {x d:Int} {q:Pl}:Way nb s x d→q∈nb x→Way nb s q.1 (d+q.2)
def oat(O:List Int)(x:Int):Int:=O.getD x.toNat (-1)
def Dst(nb:Int→List Pl)(s x d:Int):Prop:=(0≤d∧Way nb s x d∧∀d',Way nb s x d'→d≤d')∨(d = -1∧∀d',¬Way nb s x d')
theorem Dst.uniq{nb:Int→List Pl}{s x d e:Int}(h:Dst nb s x d)(k:Dst nb s x e):d=e:=by
 rcases h with⟨h0,h1,h2⟩|⟨h1,h2⟩ <;> rcases k with⟨k0,k1,k2⟩|⟨k1,k2⟩
 ·have:=h2 _ k1;have:=k2 _ h1;omega
 ·exact(k2 _ h1).elim
 ·exact(h2 _ k1).elim
 ·rw[h1,k1]
structure NbOk(nb:Int→List Pl)(s L:Int):Prop where
 rng:∀x,∀q∈nb x,0≤q.1∧q.1<64∧0≤q.2∧q.2≤L
 st:0≤s∧s<64
theorem Way.nonneg{nb:Int→List Pl}{s L:Int}(hn:NbOk nb s L){x d:Int}(h:Way nb s x d):0≤d:=by
 induction h with
 | refl=>omega
 | step _ hq ih=>have:=hn.rng _ _ hq;omega
theorem Way.rng{nb:Int→List Pl}{s L:Int}(hn:NbOk nb s L){x d:Int}(h:Way nb s x d):0≤x∧x<64:=by
 cases h with
 | refl=>exact hn.st
 | step _ hq=>have:=hn.rng _ _ hq;omega
structure Dij(nb:Int→List Pl)(s:Int)(O:List Int)(xs:List Pl):Prop where
 len:O.length=64
 neg:∀x,oat O x = -1∨0≤oat O x
 way:∀p∈xs,Way nb s p.1 p.2
 done:∀x,0≤x→x<64→0≤oat O x→Way nb s x (oat O x)∧∀d,Way nb s x d→oat O x≤d
 closed:∀x,0≤x→x<64→0≤oat O x→∀q∈nb x,0≤oat O q.1∨(q.1,oat O x+q.2)∈xs
 start:0≤oat O s∨(s,0)∈xs
section
variable {nb:Int→List Pl}{s L:Int}{O:List Int}{xs ys:List Pl}
theorem oat_none(x:Int):oat (List.replicate 64 (-1)) x = -1:=by
 unfold oat;rw[List.getD_eq_getElem?_getD,List.getElem?_replicate];split <;> rfl
theorem oat_set{d p:Int}(hl:O.length=64)(h0:0≤p)(h1:p<64){x:Int}(hx:0≤x):oat (O.set p.toNat d) x=if x=p then d else oat O x:=by
 unfold oat;rw[List.getD_eq_getElem?_getD,List.getElem?_set,List.getD_eq_getElem?_getD];by_cases e:x=p
 ·subst e;rw[if_pos rfl,if_pos rfl,if_pos (by omega)];rfl
 ·rw[if_neg e,if_neg (by omega)]
theorem Dij.init:Dij nb s (List.replicate 64 (-1)) [(s,0)] where
 len:=by simp
 neg x:=.inl (oat_none x)
 way p hp:=by simp at hp;subst hp;exact .refl
 done x _ _ h:=by rw[oat_none]at h;omega
 closed x _ _ h:=by rw[oat_none]at h;omega
 start:=.inr (by simp)
theorem Dij.reach(hn:NbOk nb s L)(h:Dij nb s O xs){x d:Int}(hw:Way nb s x d):0≤oat O x∨∃q∈xs,q.2≤d:=by
 induction hw with
 | refl=>
  rcases h.start with h1|h1
  ·exact .inl h1
  ·exact .inr ⟨_,h1,Int.le_refl _⟩
 | @step x d q hx hq ih=>
  have hr:=hn.rng _ _ hq
  rcases ih with ih|⟨p,hp,hd⟩
  ·obtain⟨h0,h1⟩:=hx.rng hn
   rcases h.closed x h0 h1 ih q hq with h2|h2
   ·exact .inl h2
   ·have:=(h.done x h0 h1 ih).2 d hx
    exact .inr ⟨_,h2,by show oat O x+q.2≤d+q.2;omega⟩
  ·exact .inr ⟨p,hp,by omega⟩
theorem Dij.skip(h:Dij nb s O xs){p:Pl}(hp:(p::ys).Perm xs)(hs:0≤oat O p.1):Dij nb s O ys where
 len:=h.len
 neg:=h.neg
 way q hq:=h.way q (hp.mem_iff.1 (by simp[hq]))
 done:=h.done
 closed x h0 h1 hx q hq:=by
  rcases h.closed x h0 h1 hx q hq with h2|h2
  ·exact .inl h2
  ·rcases List.mem_cons.1 (hp.mem_iff.2 h2) with h3|h3
   ·left;rw[←h3]at hs;exact hs
   ·exact .inr h3
 start:=by
  rcases h.start with h2|h2
  ·exact .inl h2
  ·rcases List.mem_cons.1 (hp.mem_iff.2 h2) with h3|h3
   ·left;rw[←h3]at hs;exact hs
   ·exact .inr h3
theorem Dij.settle(hn:NbOk nb s L)(h:Dij nb s O xs){p:Pl}(hp:(p::ys).Perm xs)(hmin:∀q∈xs,p.2≤q.2)(hs:oat O p.1<0){zs:List Pl}(hz:zs.Perm ((nb p.1).map (fun q=>(q.1,p.2+q.2))++ys)) :
  Dij nb s (O.set p.1.toNat p.2) zs:=by
 have hpm:p∈xs:=hp.mem_iff.1 (by simp)
 have hwp:=h.way p hpm
 obtain⟨p0,p1⟩:=hwp.rng hn
 have hpn:=hwp.nonneg hn
 have hO:∀ {x:Int},0≤x→oat (O.set p.1.toNat p.2) x=if x=p.1 then p.2 else oat O x:=oat_set h.len p0 p1
 refine⟨by simp[h.len],fun x=>?_,fun q hq=>?_,fun x h0 h1 hx=>?_,fun x h0 h1 hx q hq=>?_,?_⟩
 ·by_cases hx:0≤x
  ·rw[hO hx];split
   ·exact .inr hpn
   ·exact h.neg x
  ·have hz:oat (O.set p.1.toNat p.2) x=oat (O.set p.1.toNat p.2) 0:=by unfold oat;rw[show x.toNat=(0:Int).toNat by omega]
   have hz2:oat O x=oat O 0:=by unfold oat;rw[show x.toNat=(0:Int).toNat by omega]
   rw[hz,hO (by omega)];split
   ·exact .inr hpn
   ·exact h.neg 0
 ·rcases List.mem_append.1 (hz.mem_iff.1 hq) with hq|hq
  ·obtain⟨r,hr,rfl⟩:=List.mem_map.1 hq
   exact hwp.step hr
  ·exact h.way q (hp.mem_iff.1 (by simp[hq]))
 ·rw[hO h0]at hx ⊢
  by_cases e:x=p.1
  ·subst e;rw[if_pos rfl]at hx ⊢
   refine⟨hwp,fun d hd=>?_⟩
   rcases h.reach hn hd with h2|⟨q,hq,h2⟩
   ·omega
   ·have:=hmin q hq;omega
  ·rw[if_neg e]at hx ⊢
   exact h.done x h0 h1 hx
 ·obtain⟨q0,q1,-⟩:=hn.rng _ _ hq
  rw[hO h0]at hx ⊢
  rw[hO q0];by_cases eq:q.1=p.1
  ·left;rw[if_pos eq];exact hpn
  ·rw[if_neg eq];by_cases e:x=p.1
   ·subst e;right
    rw[if_pos rfl];exact hz.mem_iff.2 (List.mem_append_left _ (List.mem_map.2 ⟨q,hq,rfl⟩))
   ·rw[if_neg e]at hx ⊢
    rcases h.closed x h0 h1 hx q hq with h2|h2
    ·exact .inl h2
    ·rcases List.mem_cons.1 (hp.mem_iff.2 h2) with h3|h3
     ·exact(eq (by rw[←h3])).elim
     ·exact .inr (hz.mem_iff.2 (List.mem_append_right _ h3))
 ·rw[hO hn.st.1];by_cases e:s=p.1
  ·left;rw[if_pos e];exact hpn
  ·rw[if_neg e];rcases h.start with h2|h2
   ·exact .inl h2
   ·rcases List.mem_cons.1 (hp.mem_iff.2 h2) with h3|h3
    ·exact(e (by rw[←h3])).elim
    ·exact .inr (hz.mem_iff.2 (List.mem_append_right _ h3))
theorem Dij.final(hn:NbOk nb s L)(h:Dij nb s O []){x:Int}(h0:0≤x)(h1:x<64):Dst nb s x (oat O x):=by
 rcases h.neg x with h2|h2
 ·refine .inr ⟨h2,fun d hd=>?_⟩
  rcases h.reach hn hd with h3|⟨q,hq,-⟩
  ·omega
  ·simp at hq
 ·exact .inl ⟨h2,h.done x h0 h1 h2⟩
def degS(nb:Int→List Pl)(O:List Int):Nat→Nat
 | 0=>0
 | n+1=>degS nb O n+if O.getD n (-1)<0 then (nb n).length else 0
theorem degS_le{B:Nat}(hB:∀x,(nb x).length≤B):∀n,degS nb O n≤n*B
 | 0=>by simp[degS]
 | n+1=>by
  have:=degS_le hB n
  have:=hB n
  unfold degS;rw[Nat.add_mul,Nat.one_mul];split <;> omega
theorem degS_set{p:Nat}{d:Int}(hl:O.length=64)(hp:p<64)(hs:O.getD p (-1)<0)(hd:0≤d):∀n,degS nb (O.set p d) n+(if p<n then (nb p).length else 0)=degS nb O n
 | 0=>by simp[degS]
 | n+1=>by
  have ih:=degS_set hl hp hs hd n
  unfold degS;have hg:(O.set p d).getD n (-1)=if n=p then d else O.getD n (-1):=by
   rw[List.getD_eq_getElem?_getD,List.getElem?_set,List.getD_eq_getElem?_getD];by_cases e:n=p
   ·subst e;rw[if_pos rfl,if_pos rfl,if_pos (by omega)];rfl
   ·rw[if_neg e,if_neg (Ne.symm e)]
  rw[hg];by_cases e:n=p
  ·subst e;rw[if_pos rfl,if_neg (by omega),if_pos hs,if_pos (by omega)]
   rw[if_neg (by omega)]at ih
   omega
  ·rw[if_neg e];by_cases e2:p<n
   ·rw[if_pos e2]at ih;rw[if_pos (show p<n+1 by omega)];omega
   ·rw[if_neg e2]at ih;rw[if_neg (show ¬p<n+1 by omega)];omega
end
end Go.Proofs.YtfoggcgogafocaaGreat
end
section
open Go Mk
namespace Go.Proofs.YtfoggcgogafocaaGreat
set_option maxHeartbeats 8000000
attribute [local irreducible] Calls
theorem adj_freeze{Γ:Gho}{S:List Res}{bm:Nat}{N:Int→List Pl}{w:World}(h:AdjS Γ S bm N w):∃Γ' l,Γ.le Γ'∧(∀x v,zeroOr l x v→RepS Γ' v 2 ((N x).map plV))∧Wd Γ' (adjM bm l::S) w:=by
 obtain⟨l,hn,h0,hw⟩:=h;have hw2:Wd Γ (l.map (fun e=>Res.own e.2 122 2 ((N e.1).map plV))++(adjM bm l::S)) w:=hw.perm List.perm_middle.symm
 obtain⟨Γ',hle,hr,hw3⟩:=freeze_list l hw2
 refine⟨Γ',l,hle,fun x v hv=>?_,hw3⟩
 rcases hv with hv|⟨hv,rfl⟩
 ·have:=(aGet_perm hn hv).mem_iff.2 (List.mem_cons_self ..)
  exact hr _ this
 ·rw[h0 x hv];exact repS_nil
theorem zeroOr_some(l:List (Int×Value))(x:Int):∃v,zeroOr l x v:=by
 cases h:aGet l x with
 | some v=>exact⟨v,.inl h⟩
 | none=>exact⟨_,.inr ⟨h,rfl⟩⟩
def LinksOk(ls:List LinkT):Prop:=ls.length≤1000∧∀l∈ls,0≤l.A∧l.A<64∧0≤l.B∧l.B<64∧1≤l.Latency∧l.Latency≤1000000
theorem nbr_ok{ls:List LinkT}{s:Int}(h:LinksOk ls)(hs:0≤s∧s<64):NbOk (nbrL ls) s 1000000:=⟨fun x q hq=>by
 unfold nbrL at hq;obtain⟨l,hl,hq⟩:=List.mem_flatMap.1 hq
 have:=h.2 l hl
 rcases List.mem_append.1 hq with hq|hq
 ·split at hq
  ·simp only[List.mem_singleton]at hq;subst hq;simp only[];omega
  ·simp at hq
 ·split at hq
  ·simp only[List.mem_singleton]at hq;subst hq;simp only[];omega
  ·simp at hq,hs⟩
theorem distances_core{Γ:Gho}{u:Value}{H:HwT}[hh:HwR Γ u H](hL:LinksOk H.Links){s:Int}(hs:0≤s∧s<64){w:World}(hw:Wd Γ [] w) :
  Calls Tryz.prog 43 #[u,.int .i64 s] w fun e w'=>∃Γ' v O,Γ.le Γ'∧e=.returned v∧O.length=64∧(∀x,0≤x→x<64→Dst (nbrL H.Links) s x (oat O x)∧oat O x≤128001000000)∧Wd Γ' [.own v 3 1 (intRows O)] w':=by
 have hc:=hL.1
 have hn:=nbr_ok hL hs
 refine calls_of_W Tryz.func43 rfl rfl ?_
 have hh':=hh
 obtain⟨a1,n1,c1,a2,n2,c2,a3,n3,c3,a4,n4,c4,a5,n5,c5,cs,rfl,-⟩:=hh.h;repeat first|refine byW ?_|refine byV ?_;intro w hw
 refine lBox ?_;intro b2 w hw;have hw:Wd Γ [.blk b2 (.cells #[.string H.Name,.slice a1 n1 c1,.slice a2 n2 c2,.slice a3 n3 c3,.slice a4 n4 c4,.slice a5 n5 c5] 30)] w:=hw
 repeat first|refine byW ?_|refine byV ?_;intro w hw
 refine W_scopeS ?_
 repeat first|refine byW ?_|refine byV ?_;intro w hw
 refine lCall ((neighbours_any (H:=H) hc hw).mono fun e w hq=>?_)
 obtain⟨bm,rfl,hA⟩:=hq;clear hw;obtain⟨Γ1,l,hle,hrep,hw⟩:=adj_freeze hA
 refine⟨_,rfl,?_⟩;repeat first|refine byW ?_|refine byV ?_;intro w hw
 refine lMakeSlice (len:=64) ?_
 intro ao w hw;have hw:Wd Γ1 [.own (.slice (some ao) 64 64) 3 1 (intRows (List.replicate 64 0)),adjM bm l,.blk b2 (.cells #[.string H.Name,.slice a1 n1 c1,.slice a2 n2 c2,.slice a3 n3 c3,.slice a4 n4 c4,.slice a5 n5 c5] 30)] w:=hw
 repeat first|refine byW ?_|refine byV ?_;intro w hw
 refine W_loop (fun μ ρ w=>∃(k:Nat) (O:List Int),μ+k=64∧O.length=64∧(∀i,i<k→O[i]? = some (-1))∧Has ρ [(1,.int .i64 s),(5,.map (some bm)),(6,.slice (some ao) 64 64),(17,.int .i64 (64:Nat)),(18,.int .i64 k)]∧Wd Γ1 [.own (.slice (some ao) 64 64) 3 1 (intRows O),adjM bm l,.blk b2 (.cells #[.string H.Name,.slice a1 n1 c1,.slice a2 n2 c2,.slice a3 n3 c3,.slice a4 n4 c4,.slice a5 n5 c5] 30)] w) 64 ⟨0,_,by omega,by simp,fun i h=>by omega,⟨rfl,rfl,rfl,rfl,rfl,trivial⟩,hw⟩ ?_
 clear hw;rintro μ ρ w ⟨k,O,hk,hO,hall,hρ,hw⟩
 rw[hρ.eq];clear hρ;repeat first|refine byW ?_|refine byV ?_;intro w hw
 refine W_cond rfl (fun h=>?_) (fun h=>?_)
 ·have hkn:k<64:=by have:=of_decide_eq_true h;omega
  clear h;repeat first|refine byW ?_|refine byV ?_;intro w hw
  refine lStoreE (k:=k) (r:=[.int .i64 (-1)]) ?_
  intro w hw;have hw:Wd Γ1 [.own (.slice (some ao) 64 64) 3 1 (intRows (O.set k (-1))),adjM bm l,.blk b2 (.cells #[.string H.Name,.slice a1 n1 c1,.slice a2 n2 c2,.slice a3 n3 c3,.slice a4 n4 c4,.slice a5 n5 c5] 30)] w:=by
   have e:intRows (O.set k (-1))=(intRows O).set k [.int .i64 (-1)]:=by unfold intRows;rw[List.map_set]
   rw[e];exact hw
  repeat first|refine byW ?_|refine byV ?_;intro w hw
  refine⟨μ-1,by omega,k+1,O.set k (-1),by omega,by simp[hO],fun i hi=>?_,⟨rfl,rfl,rfl,rfl,rfl,trivial⟩,hw⟩
  rw[List.getElem?_set];by_cases e:k=i
  ·subst e;rw[if_pos rfl,if_pos (by omega)]
  ·rw[if_neg e];exact hall i (by omega)
 have hkn:¬k<64:=by have:=of_decide_eq_false h;omega
 have hO2:O=List.replicate 64 (-1):=by
  refine List.ext_getElem? fun i=>?_
  rw[List.getElem?_replicate];by_cases e:i<64
  ·rw[if_pos e];exact hall i (by omega)
  ·rw[if_neg e,List.getElem?_eq_none (by omega)]
 subst hO2;clear h hkn hall hO hk;repeat first|refine byW ?_|refine byV ?_;intro w hw
 refine lBuildSlice [] ?_
 intro aq w hw;refine lBox ?_;intro bq w hw;have hw:Wd Γ1 [hpB bq (.slice (some aq) 0 0),.own (.slice (some aq) 0 0) 122 2 (([]:List Pl).map plV),.own (.slice (some ao) 64 64) 3 1 (intRows (List.replicate 64 (-1))),adjM bm l,.blk b2 (.cells #[.string H.Name,.slice a1 n1 c1,.slice a2 n2 c2,.slice a3 n3 c3,.slice a4 n4 c4,.slice a5 n5 c5] 30)] w:=hw
 refine lY (v:=hpI bq) ?_ (hy:=y_mkI rfl)
 repeat first|refine byW ?_|refine byV ?_;intro w hw
 refine lInv ((qadd_any (n:=s) (d:=0) (by simp) (fun k h1 h2=>by simp at h2) hw).mono fun e w hq=>?_)
 obtain⟨rfl,v0,xs0,hp0,hh0,hw⟩:=hq;refine⟨_,rfl,?_⟩;repeat first|refine byW ?_|refine byV ?_;intro w hw
 refine W_label ?_
 repeat first|refine byW ?_|refine byV ?_;intro w hw
 generalize hM0:1+degS (nbrL H.Links) (List.replicate 64 (-1)) 64=M0
 have hMb:M0≤128001:=by
  have:=degS_le (nb:=nbrL H.Links) (O:=List.replicate 64 (-1)) (B:=2000) (fun x=>by have:=nbr_len (ls:=H.Links) (x:=x);omega) 64
  omega
 have hl0:=hp0.length_eq
 simp only[List.length_singleton]at hl0
 refine W_loop (fun μ ρ w=>∃(v:Value) (xs:List Pl) (O:List Int),μ=xs.length+degS (nbrL H.Links) O 64∧μ≤M0∧HeapN xs xs.length∧Dij (nbrL H.Links) s O xs∧(∀p∈xs,p.2+1000000*(μ:Int)≤1000000*(M0:Int))∧(∀z,0≤z→oat O z≤1000000*(M0:Int))∧Has ρ [(5,.map (some bm)),(6,.slice (some ao) 64 64),(8,hpI bq)]∧Wd Γ1 [hpB bq v,.own v 122 2 (xs.map plV),.own (.slice (some ao) 64 64) 3 1 (intRows O),adjM bm l,.blk b2 (.cells #[.string H.Name,.slice a1 n1 c1,.slice a2 n2 c2,.slice a3 n3 c3,.slice a4 n4 c4,.slice a5 n5 c5] 30)] w) (xs0.length+degS (nbrL H.Links) (List.replicate 64 (-1)) 64) ⟨v0,xs0,List.replicate 64 (-1),rfl,by omega,hh0,?_,?_,fun z _=>by rw[oat_none];omega,⟨rfl,rfl,rfl,trivial⟩,hw⟩ ?_
 ·have e:=List.perm_singleton.1 hp0
  rw[e];exact Dij.init
 ·intro p hp;have e:=List.perm_singleton.1 hp0
  rw[e]at hp;simp only[List.mem_singleton]at hp;subst hp
  simp only[]
  omega
 clear hw hp0 hh0 hl0;rintro μ ρ w ⟨v,xs,O,hμ,hμM,hheap,hD,hbd,hOb,hρ,hw⟩
 rw[hρ.eq];clear hρ;repeat first|refine byW ?_|refine byV ?_;intro w hw
 refine lInv ((qempty_any hw).mono fun e w hq=>?_)
 obtain⟨rfl,hw⟩:=hq;refine⟨_,rfl,?_⟩;repeat first|refine byW ?_|refine byV ?_;intro w hw
 refine W_cond rfl (fun h=>?_) (fun h=>?_)
 ·have h:(!decide ((xs.length:Int)=0))=true:=h
  have hne:xs≠[]:=fun e=>by subst e;simp at h
  clear h;repeat first|refine byW ?_|refine byV ?_;intro w hw
  refine lInv ((qtake_any (by omega) hne hheap hw).mono fun e w hq=>?_)
  obtain⟨x,v,ys,rfl,hp,hmin,hhy,hw⟩:=hq;refine⟨_,rfl,?_⟩;have hpl:=hp.length_eq
  simp only[List.length_cons]at hpl
  have hxm:x∈xs:=hp.mem_iff.1 (by simp)
  have hwx:=hD.way x hxm
  obtain⟨x0,x1⟩:=hwx.rng hn
  have hxn:=hwx.nonneg hn
  have hxb:=hbd x hxm
  obtain⟨y,hy⟩:=get_lt (l:=O) (k:=x.1.toNat) (by have:=hD.len;omega)
  have hoy:oat O x.1=y:=by unfold oat;rw[List.getD_eq_getElem?_getD,hy];rfl
  repeat first|refine byW ?_|refine byV ?_;intro w hw
  refine W_cond rfl (fun h=>?_) (fun h=>?_)
  ·have h:0≤y:=of_decide_eq_true h
   repeat first|refine byW ?_|refine byV ?_;intro w hw
   refine⟨μ-1,by omega,v,ys,O,by omega,by omega,hhy,hD.skip hp (by omega),fun p hpm=>?_,hOb,⟨rfl,rfl,rfl,trivial⟩,hw⟩
   have:=hbd p (hp.mem_iff.1 (by simp[hpm]))
   omega
  ·have h:¬0≤y:=of_decide_eq_false h
   repeat first|refine byW ?_|refine byV ?_;intro w hw
   refine lStoreE (k:=x.1.toNat) (r:=[.int .i64 x.2]) ?_
   intro w hw;have hw:Wd Γ1 [hpB bq v,.own v 122 2 (ys.map plV),.own (.slice (some ao) 64 64) 3 1 (intRows (O.set x.1.toNat x.2)),adjM bm l,.blk b2 (.cells #[.string H.Name,.slice a1 n1 c1,.slice a2 n2 c2,.slice a3 n3 c3,.slice a4 n4 c4,.slice a5 n5 c5] 30)] w:=by
    have e:intRows (O.set x.1.toNat x.2)=(intRows O).set x.1.toNat [.int .i64 x.2]:=by unfold intRows;rw[List.map_set]
    rw[e];exact hw
   obtain⟨va,hva⟩:=zeroOr_some l x.1
   have hra:=hrep x.1 va hva
   obtain⟨aa,na,ca,rfl,hna,hnca,hca⟩:=hra.shape;simp only[List.length_map]at hna
   have hdeg:=degS_set (nb:=nbrL H.Links) (d:=x.2) hD.len (p:=x.1.toNat) (by omega) (by unfold oat at hoy;omega) hxn 64
   rw[if_pos (by omega),show ((x.1.toNat:Nat):Int)=x.1 by omega]at hdeg
   repeat first|refine byW ?_|refine byV ?_;intro w hw
   refine lY (v:=.slice aa na ca) ?_ (hy:=y_lookupZ hw hva (i:=3) rfl rfl rfl)
   repeat first|refine byW ?_|refine byV ?_;intro w hw
   refine W_loop (fun μ2 ρ w=>∃(k:Nat) (v:Value) (zs:List Pl),μ2+k=na∧zs.Perm (((nbrL H.Links x.1).take k).map (fun q=>(q.1,x.2+q.2))++ys)∧HeapN zs zs.length∧Has ρ [(5,.map (some bm)),(6,.slice (some ao) 64 64),(8,hpI bq),(10,.int .i64 x.2),(50,.slice aa na ca),(51,.int .i64 na),(52,.int .i64 k)]∧Wd Γ1 [hpB bq v,.own v 122 2 (zs.map plV),.own (.slice (some ao) 64 64) 3 1 (intRows (O.set x.1.toNat x.2)),adjM bm l,.blk b2 (.cells #[.string H.Name,.slice a1 n1 c1,.slice a2 n2 c2,.slice a3 n3 c3,.slice a4 n4 c4,.slice a5 n5 c5] 30)] w) na ⟨0,v,ys,by omega,.refl _,hhy,⟨rfl,rfl,rfl,rfl,rfl,rfl,rfl,trivial⟩,hw⟩ ?_
   clear hw hhy;rintro μ2 ρ w ⟨k,v,zs,hk,hz,hhz,hρ,hw⟩
   have hzl:=hz.length_eq
   simp only[List.length_append,List.length_map,List.length_take]at hzl
   rw[hρ.eq];clear hρ;repeat first|refine byW ?_|refine byV ?_;intro w hw
   refine W_cond rfl (fun h=>?_) (fun h=>?_)
   ·have hkn:k<na:=by have:=of_decide_eq_true h;omega
    clear h;obtain⟨q,hq⟩:=get_lt (l:=nbrL H.Links x.1) (k:=k) (by omega)
    obtain⟨q0,q1,q2,q3⟩:=hn.rng x.1 q (List.mem_of_getElem? hq)
    repeat first|refine byW ?_|refine byV ?_;intro w hw
    refine lAlloc ?_;intro b12 w hw;refine lStore ?_;intro w hw;have hw:Wd Γ1 [.blk b12 (.cells (plV q).toArray 122),hpB bq v,.own v 122 2 (zs.map plV),.own (.slice (some ao) 64 64) 3 1 (intRows (O.set x.1.toNat x.2)),adjM bm l,.blk b2 (.cells #[.string H.Name,.slice a1 n1 c1,.slice a2 n2 c2,.slice a3 n3 c3,.slice a4 n4 c4,.slice a5 n5 c5] 30)] w:=hw
    repeat first|refine byW ?_|refine byV ?_;intro w hw
    refine lInv ((qadd_any (n:=q.1) (d:=x.2+q.2) (by omega) hhz (hw.ps [2,2])).mono fun e w hq2=>?_)
    obtain⟨rfl,v',ws,hp2,hh2,hw⟩:=hq2;refine⟨_,rfl,?_⟩;have hw:=hw.ds [2]
    repeat first|refine byW ?_|refine byV ?_;intro w hw
    refine⟨μ2-1,by omega,k+1,v',ws,by omega,?_,hh2,⟨rfl,rfl,rfl,rfl,rfl,rfl,rfl,trivial⟩,hw⟩
    rw[take_succ_of hq,List.map_append,List.append_assoc];exact hp2.trans ((hz.cons _).trans List.perm_middle.symm)
   ·have hkn:¬k<na:=by have:=of_decide_eq_false h;omega
    rw[List.take_of_length_le (by omega)]at hz
    have hzl:=hz.length_eq
    simp only[List.length_append,List.length_map]at hzl
    have hD2:=hD.settle hn hp hmin (by omega) hz
    repeat first|refine byW ?_|refine byV ?_;intro w hw
    refine⟨μ-1,by omega,v,zs,O.set x.1.toNat x.2,by omega,by omega,hhz,hD2,fun p hpm=>?_,fun z hz0=>by rw[oat_set hD.len x0 x1 hz0];split;(· omega);exact hOb z hz0,⟨rfl,rfl,rfl,trivial⟩,hw⟩
    rcases List.mem_append.1 (hz.mem_iff.1 hpm) with hpm|hpm
    ·obtain⟨q,hq,rfl⟩:=List.mem_map.1 hpm
     have:=(hn.rng _ _ hq).2.2.2
     simp only[]
     omega
    ·have:=hbd p (hp.mem_iff.1 (by simp[hpm]))
     omega
 ·have h:(!decide ((xs.length:Int)=0))=false:=h
  have he:xs=[]:=by
   have h:decide ((xs.length:Int)=0)=true:=by simpa using h
   have:=of_decide_eq_true h
   exact List.length_eq_zero_iff.1 (by omega)
  subst he;repeat first|refine byW ?_|refine byV ?_;intro w hw
  exact⟨_,rfl,Γ1,_,O,hle,rfl,hD.len,fun x h0 h1=>⟨hD.final hn h0 h1,by have:=hOb x h0;omega⟩,hw.ds [0,0,1,1]⟩
theorem distances_any{Γ:Gho}{u:Value}{H:HwT}[hh:HwR Γ u H](hL:LinksOk H.Links){s:Int}(hs:0≤s∧s<64){S:List Res}{w:World}(hw:Wd Γ S w) :
  Calls Tryz.prog 43 #[u,.int .i64 s] w fun e w'=>∃v O,e=.returned v∧O.length=64∧(∀x,0≤x→x<64→Dst (nbrL H.Links) s x (oat O x)∧oat O x≤128001000000)∧Wd Γ (.own v 3 1 (intRows O)::S) w':=by
 haveI:HwR (hpG Γ w) u H:=hh.mono (hpG_le hw)
 refine(distances_core (Γ:=hpG Γ w) hL hs (hpG_wd hw)).mono fun e w' hq=>?_
 obtain⟨Γ',v,O,hle,rfl,hO,hd,hw'⟩:=hq;exact⟨v,O,rfl,hO,hd,wd_keptG (R:=[_]) hw hle own_noimm hw'⟩
noncomputable def dstI(nb:Int→List Pl)(s x:Int):Int:=@Classical.epsilon _ ⟨(0:Int)⟩ (Dst nb s x)
theorem Dst.eq{nb:Int→List Pl}{s x d:Int}(h:Dst nb s x d):dstI nb s x=d:=(Classical.epsilon_spec_aux ⟨0⟩ (Dst nb s x) ⟨d,h⟩).uniq h
theorem valid_all{H:HwT}(h:validS H=0):namesB H=true∧countsB H=true∧(coresRB H&&regionsRB H)=true∧alignRB H=true∧uniqueB H=true∧knownB H=true∧hierB H=true∧disjB H=true∧connB H=true:=by
 unfold validS at h;by_cases e1:namesB H=false
 ·rw[if_pos e1]at h;cases h
 rw[if_neg e1]at h;by_cases e2:countsB H=false
 ·rw[if_pos e2]at h;cases h
 rw[if_neg e2]at h;by_cases e3:(coresRB H&&regionsRB H)=false
 ·rw[if_pos e3]at h;cases h
 rw[if_neg e3]at h;by_cases e4:alignRB H=false
 ·rw[if_pos e4]at h;cases h
 rw[if_neg e4]at h;by_cases e5:uniqueB H=false
 ·rw[if_pos e5]at h;cases h
 rw[if_neg e5]at h;by_cases e6:knownB H=false
 ·rw[if_pos e6]at h;cases h
 rw[if_neg e6]at h;by_cases e7:hierB H=false
 ·rw[if_pos e7]at h;cases h
 rw[if_neg e7]at h;by_cases e8:disjB H=false
 ·rw[if_pos e8]at h;cases h
 rw[if_neg e8]at h;by_cases e9:connB H=false
 ·rw[if_pos e9]at h;cases h
 exact⟨by simpa using e1,by simpa using e2,by simpa using e3,by simpa using e4,by simpa using e5,by simpa using e6,by simpa using e7,by simpa using e8,by simpa using e9⟩
theorem valid_links{H:HwT}(h:validS H=0):LinksOk H.Links:=by
 obtain⟨-,h2,h3,-⟩:=valid_all h
 obtain⟨-,-,-,l3,-⟩:=counts_le h2
 refine⟨by omega,fun l hl=>?_⟩
 unfold coresRB at h3;simp only[Bool.and_eq_true]at h3
 have:=List.all_eq_true.1 h3.1.2.2 l hl
 simp[linkRB,isNodeB,isLatB]at this
 omega
noncomputable def checkS(H:HwT)(a b:Int):Int:=if validS H=0 then (if a<0∨64≤a∨b<0∨64≤b then 6 else 0) else validS H
instance pg_check{Γ:Gho}{u:Value}{H:HwT}[hh:HwR Γ u H](a b:Int):PG Tryz.prog Γ 42 [u,.int .i64 a,.int .i64 b] (.int .i64 (checkS H a b)):=⟨fun S w hw=>by
 have hh':=hh
 obtain⟨a1,n1,c1,a2,n2,c2,a3,n3,c3,a4,n4,c4,a5,n5,c5,cs,rfl,-⟩:=hh.h;refine calls_of_W Tryz.func42 rfl rfl ?_
 repeat first|refine byW ?_|refine byV ?_;intro w hw
 refine lBox ?_;intro b1 w hw;have hw:Wd Γ (.blk b1 (.cells #[.string H.Name,.slice a1 n1 c1,.slice a2 n2 c2,.slice a3 n3 c3,.slice a4 n4 c4,.slice a5 n5 c5] 30)::S) w:=hw
 unfold checkS;repeat first|refine byW ?_|refine byV ?_;intro w hw
 refine W_cond rfl (fun h=>?_) (fun h=>?_)
 ·have h:¬validS H=0:=by simpa using h
  rw[if_neg h];repeat first|refine byW ?_|refine byV ?_;intro w hw
  exact⟨_,rfl,rfl,hw.drop⟩
 ·have h:validS H=0:=by simpa using h
  rw[if_pos h];repeat first|refine byW ?_|refine byV ?_;intro w hw
  refine W_cond rfl (fun h2=>?_) (fun h2=>?_)
  ·have h2:(((decide (a<0)||decide (a≥64))||decide (b<0))||decide (b≥64))=true:=h2
   rw[if_pos (by simp at h2;omega)]
   repeat first|refine byW ?_|refine byV ?_;intro w hw
   exact⟨_,rfl,rfl,hw.drop⟩
  ·have h2:(((decide (a<0)||decide (a≥64))||decide (b<0))||decide (b≥64))=false:=h2
   rw[if_neg (by simp at h2;omega)]
   repeat first|refine byW ?_|refine byV ?_;intro w hw
   exact⟨_,rfl,rfl,hw.drop⟩⟩
noncomputable def distS(H:HwT)(a b:Int):Int×Int:=if checkS H a b=0 then (if dstI (nbrL H.Links) a b<0 then (0,60) else (dstI (nbrL H.Links) a b,0)) else (0,checkS H a b)
theorem check_ok{H:HwT}{a b:Int}(h:checkS H a b=0):validS H=0∧0≤a∧a<64∧0≤b∧b<64:=by
 unfold checkS at h;by_cases e:validS H=0
 ·rw[if_pos e]at h;by_cases e2:a<0∨64≤a∨b<0∨64≤b
  ·rw[if_pos e2]at h;cases h
  ·exact⟨e,by omega,by omega,by omega,by omega⟩
 ·rw[if_neg e]at h;exact absurd h e
instance pg_Distance{Γ:Gho}{u:Value}{H:HwT}[hh:HwR Γ u H](a b:Int):PG Tryz.prog Γ 14 [u,.int .i64 a,.int .i64 b] (.tuple #[.int .i64 (distS H a b).1,.int .i64 (distS H a b).2]):=⟨fun S w hw=>by
 have hh':=hh
 obtain⟨a1,n1,c1,a2,n2,c2,a3,n3,c3,a4,n4,c4,a5,n5,c5,cs,rfl,-⟩:=hh.h;refine calls_of_W Tryz.func14 rfl rfl ?_
 repeat first|refine byW ?_|refine byV ?_;intro w hw
 refine lBox ?_;intro b1 w hw;have hw:Wd Γ (.blk b1 (.cells #[.string H.Name,.slice a1 n1 c1,.slice a2 n2 c2,.slice a3 n3 c3,.slice a4 n4 c4,.slice a5 n5 c5] 30)::S) w:=hw
 unfold distS;repeat first|refine byW ?_|refine byV ?_;intro w hw
 refine W_cond rfl (fun h=>?_) (fun h=>?_)
 ·have h:¬checkS H a b=0:=by simpa using h
  rw[if_neg h];repeat first|refine byW ?_|refine byV ?_;intro w hw
  exact⟨_,rfl,rfl,hw.drop⟩
 have h:checkS H a b=0:=by simpa using h
 rw[if_pos h];obtain⟨hv,ha0,ha1,hb0,hb1⟩:=check_ok h
 repeat first|refine byW ?_|refine byV ?_;intro w hw
 refine lCall ((distances_any (H:=H) (valid_links hv) ⟨ha0,ha1⟩ hw).mono fun e w hq=>?_)
 obtain⟨v,O,rfl,hO,hd,hw⟩:=hq;obtain⟨ao,no,co,rfl,hno,hnc,-⟩:=hw.own_shape (i:=0) rfl
 simp only[intRows,List.length_map]at hno
 obtain⟨y,hy⟩:=get_lt (l:=O) (k:=b.toNat) (by omega)
 have hyb:oat O b=y:=by unfold oat;rw[List.getD_eq_getElem?_getD,hy];rfl
 have hdb:=(hd b hb0 hb1).1
 rw[hyb]at hdb;rw[hdb.eq];refine⟨_,rfl,?_⟩;repeat first|refine byW ?_|refine byV ?_;intro w hw
 refine W_cond rfl (fun h=>?_) (fun h=>?_)
 ·have h:y<0:=of_decide_eq_true h
  rw[if_pos h];repeat first|refine byW ?_|refine byV ?_;intro w hw
  exact⟨_,rfl,rfl,hw.ds [0,0]⟩
 ·have h:¬y<0:=of_decide_eq_false h
  rw[if_neg h];repeat first|refine byW ?_|refine byV ?_;intro w hw
  exact⟨_,rfl,rfl,hw.ds [0,0]⟩⟩
def stepF(left:Int→Int)(c nx:Int)(q:Pl):Int:=if q.2+left q.1=left c∧(nx<0∨q.1<nx) then q.1 else nx
def nextF(nb:Int→List Pl)(left:Int→Int)(c:Int):Int:=(nb c).foldl (stepF left c) (-1)
inductive PathP (nb:Int→List Pl) (left:Int→Int) (b:Int):Int→List Int→Prop
 | nil:PathP nb left b b []
 | cons {c:Int} {l:List Int}:c≠b→PathP nb left b (nextF nb left c) l→PathP nb left b c (nextF nb left c::l)
theorem fold_next{left : Int → Int}{c : Int} : ∀ (l : List Pl) (nx : Int), (nx = -1 ∨ 0 ≤ nx) → (∀ q ∈ l, 0 ≤ q.1) →
    (l.foldl (stepF left c) nx=nx∧∀q∈l,q.2+left q.1=left c→0≤nx∧nx≤q.1) ∨
    (∃q∈l,q.2+left q.1=left c∧l.foldl (stepF left c) nx=q.1∧(∀r∈l,r.2+left r.1=left c→q.1≤r.1)∧(0≤nx→q.1≤nx))
  | [],nx,_,_=>.inl ⟨rfl,by simp⟩
  | q::l,nx,hx,hl=>by
    have hq0:=hl q (by simp)
    rw[List.foldl_cons];by_cases e:q.2+left q.1=left c∧(nx<0∨q.1<nx)
    · have hs:stepF left c nx q=q.1:=by unfold stepF;rw[if_pos e]
      rw[hs];rcases fold_next l q.1 (.inr hq0) (fun r hr=>hl r (by simp[hr])) with⟨h1,h2⟩|⟨r,hr,h1,h2,h3,h4⟩
      · refine .inr ⟨q,by simp,e.1,h1,fun r hr he=>?_,fun h0=>by omega⟩
        rcases List.mem_cons.1 hr with rfl|hr
        · omega
        · exact(h2 r hr he).2
      · refine .inr ⟨r,by simp[hr],h1,h2,fun t ht he=>?_,fun h0=>by have:=h4 hq0;omega⟩
        rcases List.mem_cons.1 ht with rfl|ht
        · exact h4 hq0
        · exact h3 t ht he
    · have hs:stepF left c nx q=nx:=by unfold stepF;rw[if_neg e]
      rw[hs];rcases fold_next l nx hx (fun r hr=>hl r (by simp[hr])) with⟨h1,h2⟩|⟨r,hr,h1,h2,h3,h4⟩
      · refine .inl ⟨h1,fun r hr he=>?_⟩
        rcases List.mem_cons.1 hr with rfl|hr
        · constructor <;> · have : ¬ (nx < 0 ∨ r.1 < nx) := fun hh => e ⟨he, hh⟩
                            omega
        · exact h2 r hr he
      · refine .inr ⟨r,by simp[hr],h1,h2,fun t ht he=>?_,h4⟩
        rcases List.mem_cons.1 ht with rfl|ht
        · have:¬(nx<0∨t.1<nx):=fun hh=>e ⟨he,hh⟩
          have:=h4 (by omega)
          omega
        · exact h3 t ht he
theorem nbr_sym{ls:List LinkT}{x:Int}{q:Pl}(h:q∈nbrL ls x):(x,q.2)∈nbrL ls q.1:=by
 unfold nbrL at h ⊢
 obtain⟨l,hl,hq⟩:=List.mem_flatMap.1 h
 refine List.mem_flatMap.2 ⟨l,hl,?_⟩
 rcases List.mem_append.1 hq with hq|hq
 ·split at hq
  ·rename_i e;simp only[List.mem_singleton]at hq;subst hq;subst e;simp
  ·simp at hq
 ·split at hq
  ·rename_i e;simp only[List.mem_singleton]at hq;subst hq;subst e;simp
  ·simp at hq
theorem nbr_pos{ls:List LinkT}{x:Int}{q:Pl}(hL:LinksOk ls)(h:q∈nbrL ls x):1≤q.2:=by
 unfold nbrL at h;obtain⟨l,hl,hq⟩:=List.mem_flatMap.1 h
 have:=hL.2 l hl
 rcases List.mem_append.1 hq with hq|hq <;>
 ·split at hq
  ·simp only[List.mem_singleton]at hq;subst hq;simp only[];omega
  ·simp at hq
theorem next_ok{ls:List LinkT}{b c:Int}{left:Int→Int}(hL:LinksOk ls)(hb:0≤b∧b<64)(hl:∀x,0≤x→x<64→Dst (nbrL ls) b x (left x))(hc:0≤c∧c<64)(h0:0≤left c)(hne:c≠b) :
  ∃q∈nbrL ls c,q.2+left q.1=left c∧nextF (nbrL ls) left c=q.1∧(∀r∈nbrL ls c,r.2+left r.1=left c→q.1≤r.1)∧0≤left q.1∧1≤q.2∧0≤q.1∧q.1<64:=by
 have hn:=nbr_ok hL hb
 have hex:∃q∈nbrL ls c,q.2+left q.1=left c:=by
  rcases hl c hc.1 hc.2 with⟨_,h1,h2⟩|⟨h1,-⟩
  ·generalize hd:left c=d at *
   cases h1 with
   | refl=>exact(hne rfl).elim
   | @step x d' q hx hq=>
    have hxr:=hx.rng hn
    refine⟨(x,q.2),nbr_sym hq,?_⟩
    have hxn:=hx.nonneg hn
    rcases hl x hxr.1 hxr.2 with⟨_,k1,k2⟩|⟨_,k2⟩
    ·have:=k2 _ hx
     have:=h2 _ (k1.step hq)
     simp only[]
     omega
    ·exact(k2 _ hx).elim
  ·omega
 obtain⟨q0,hq0,hq1⟩:=hex;have hz:=hn.rng c
 rcases fold_next (left:=left) (c:=c) (nbrL ls c) (-1) (.inl rfl) (fun q hq=>(hz q hq).1) with⟨h1,h2⟩|⟨q,hq,h1,h2,h3,-⟩
 ·have:=(h2 q0 hq0 hq1).1;omega
 ·refine⟨q,hq,h1,h2,h3,?_,nbr_pos hL hq,(hz q hq).1,(hz q hq).2.1⟩
  rcases hl q.1 (hz q hq).1 (hz q hq).2.1 with⟨k0,-,-⟩|⟨k1,k2⟩
  ·exact k0
  ·rcases hl c hc.1 hc.2 with⟨_,m1,-⟩|⟨m1,-⟩
   ·exact(k2 _ (m1.step hq)).elim
   ·omega
end Go.Proofs.YtfoggcgogafocaaGreat
end
section
open Go Mk
namespace Go.Proofs.YtfoggcgogafocaaGreat
theorem Way.least{nb:Int→List Pl}{s L:Int}(hn:NbOk nb s L){x:Int}:∀(n:Nat) (d:Int),Way nb s x d→d.toNat≤n→∃m,Way nb s x m∧∀d',Way nb s x d'→m≤d'
 | 0,d,h,hd=>⟨d,h,fun d' h'=>by have:=h'.nonneg hn;have:=h.nonneg hn;omega⟩
 | n+1,d,h,hd=>by
  by_cases e:∃d',Way nb s x d'∧d'<d
  ·obtain⟨d',h',hlt⟩:=e;have:=h'.nonneg hn
   exact Way.least hn n d' h' (by omega)
  ·exact⟨d,h,fun d' h'=>by
    by_cases hlt:d'<d
    ·exact(e ⟨d',h',hlt⟩).elim
    ·omega⟩
theorem dst_ex{nb:Int→List Pl}{s L:Int}(hn:NbOk nb s L)(x:Int):Dst nb s x (dstI nb s x):=by
 have:∃d,Dst nb s x d:=by
  by_cases h:∃d,Way nb s x d
  ·obtain⟨d,h⟩:=h;obtain⟨m,h1,h2⟩:=Way.least hn d.toNat d h (Nat.le_refl _)
   exact⟨m,.inl ⟨h1.nonneg hn,h1,h2⟩⟩
  ·exact⟨-1,.inr ⟨rfl,fun d hd=>h ⟨d,hd⟩⟩⟩
 obtain⟨d,hd⟩:=this;rw[hd.eq];exact hd
noncomputable def cntD(nb:Int→List Pl)(s k:Int):Nat:=(List.range 64).countP fun y:Nat=>decide (0≤dstI nb s y)&&decide (dstI nb s y≤k)
theorem countP_lt{α:Type}{p q:α→Bool}:∀(l:List α),(∀x∈l,p x=true→q x=true)→(∃x∈l,q x=true∧p x=false)→l.countP p+1≤l.countP q
 | [],_,⟨x,hx,_⟩=>by simp at hx
 | y::l,h,⟨x,hx,h1,h2⟩=>by
  rw[List.countP_cons,List.countP_cons];have hle:l.countP p≤l.countP q:=List.countP_mono_left fun x hx=>h x (by simp[hx])
  have hy:=h y (by simp)
  rcases List.mem_cons.1 hx with rfl|hx
  ·rw[h1,h2];simp;omega
  ·have ih:=countP_lt l (fun x hx=>h x (by simp[hx])) ⟨x,hx,h1,h2⟩
   by_cases e:p y=true
   ·rw[e,hy e];simp;omega
   ·have e:p y=false:=by simpa using e
    rw[e];simp only[Bool.false_eq_true,if_false];omega
theorem dst_bound{ls:List LinkT}{s:Int}(hL:LinksOk ls)(hs:0≤s∧s<64):∀(n:Nat) (x:Int),(dstI (nbrL ls) s x).toNat≤n→0≤dstI (nbrL ls) s x→dstI (nbrL ls) s x+1000000≤1000000*(cntD (nbrL ls) s (dstI (nbrL ls) s x):Int):=by
 have hn:=nbr_ok hL hs
 have hself:∀x,0≤x→x<64→0≤dstI (nbrL ls) s x→1≤cntD (nbrL ls) s (dstI (nbrL ls) s x):=fun x h0 h1 hd=>by
  unfold cntD;refine List.countP_pos_iff.2 ⟨x.toNat,by simp;omega,?_⟩
  rw[show ((x.toNat:Nat):Int)=x by omega]
  simp[hd]
 intro n;induction n with
 | zero=>
  intro x hx h0;have hr:0≤x∧x<64:=by
   rcases dst_ex hn x with⟨-,h,-⟩|⟨h,-⟩
   ·exact h.rng hn
   ·omega
  have:=hself x hr.1 hr.2 h0
  omega
 | succ n ih=>
  intro x hx h0;rcases dst_ex hn x with⟨-,hw,hmin⟩|⟨h,-⟩
  ·have hr:=hw.rng hn
   generalize hd:dstI (nbrL ls) s x=d at *
   cases hw with
   | refl=>
    have:=hself s hs.1 hs.2 (by omega)
    rw[hd]at this;omega
   | @step u d' q hu hq=>
    have hur:=hu.rng hn
    have hqp:=nbr_pos hL hq
    have hqr:=hn.rng _ _ hq
    rcases dst_ex hn u with⟨hu0,hu1,hu2⟩|⟨-,h⟩
    ·have e1:=hu2 _ hu
     have e2:=hmin _ (hu1.step hq)
     have hi:=ih u (by omega) hu0
     have hc:cntD (nbrL ls) s (dstI (nbrL ls) s u)+1≤cntD (nbrL ls) s (d'+q.2):=by
      unfold cntD;refine countP_lt _ (fun y _ hy=>?_) ⟨q.1.toNat,by simp;omega,?_,?_⟩
      ·simp at hy ⊢;omega
      ·rw[show ((q.1.toNat:Nat):Int)=q.1 by omega,hd];simp;omega
      ·rw[show ((q.1.toNat:Nat):Int)=q.1 by omega,hd];simp;omega
     omega
    ·exact(h _ hu).elim
  ·omega
theorem dst_le{ls:List LinkT}{s x:Int}(hL:LinksOk ls)(hs:0≤s∧s<64):-1≤dstI (nbrL ls) s x∧dstI (nbrL ls) s x≤63000000:=by
 have hn:=nbr_ok hL hs
 rcases dst_ex hn x with⟨h0,-⟩|⟨h,-⟩
 ·have:=dst_bound hL hs _ x (Nat.le_refl _) h0
  have h64:cntD (nbrL ls) s (dstI (nbrL ls) s x)≤64:=by
   unfold cntD;exact Nat.le_trans List.countP_le_length (by simp)
  omega
 ·omega
theorem Way.trans{nb:Int→List Pl}{s x d:Int}(h:Way nb s x d){y e:Int}(k:Way nb x y e):Way nb s y (d+e):=by
 induction k with
 | refl=>rw[Int.add_zero];exact h
 | step _ hq ih=>rw[←Int.add_assoc];exact ih.step hq
theorem Way.one{nb:Int→List Pl}{x:Int}{q:Pl}(h:q∈nb x):Way nb x q.1 q.2:=by
 have:=(Way.refl (nb:=nb) (s:=x)).step h
 rwa [Int.zero_add]at this
theorem Way.symm{ls:List LinkT}{s x d:Int}(h:Way (nbrL ls) s x d):Way (nbrL ls) x s d:=by
 induction h with
 | refl=>exact .refl
 | @step x d q _ hq ih=>
  have:=(Way.one (nbr_sym hq)).trans ih
  simp only[]at this
  rwa [Int.add_comm]at this
theorem dst_sym{ls:List LinkT}{s x d:Int}(h:Dst (nbrL ls) s x d):Dst (nbrL ls) x s d:=by
 rcases h with⟨h0,h1,h2⟩|⟨h1,h2⟩
 ·exact .inl ⟨h0,h1.symm,fun d' hd=>h2 d' hd.symm⟩
 ·exact .inr ⟨h1,fun d' hd=>h2 d' hd.symm⟩
theorem dstI_sym{ls:List LinkT}{s x:Int}(hL:LinksOk ls)(hs:0≤s∧s<64):dstI (nbrL ls) x s=dstI (nbrL ls) s x:=(dst_sym (dst_ex (nbr_ok hL hs) x)).eq
theorem mem_nbr_ab{ls:List LinkT}{l:LinkT}(h:l∈ls):(l.B,l.Latency)∈nbrL ls l.A:=List.mem_flatMap.2 ⟨l,h,by simp⟩
theorem mem_nbr_ba{ls:List LinkT}{l:LinkT}(h:l∈ls):(l.A,l.Latency)∈nbrL ls l.B:=List.mem_flatMap.2 ⟨l,h,by simp⟩
theorem reach_way{ls:List LinkT}{s x:Int}(h:Reach ls s x):∃d,Way (nbrL ls) s x d:=by
 induction h with
 | refl=>exact⟨0,.refl⟩
 | ab hl _ ih=>obtain⟨d,ih⟩:=ih;exact⟨_,ih.step (mem_nbr_ab hl)⟩
 | ba hl _ ih=>obtain⟨d,ih⟩:=ih;exact⟨_,ih.step (mem_nbr_ba hl)⟩
theorem dstI_reach{ls:List LinkT}{s a b:Int}(hL:LinksOk ls)(ha:0≤a∧a<64)(h1:Reach ls s a)(h2:Reach ls s b):0≤dstI (nbrL ls) a b:=by
 obtain⟨d,h1⟩:=reach_way h1
 obtain⟨e,h2⟩:=reach_way h2
 rcases dst_ex (nbr_ok hL ha) b with⟨h,-⟩|⟨-,h⟩
 ·exact h
 ·exact(h _ (h1.symm.trans h2)).elim
def matchB(a b:Int)(l:LinkT):Bool:=(decide (l.A=a)&&decide (l.B=b))||(decide (l.A=b)&&decide (l.B=a))
theorem match_key{a b:Int}{l m:LinkT}(hl:matchB a b l=true)(hm:matchB a b m=true):linkKey l=linkKey m:=by
 simp only[matchB,Bool.or_eq_true,Bool.and_eq_true,decide_eq_true_eq]at hl hm
 unfold linkKey;rcases hl with⟨h1,h2⟩|⟨h1,h2⟩ <;> rcases hm with⟨k1,k2⟩|⟨k1,k2⟩ <;> rw[h1,h2,k1,k2] <;>
 ·ext
  ·simp only[];split <;> split <;> omega
  ·simp only[];split <;> split <;> omega
theorem nbr_match{ls:List LinkT}{a:Int}{q:Pl}(h:q∈nbrL ls a):∃l∈ls,matchB a q.1 l=true∧l.Latency=q.2:=by
 unfold nbrL at h;obtain⟨l,hl,hq⟩:=List.mem_flatMap.1 h
 refine⟨l,hl,?_⟩
 rcases List.mem_append.1 hq with hq|hq
 ·split at hq
  ·rename_i e;simp only[List.mem_singleton]at hq;subst hq;simp[matchB,e]
  ·simp at hq
 ·split at hq
  ·rename_i e;simp only[List.mem_singleton]at hq;subst hq;simp[matchB,e]
  ·simp at hq
theorem match_one{a b:Int}:∀ {ls:List LinkT},(ls.map linkKey).Nodup→∀l∈ls,matchB a b l=true→ls.filter (matchB a b)=[l]
 | [],_,l,hl,_=>by simp at hl
 | x::ls,hn,l,hl,hm=>by
  simp only[List.map_cons,List.nodup_cons]at hn
  rcases List.mem_cons.1 hl with rfl|hl
  ·rw[List.filter_cons,if_pos hm,List.filter_eq_nil_iff.2 (fun m hm2 hm3=>hn.1 (by rw[match_key hm hm3];exact List.mem_map_of_mem hm2))]
  ·have hx:¬matchB a b x=true:=fun hx=>hn.1 (by rw[match_key hx hm];exact List.mem_map_of_mem hl)
   rw[List.filter_cons,if_neg hx];exact match_one hn.2 l hl hm
abbrev Mx:=Int→Int→Int
def nIn(x:Int):Prop:=0≤x∧x<64
inductive WM (E:Mx) (m:Int):Int→Int→Int→Prop
 | base {i k:Int}:nIn i→nIn k→0≤E i k→WM E m i k (E i k)
 | join {i c k x y:Int}:c<m→WM E m i c x→WM E m c k y→WM E m i k (x+y)
section
variable {E:Mx}{m i k L:Int}
theorem WM.nonneg(h:WM E m i k L):0≤L:=by
 induction h with
 | base _ _ h=>exact h
 | join _ _ _ h1 h2=>omega
theorem WM.rng(h:WM E m i k L):nIn i∧nIn k:=by
 induction h with
 | base h1 h2 _=>exact⟨h1,h2⟩
 | join _ _ _ h1 h2=>exact⟨h1.1,h2.2⟩
theorem WM.more(h:WM E m i k L):WM E (m+1) i k L:=by
 induction h with
 | base h1 h2 h3=>exact .base h1 h2 h3
 | join hc _ _ h1 h2=>exact .join (by omega) h1 h2
theorem WM.step(h:WM E (m+1) i k L):∃L',L'≤L∧(WM E m i k L'∨∃a b,L'=a+b∧WM E m i m a∧WM E m m k b):=by
 induction h with
 | base h1 h2 h3=>exact⟨_,Int.le_refl _,.inl (.base h1 h2 h3)⟩
 | @join i c k x y hc _ _ ih1 ih2=>
  obtain⟨x',hx,h1⟩:=ih1;obtain⟨y',hy,h2⟩:=ih2;by_cases e:c<m
  ·rcases h1 with h1|⟨a,b,rfl,ha,hb⟩ <;> rcases h2 with h2|⟨a2,b2,rfl,ha2,hb2⟩
   ·exact⟨x'+y',by omega,.inl (.join e h1 h2)⟩
   ·exact⟨x'+a2+b2,by omega,.inr ⟨x'+a2,b2,rfl,.join e h1 ha2,hb2⟩⟩
   ·exact⟨a+(b+y'),by omega,.inr ⟨a,b+y',rfl,ha,.join e hb h2⟩⟩
   ·have:=hb.nonneg;have:=ha2.nonneg
    exact⟨a+b2,by omega,.inr ⟨a,b2,rfl,ha,hb2⟩⟩
  ·have e:c=m:=by omega
   subst e;rcases h1 with h1|⟨a,b,rfl,ha,hb⟩ <;> rcases h2 with h2|⟨a2,b2,rfl,ha2,hb2⟩
   ·exact⟨x'+y',by omega,.inr ⟨x',y',rfl,h1,h2⟩⟩
   ·have:=ha2.nonneg
    exact⟨x'+b2,by omega,.inr ⟨x',b2,rfl,h1,hb2⟩⟩
   ·have:=hb.nonneg
    exact⟨a+y',by omega,.inr ⟨a,y',rfl,ha,h2⟩⟩
   ·have:=hb.nonneg;have:=ha2.nonneg
    exact⟨a+b2,by omega,.inr ⟨a,b2,rfl,ha,hb2⟩⟩
end
def OkM(E:Mx)(m i k d:Int):Prop:=(d = -1∧∀L,¬WM E m i k L)∨(0≤d∧WM E m i k d∧∀L,WM E m i k L→d≤L)
theorem OkM.zero{E:Mx}(hE:∀i k,E i k = -1∨0≤E i k){i k:Int}(hi:nIn i)(hk:nIn k):OkM E 0 i k (E i k):=by
 have hb:∀ {i k L:Int},WM E 0 i k L→L=E i k:=fun {i k L} h=>by
  induction h with
  | base=>rfl
  | join hc h1 h2=>have:=h1.rng.2;unfold nIn at this;omega
 rcases hE i k with h|h
 ·refine .inl ⟨h,fun L hL=>?_⟩
  have h1:=hb hL
  have h2:=hL.nonneg
  omega
 ·exact .inr ⟨h,.base hi hk h,fun L hL=>by rw[hb hL];exact Int.le_refl _⟩
def FW(E D:Mx)(m i k:Int):Prop:=∀a b,nIn a→nIn b→if a<i∨(a=i∧b<k) then OkM E (m+1) a b (D a b) else OkM E m a b (D a b)
def updM(D:Mx)(a b v:Int):Mx:=fun x y=>if x=a∧y=b then v else D x y
def relaxB(D:Mx)(m i k:Int):Bool:=(decide (0≤D i m)&&decide (0≤D m k))&&(decide (D i k<0)||decide (D i m+D m k<D i k))
section
variable {E D:Mx}{m i k:Int}
theorem FW.either(h:FW E D m i k){a b:Int}(ha:nIn a)(hb:nIn b):(D a b = -1∨0≤D a b)∧(0≤D a b→WM E (m+1) a b (D a b))∧(∀L,WM E m a b L→0≤D a b∧D a b≤L):=by
 have h1:=h a b ha hb
 split at h1
 ·rcases h1 with⟨h2,h3⟩|⟨h2,h3,h4⟩
  ·exact⟨.inl h2,fun h5=>by omega,fun L hL=>absurd hL.more (h3 L)⟩
  ·exact⟨.inr h2,fun _=>h3,fun L hL=>⟨h2,h4 L hL.more⟩⟩
 ·rcases h1 with⟨h2,h3⟩|⟨h2,h3,h4⟩
  ·exact⟨.inl h2,fun h5=>by omega,fun L hL=>absurd hL (h3 L)⟩
  ·exact⟨.inr h2,fun _=>h3.more,fun L hL=>⟨h2,h4 L hL⟩⟩
theorem FW.next(h:FW E D m i k)(hm:nIn m)(hi:nIn i)(hk:nIn k):FW E (if relaxB D m i k=true then updM D i k (D i m+D m k) else D) m i (k+1):=by
 intro a b ha hb;by_cases e:a=i∧b=k
 ·obtain⟨rfl,rfl⟩:=e;rw[if_pos (by omega)]
  obtain⟨p1,p2,p3⟩:=h.either hi hm
  obtain⟨q1,q2,q3⟩:=h.either hm hk
  have h0:=h a b hi hk
  rw[if_neg (by omega)]at h0
  by_cases c:relaxB D m a b=true
  ·rw[if_pos c];unfold relaxB at c;simp only[Bool.and_eq_true,Bool.or_eq_true,decide_eq_true_eq]at c
   obtain⟨⟨c1,c2⟩,c3⟩:=c;have hv:updM D a b (D a m+D m b) a b=D a m+D m b:=by unfold updM;rw[if_pos ⟨rfl,rfl⟩]
   rw[hv];refine .inr ⟨by omega,.join (by omega) (p2 c1) (q2 c2),fun L hL=>?_⟩
   obtain⟨L',hL',hs⟩:=hL.step;rcases hs with hs|⟨x,y,rfl,hx,hy⟩
   ·rcases h0 with⟨g1,g2⟩|⟨g1,g2,g3⟩
    ·exact absurd hs (g2 L')
    ·have:=g3 L' hs;omega
   ·have:=p3 x hx;have:=q3 y hy;omega
  ·rw[if_neg c];unfold relaxB at c;simp only[Bool.and_eq_true,Bool.or_eq_true,decide_eq_true_eq]at c
   rcases h0 with⟨g1,g2⟩|⟨g1,g2,g3⟩
   ·refine .inl ⟨g1,fun L hL=>?_⟩
    obtain⟨L',hL',hs⟩:=hL.step;rcases hs with hs|⟨x,y,rfl,hx,hy⟩
    ·exact g2 L' hs
    ·have:=p3 x hx;have:=q3 y hy
     exact c ⟨⟨by omega,by omega⟩,.inl (by omega)⟩
   ·refine .inr ⟨g1,g2.more,fun L hL=>?_⟩
    obtain⟨L',hL',hs⟩:=hL.step;rcases hs with hs|⟨x,y,rfl,hx,hy⟩
    ·have:=g3 L' hs;omega
    ·have:=p3 x hx;have:=q3 y hy
     have:¬D a m+D m b<D a b:=fun hlt=>c ⟨⟨by omega,by omega⟩,.inr hlt⟩
     omega
 ·have hv:(if relaxB D m i k=true then updM D i k (D i m+D m k) else D) a b=D a b:=by
   split
   ·unfold updM;rw[if_neg e]
   ·rfl
  rw[hv];have h0:=h a b ha hb
  by_cases c:a<i∨(a=i∧b<k)
  ·rw[if_pos c]at h0;rw[if_pos (by omega)];exact h0
  ·rw[if_neg c]at h0;rw[if_neg (by omega)];exact h0
theorem FW.row(h:FW E D m i 64):FW E D m (i+1) 0:=fun a b ha hb=>by
 have h0:=h a b ha hb
 unfold nIn at hb;by_cases c:a<i∨(a=i∧b<64)
 ·rw[if_pos c]at h0;rw[if_pos (by omega)];exact h0
 ·rw[if_neg c]at h0;rw[if_neg (by omega)];exact h0
theorem FW.phase(h:FW E D m 64 0):FW E D (m+1) 0 0:=fun a b ha hb=>by
 have h0:=h a b ha hb
 unfold nIn at ha hb;rw[if_pos (by omega)]at h0
 rw[if_neg (by omega)]
 exact h0
end
structure LinkM(ls:List LinkT)(E:Mx):Prop where
 neg:∀i k,E i k = -1∨0≤E i k
 self:∀i,nIn i→E i i=0
 link:∀i k,nIn i→nIn k→i≠k→0≤E i k→∃l∈ls,((l.A=i∧l.B=k)∨(l.A=k∧l.B=i))∧E i k=l.Latency
 has:∀l∈ls,E l.A l.B=l.Latency∧E l.B l.A=l.Latency
section
variable {ls:List LinkT}{E:Mx}{m i k L:Int}
theorem LinkM.nbr(h:LinkM ls E){q:Pl}(hq:q∈nbrL ls i):E i q.1=q.2:=by
 obtain⟨l,hl,hq⟩:=List.mem_flatMap.1 hq
 have:=h.has l hl
 rcases List.mem_append.1 hq with h1|h1 <;> split at h1 <;> simp at h1
 ·rename_i e;subst e;rw[h1];exact this.1
 ·rename_i e;subst e;rw[h1];exact this.2
theorem LinkM.way(h:LinkM ls E)(hw:WM E m i k L):Way (nbrL ls) i k L:=by
 induction hw with
 | @base i k hi hk h0=>
  by_cases e:i=k
  ·subst e;rw[h.self i hi];exact .refl
  ·obtain⟨l,hl,hc,hE⟩:=h.link i k hi hk e h0
   rw[hE];rcases hc with⟨rfl,rfl⟩|⟨rfl,rfl⟩
   ·have:=(Way.refl (nb:=nbrL ls) (s:=l.A)).step (mem_nbr_ab hl)
    simpa using this
   ·have:=(Way.refl (nb:=nbrL ls) (s:=l.B)).step (mem_nbr_ba hl)
    simpa using this
 | join _ _ _ h1 h2=>exact h1.trans h2
theorem LinkM.walk(h:LinkM ls E)(hL:LinksOk ls)(hi:nIn i)(hw:Way (nbrL ls) i k L):WM E 64 i k L:=by
 induction hw with
 | refl=>
  have:=WM.base (E:=E) (m:=64) hi hi (by rw[h.self i hi];omega)
  rwa [h.self i hi]at this
 | @step x d q hx hq ih=>
  have hxr:=ih.rng.2
  have hr:=(nbr_ok hL hi).rng x q hq
  have he:=h.nbr hq
  have h2:=WM.base (E:=E) (m:=64) hxr ⟨hr.1,hr.2.1⟩ (by rw[he];exact hr.2.2.1)
  rw[he]at h2;exact .join hxr.2 ih h2
theorem OkM.dst(h:LinkM ls E)(hL:LinksOk ls)(hi:nIn i){d:Int}(ho:OkM E 64 i k d):dstI (nbrL ls) i k=d:=by
 refine Dst.eq ?_
 rcases ho with⟨h1,h2⟩|⟨h1,h2,h3⟩
 ·exact .inr ⟨h1,fun d' hw=>h2 d' (h.walk hL hi hw)⟩
 ·exact .inl ⟨h1,h.way h2,fun d' hw=>h3 d' (h.walk hL hi hw)⟩
theorem WM.short(h:LinkM ls E)(hL:LinksOk ls)(hw:WM E m i k L):∃L',WM E m i k L'∧L'≤63000000:=by
 obtain⟨hi,hk⟩:=hw.rng;let ins:Int→Bool:=fun x=>decide (x<m)||decide (x=i)||decide (x=k)
 let ls':=ls.filter fun l=>ins l.A&&ins l.B
 have hL':LinksOk ls':=⟨Nat.le_trans (List.length_filter_le _ _) hL.1,fun l hl=>hL.2 l (List.mem_filter.1 hl).1⟩
 have hway:∀ {a b d:Int},WM E m a b d→ins a=true→ins b=true→Way (nbrL ls') a b d:=fun {a b d} hw=>by
  induction hw with
  | @base a b ha hb h0=>
   intro h1 h2;by_cases e:a=b
   ·subst e;rw[h.self a ha];exact .refl
   ·obtain⟨l,hl,hc,hE⟩:=h.link a b ha hb e h0
    rw[hE];have hl':l∈ls':=List.mem_filter.2 ⟨hl,by rcases hc with⟨rfl,rfl⟩|⟨rfl,rfl⟩ <;> simp only[h1,h2,Bool.and_true]⟩
    rcases hc with⟨rfl,rfl⟩|⟨rfl,rfl⟩
    ·have:=(Way.refl (nb:=nbrL ls') (s:=l.A)).step (mem_nbr_ab hl')
     simpa using this
    ·have:=(Way.refl (nb:=nbrL ls') (s:=l.B)).step (mem_nbr_ba hl')
     simpa using this
  | @join a c b x y hc _ _ ih1 ih2=>
   intro h1 h2;have hci:ins c=true:=by show (decide _||decide _||decide _)=true;rw[decide_eq_true hc];simp
   exact(ih1 h1 hci).trans (ih2 hci h2)
 have hii:ins i=true:=by show (decide _||decide _||decide _)=true;simp
 have hkk:ins k=true:=by show (decide _||decide _||decide _)=true;simp
 have hwk:=hway hw hii hkk
 have key:∀ {x d:Int},Way (nbrL ls') i x d→(∃L',L'≤d∧WM E m i x L')∨∃L',L'≤d∧WM E m i k L':=fun {x d} hx=>by
  induction hx with
  | refl=>
   have:=WM.base (E:=E) (m:=m) hi hi (by rw[h.self i hi];omega)
   rw[h.self i hi]at this;exact .inl ⟨0,Int.le_refl _,this⟩
  | @step x d q hx hq ih=>
   have hr:=(nbr_ok hL' hi).rng x q hq
   rcases ih with⟨L',h1,h2⟩|⟨L',h1,h2⟩
   ·have hq2:q∈nbrL ls x:=by
     obtain⟨l,hl,hq⟩:=List.mem_flatMap.1 hq
     exact List.mem_flatMap.2 ⟨l,(List.mem_filter.1 hl).1,hq⟩
    have he:=h.nbr hq2
    have hxr:=h2.rng.2
    have h3:=WM.base (E:=E) (m:=m) hxr ⟨hr.1,hr.2.1⟩ (by rw[he];exact hr.2.2.1)
    rw[he]at h3;have hxin:ins x=true:=by
     obtain⟨l,hl,hq⟩:=List.mem_flatMap.1 hq
     have hl2:=(List.mem_filter.1 hl).2
     rw[Bool.and_eq_true]at hl2;rcases List.mem_append.1 hq with g|g <;> split at g <;> simp at g
     ·rename_i e;rw[←e];exact hl2.1
     ·rename_i e;rw[←e];exact hl2.2
    have hxc:x<m∨x=i∨x=k:=by
     have:(decide (x<m)||decide (x=i)||decide (x=k))=true:=hxin
     simp only[Bool.or_eq_true,decide_eq_true_eq]at this;omega
    rcases hxc with e|e|e
    ·exact .inl ⟨L'+q.2,by omega,.join e h2 h3⟩
    ·rw[e]at h3;have:=h2.nonneg
     exact .inl ⟨q.2,by omega,h3⟩
    ·rw[e]at h2;exact .inr ⟨L',by omega,h2⟩
   ·exact .inr ⟨L',by omega,h2⟩
 have hd:=dst_ex (nbr_ok hL' hi) k
 have hb:=(dst_le (x:=k) hL' hi).2
 rcases hd with⟨-,h1,-⟩|⟨-,h1⟩
 ·rcases key h1 with⟨L',g1,g2⟩|⟨L',g1,g2⟩ <;> exact⟨L',g2,by omega⟩
 ·exact absurd hwk (h1 _)
theorem FW.bound(h:LinkM ls E)(hL:LinksOk ls){D:Mx}(hF:FW E D m i k){a b:Int}(ha:nIn a)(hb:nIn b):-1≤D a b∧D a b≤63000000:=by
 have h1:=hF a b ha hb
 split at h1 <;> rcases h1 with⟨h2,h3⟩|⟨h2,h3,h4⟩
 ·omega
 ·obtain⟨L',g1,g2⟩:=h3.short h hL
  have:=h4 L' g1;omega
 ·omega
 ·obtain⟨L',g1,g2⟩:=h3.short h hL
  have:=h4 L' g1;omega
end
def linkStep(D:Mx)(l:LinkT):Mx:=updM (updM D l.A l.B l.Latency) l.B l.A l.Latency
def linkD(ls:List LinkT):Mx:=ls.foldl linkStep fun i k=>if i=k then 0 else -1
theorem linkD_snoc{ls:List LinkT}{k:Nat}{l:LinkT}(h:ls[k]? = some l):linkStep (linkD (ls.take k)) l=linkD (ls.take (k+1)):=by
 unfold linkD;rw[take_succ_of h,List.foldl_append];rfl
theorem linkD_ok:∀(n:Nat) {ls:List LinkT},ls.length=n→(∀l∈ls,l.A≠l.B∧0≤l.Latency)→(ls.map linkKey).Nodup→LinkM ls (linkD ls)
 | 0,ls,hn,_,_=>by
  have:ls=[]:=List.eq_nil_of_length_eq_zero hn
  subst this;refine⟨fun i k=>?_,fun i _=>by unfold linkD;simp,fun i k _ _ hne h0=>?_,by simp⟩
  ·unfold linkD;by_cases e:i=k <;> simp[e]
  ·unfold linkD at h0;simp[hne]at h0
 | n+1,ls,hn,hA,hk=>by
  obtain⟨l,hl⟩:=get_lt (l:=ls) (k:=n) (by omega)
  have hsp:ls=ls.take n++[l]:=by rw[←take_succ_of hl,List.take_of_length_le (by omega)]
  have hlm:=List.mem_of_getElem? hl
  have ih:=linkD_ok n (ls:=ls.take n) (by simp;omega) (fun x hx=>hA x (List.mem_of_mem_take hx)) (hk.sublist ((List.take_sublist _ _).map _))
  have hD:linkD ls=linkStep (linkD (ls.take n)) l:=by rw[linkD_snoc hl,List.take_of_length_le (by omega)]
  have hAB:=hA l hlm
  have hfresh:∀x∈ls.take n,linkKey x≠linkKey l:=fun x hx e=>by
   rw[hsp,List.map_append,List.nodup_append]at hk;exact hk.2.2 _ (List.mem_map_of_mem hx) _ (by simp) e
  have val:∀i k,linkD ls i k=if (i=l.B∧k=l.A)∨(i=l.A∧k=l.B) then l.Latency else linkD (ls.take n) i k:=fun i k=>by
   rw[hD];unfold linkStep updM;by_cases e1:i=l.B∧k=l.A
   ·rw[if_pos e1,if_pos (.inl e1)]
   ·rw[if_neg e1];by_cases e2:i=l.A∧k=l.B
    ·rw[if_pos e2,if_pos (.inr e2)]
    ·rw[if_neg e2,if_neg (by rintro (h|h) <;> contradiction)]
  refine⟨fun i k=>?_,fun i hi=>?_,fun i k hi hk' hne h0=>?_,fun x hx=>?_⟩
  ·rw[val];split
   ·exact .inr hAB.2
   ·exact ih.neg i k
  ·rw[val,if_neg (by rintro (⟨h1,h2⟩|⟨h1,h2⟩) <;> exact hAB.1 (by omega))]
   exact ih.self i hi
  ·rw[val]at h0 ⊢
   split at h0
   ·rename_i e
    rw[if_pos e];exact⟨l,hlm,by omega,rfl⟩
   ·rename_i e
    rw[if_neg e];obtain⟨x,hx,h1,h2⟩:=ih.link i k hi hk' hne h0
    exact⟨x,List.mem_of_mem_take hx,h1,h2⟩
  ·rw[val,val];rw[hsp]at hx;rcases List.mem_append.1 hx with hx|hx
   ·have hne:=hfresh x hx
    have h1:¬((x.A=l.B∧x.B=l.A)∨(x.A=l.A∧x.B=l.B)):=fun e=>hne (by
     unfold linkKey;rcases e with⟨e1,e2⟩|⟨e1,e2⟩
     ·rw[e1,e2];simp only[Prod.mk.injEq];omega
     ·rw[e1,e2])
    have h2:¬((x.B=l.B∧x.A=l.A)∨(x.B=l.A∧x.A=l.B)):=fun e=>h1 (by omega)
    rw[if_neg h1,if_neg h2];exact ih.has x hx
   ·have:=List.mem_singleton.1 hx
    subst this;rw[if_pos (.inr ⟨rfl,rfl⟩),if_pos (.inl ⟨rfl,rfl⟩)];exact⟨rfl,rfl⟩
set_option maxHeartbeats 16000000
attribute [local irreducible] Calls
def rowsF(E:List (Int×Int)):List (List Value):=E.map fun p=>[.int .u64 p.1]
def rowsS(E:List (Int×Int)):List (List Value):=E.map fun p=>[.int .u64 p.2]
def memE(m:MemT):Int×Int:=(m.Base,m.Size)
def devE(m:DevT):Int×Int:=(m.Base,m.Size)
def endE(p:Int×Int):Int×Int:=(p.1,IntKind.u64.wrap (p.1+p.2))
theorem rowsF_snoc{α:Type}{f:α→Int×Int}{l:List α}{L:List (Int×Int)}{k:Nat}{x:α}(hx:l[k]? = some x):rowsF (L++(l.take k).map f)++[[.int .u64 (f x).1]]=rowsF (L++(l.take (k+1)).map f):=by rw[take_succ_of hx];simp[rowsF]
theorem rowsS_snoc{α:Type}{f:α→Int×Int}{l:List α}{L:List (Int×Int)}{k:Nat}{x:α}(hx:l[k]? = some x):rowsS (L++(l.take k).map f)++[[.int .u64 (f x).2]]=rowsS (L++(l.take (k+1)).map f):=by rw[take_succ_of hx];simp[rowsS]
theorem regs_E(H:HwT):regs H=(H.Mems.map memE++H.Devs.map devE).map endE:=by
 unfold regs;rw[List.map_append,List.map_map,List.map_map];rfl
theorem overlap_any{Γ:Gho}{S:List Res}{w:World}{u:Value}{H:HwT}[hh:HwR Γ u H](hcnt:countsB H=true)(hw:Wd Γ S w):Calls Tryz.prog 66 #[u] w fun e w'=>e=.returned (.bool (!disjB H))∧Wd Γ S w':=by
 obtain⟨-,l1,l2,l3,l4,l5⟩:=counts_le hcnt
 obtain⟨a1,n1,c1,a2,n2,c2,a3,n3,c3,a4,n4,c4,a5,n5,c5,cs,rfl,hcs,hok,hsz,r1,r2,r3,r4,r5⟩:=hh.h;obtain⟨hn4,hm4,hx4⟩:=rep_facts r4
 obtain⟨hn5,hm5,hx5⟩:=rep_facts r5
 simp only[List.length_map]at hn4 hn5
 refine calls_of_W Tryz.func66 rfl rfl ?_
 refine byG ?_;refine lBox ?_;intro b1 w hw;have hw:=Wd.addNil (a:=none) (E:=80) (sz:=1) (Wd.addNil (a:=none) (E:=80) (sz:=1) hw)
 have hw:Wd Γ (.own (.slice none 0 0) 80 1 (rowsF (([]:List (Int×Int))++(H.Mems.take 0).map memE))::.own (.slice none 0 0) 80 1 (rowsS (([]:List (Int×Int))++(H.Mems.take 0).map memE))::.blk b1 (hwC H a1 n1 c1 a2 n2 c2 a3 n3 c3 a4 n4 c4 a5 n5 c5)::S) w:=hw
 refine byG ?_;refine W_loop (fun μ ρ w=>∃(k:Nat) (vb vs:Value),μ+k=n4∧Has ρ [(1,.pointer (some ⟨b1,0,none⟩)),(3,vb),(4,vs),(5,.int .i64 k)]∧Wd Γ (.own vb 80 1 (rowsF (([]:List (Int×Int))++(H.Mems.take k).map memE))::.own vs 80 1 (rowsS (([]:List (Int×Int))++(H.Mems.take k).map memE))::.blk b1 (hwC H a1 n1 c1 a2 n2 c2 a3 n3 c3 a4 n4 c4 a5 n5 c5)::S) w) n4 ⟨0,_,_,by omega,⟨rfl,rfl,rfl,rfl,trivial⟩,hw⟩ ?_
 clear hw;rintro μ ρ w ⟨k,vb,vs,hk,hρ,hw⟩
 rw[hρ.eq];clear hρ;refine byG ?_;refine W_cond rfl (fun h=>?_) (fun h=>?_)
 ·have hkn:k<n4:=by have:=of_decide_eq_true h;omega
  obtain⟨x,hx⟩:=get_lt (l:=H.Mems) (k:=k) (by omega)
  obtain⟨ab,mb,db,rfl,hmb,-,-⟩:=hw.own_shape (i:=0) rfl
  obtain⟨as',ms,ds,rfl,hms,-,-⟩:=hw.own_shape (i:=1) rfl
  simp only[rowsF,rowsS,List.length_map,List.length_append,List.length_nil,List.length_take]at hmb hms
  refine byG ?_;refine lBuildSlice [[.int .u64 (memE x).1]] ?_
  intro at' w hw;refine lApp (i:=1) (rows2:=[[.int .u64 (memE x).1]]) ?_ (Wd.own_rd (i:=0) hw rfl)
  intro vb' w hw;have hw:Wd Γ (.own vb' 80 1 (rowsF (([]:List (Int×Int))++(H.Mems.take (k+1)).map memE))::.own (.slice as' ms ds) 80 1 (rowsS (([]:List (Int×Int))++(H.Mems.take k).map memE))::.blk b1 (hwC H a1 n1 c1 a2 n2 c2 a3 n3 c3 a4 n4 c4 a5 n5 c5)::S) w:=by
   rw[←rowsF_snoc hx];exact hw.drop
  refine byG ?_;refine lBuildSlice [[.int .u64 (memE x).2]] ?_
  intro at' w hw;refine lApp (i:=2) (rows2:=[[.int .u64 (memE x).2]]) ?_ (Wd.own_rd (i:=0) hw rfl)
  intro vs' w hw;have hw:Wd Γ (.own vb' 80 1 (rowsF (([]:List (Int×Int))++(H.Mems.take (k+1)).map memE))::.own vs' 80 1 (rowsS (([]:List (Int×Int))++(H.Mems.take (k+1)).map memE))::.blk b1 (hwC H a1 n1 c1 a2 n2 c2 a3 n3 c3 a4 n4 c4 a5 n5 c5)::S) w:=by
   rw[←rowsS_snoc hx];exact hw.drop
  refine byG ?_;exact⟨μ-1,by omega,k+1,_,_,by omega,⟨rfl,rfl,rfl,rfl,trivial⟩,hw⟩
 have hkn:¬k<n4:=by have:=of_decide_eq_false h;omega
 rw[List.take_of_length_le (l:=H.Mems) (by omega)]at hw
 clear h hkn hk;rw[List.nil_append,show H.Mems.map memE=H.Mems.map memE++(H.Devs.take 0).map devE from by simp]at hw
 refine byG ?_;refine W_loop (fun μ ρ w=>∃(k:Nat) (vb vs:Value),μ+k=n5∧Has ρ [(1,.pointer (some ⟨b1,0,none⟩)),(3,vb),(4,vs),(6,.int .i64 k)]∧Wd Γ (.own vb 80 1 (rowsF (H.Mems.map memE++(H.Devs.take k).map devE))::.own vs 80 1 (rowsS (H.Mems.map memE++(H.Devs.take k).map devE))::.blk b1 (hwC H a1 n1 c1 a2 n2 c2 a3 n3 c3 a4 n4 c4 a5 n5 c5)::S) w) n5 ⟨0,_,_,by omega,⟨rfl,rfl,rfl,rfl,trivial⟩,hw⟩ ?_
 clear hw;rintro μ ρ w ⟨k,vb,vs,hk,hρ,hw⟩
 rw[hρ.eq];clear hρ;refine byG ?_;refine W_cond rfl (fun h=>?_) (fun h=>?_)
 ·have hkn:k<n5:=by have:=of_decide_eq_true h;omega
  obtain⟨x,hx⟩:=get_lt (l:=H.Devs) (k:=k) (by omega)
  obtain⟨ab,mb,db,rfl,hmb,-,-⟩:=hw.own_shape (i:=0) rfl
  obtain⟨as',ms,ds,rfl,hms,-,-⟩:=hw.own_shape (i:=1) rfl
  simp only[rowsF,rowsS,List.length_map,List.length_append,List.length_nil,List.length_take]at hmb hms
  refine byG ?_;refine lBuildSlice [[.int .u64 (devE x).1]] ?_
  intro at' w hw;refine lApp (i:=1) (rows2:=[[.int .u64 (devE x).1]]) ?_ (Wd.own_rd (i:=0) hw rfl)
  intro vb' w hw;have hw:Wd Γ (.own vb' 80 1 (rowsF (H.Mems.map memE++(H.Devs.take (k+1)).map devE))::.own (.slice as' ms ds) 80 1 (rowsS (H.Mems.map memE++(H.Devs.take k).map devE))::.blk b1 (hwC H a1 n1 c1 a2 n2 c2 a3 n3 c3 a4 n4 c4 a5 n5 c5)::S) w:=by
   rw[←rowsF_snoc hx];exact hw.drop
  refine byG ?_;refine lBuildSlice [[.int .u64 (devE x).2]] ?_
  intro at' w hw;refine lApp (i:=2) (rows2:=[[.int .u64 (devE x).2]]) ?_ (Wd.own_rd (i:=0) hw rfl)
  intro vs' w hw;have hw:Wd Γ (.own vb' 80 1 (rowsF (H.Mems.map memE++(H.Devs.take (k+1)).map devE))::.own vs' 80 1 (rowsS (H.Mems.map memE++(H.Devs.take (k+1)).map devE))::.blk b1 (hwC H a1 n1 c1 a2 n2 c2 a3 n3 c3 a4 n4 c4 a5 n5 c5)::S) w:=by
   rw[←rowsS_snoc hx];exact hw.drop
  refine byG ?_;exact⟨μ-1,by omega,k+1,_,_,by omega,⟨rfl,rfl,rfl,rfl,trivial⟩,hw⟩
 have hkn:¬k<n5:=by have:=of_decide_eq_false h;omega
 rw[List.take_of_length_le (l:=H.Devs) (by omega)]at hw
 clear h hkn hk;have hregs:=regs_E H
 have hel:(H.Mems.map memE++H.Devs.map devE).length≤96:=by simp;omega
 generalize H.Mems.map memE++H.Devs.map devE=E at *
 obtain⟨ab,mb,db,rfl,hmb,-,-⟩:=hw.own_shape (i:=0) rfl
 obtain⟨as',ms,ds,rfl,hms,-,-⟩:=hw.own_shape (i:=1) rfl
 simp only[rowsF,rowsS,List.length_map]at hmb hms
 have hms':ms=mb:=by omega
 subst hms';have hw:Wd Γ (.own (.slice ab ms db) 80 1 (rowsF E)::.own (.slice as' ms ds) 80 1 (rowsS E)::.blk b1 (hwC H a1 n1 c1 a2 n2 c2 a3 n3 c3 a4 n4 c4 a5 n5 c5)::S) w:=hw
 refine byG ?_;refine W_loop (fun μ ρ w=>∃(i:Nat),μ+i=ms∧Has ρ [(3,.slice ab ms db),(4,.slice as' ms ds),(7,.int .i64 i)]∧(∀(i' k:Nat) (a b:Int×Int),i'<i→k<i'→E[i']? = some a→E[k]? = some b→apartB (endE a) (endE b)=true)∧Wd Γ (.own (.slice ab ms db) 80 1 (rowsF E)::.own (.slice as' ms ds) 80 1 (rowsS E)::.blk b1 (hwC H a1 n1 c1 a2 n2 c2 a3 n3 c3 a4 n4 c4 a5 n5 c5)::S) w) ms ⟨0,by omega,⟨rfl,rfl,rfl,trivial⟩,fun i' k a b h=>by omega,hw⟩ ?_
 clear hw;rintro μ ρ w ⟨i,hi,hρ,hall,hw⟩
 rw[hρ.eq];clear hρ;refine byG ?_;refine W_cond rfl (fun h=>?_) (fun h=>?_)
 ·have hin:i<ms:=by have:=of_decide_eq_true h;omega
  clear h;obtain⟨x,hx⟩:=get_lt (l:=E) (k:=i) (by omega)
  have hxf:(rowsF E)[i]? = some [.int .u64 x.1]:=by unfold rowsF;rw[List.getElem?_map,hx];rfl
  have hxs:(rowsS E)[i]? = some [.int .u64 x.2]:=by unfold rowsS;rw[List.getElem?_map,hx];rfl
  refine byG ?_;refine W_loop (fun μ2 ρ w=>∃(k:Nat),μ2+k=i∧Has ρ [(3,.slice ab ms db),(4,.slice as' ms ds),(7,.int .i64 i),(8,.int .i64 k)]∧(∀(j:Nat) (b:Int×Int),j<k→E[j]? = some b→apartB (endE x) (endE b)=true)∧Wd Γ (.own (.slice ab ms db) 80 1 (rowsF E)::.own (.slice as' ms ds) 80 1 (rowsS E)::.blk b1 (hwC H a1 n1 c1 a2 n2 c2 a3 n3 c3 a4 n4 c4 a5 n5 c5)::S) w) i ⟨0,by omega,⟨rfl,rfl,rfl,rfl,trivial⟩,fun j b h=>by omega,hw⟩ ?_
  clear hw;rintro μ2 ρ w ⟨k,hk,hρ,hall2,hw⟩
  rw[hρ.eq];clear hρ;refine byG ?_;refine W_cond rfl (fun h2=>?_) (fun h2=>?_)
  ·have hki:k<i:=by have:=of_decide_eq_true h2;omega
   clear h2;obtain⟨y,hy⟩:=get_lt (l:=E) (k:=k) (by omega)
   unfold rowsF rowsS at hw;refine byG ?_;refine W_quiet (by kernel_rfl) (by kernel_rfl) hw ?_
   refine byQ ?_;intro w hw;have hw:Wd Γ (.own (.slice ab ms db) 80 1 (rowsF E)::.own (.slice as' ms ds) 80 1 (rowsS E)::.blk b1 (hwC H a1 n1 c1 a2 n2 c2 a3 n3 c3 a4 n4 c4 a5 n5 c5)::S) w:=hw
   refine W_cond rfl (fun h3=>?_) (fun h3=>?_)
   ·have hp:apartB (endE x) (endE y)=false:=by unfold apartB;exact congrArg (fun b=>!b) h3
    refine byG ?_;refine⟨_,rfl,ret_b rfl ?_,hw.drop.drop.drop⟩
    have:disjB H=false:=decP_f fun hP=>by
     have h5:=hP i k (endE x) (endE y) hki (by rw[hregs,List.getElem?_map,hx];rfl) (by rw[hregs,List.getElem?_map,hy];rfl)
     rw[h5]at hp;cases hp
    rw[this];rfl
   ·have hp:apartB (endE x) (endE y)=true:=by unfold apartB;exact congrArg (fun b=>!b) h3
    refine byG ?_;refine⟨μ2-1,by omega,k+1,by omega,⟨rfl,rfl,rfl,rfl,trivial⟩,fun j b hj hb=>?_,hw⟩
    by_cases e:j=k
    ·subst e;rw[hy]at hb;cases hb;exact hp
    ·exact hall2 j b (by omega) hb
  ·have hki:¬k<i:=by have:=of_decide_eq_false h2;omega
   refine byG ?_;refine⟨μ-1,by omega,i+1,by omega,⟨rfl,rfl,rfl,trivial⟩,fun i' j a b h1 h3 ha hb=>?_,hw⟩
   by_cases e:i'=i
   ·subst e;rw[hx]at ha;cases ha
    exact hall2 j b (by omega) hb
   ·exact hall i' j a b (by omega) h3 ha hb
 ·have hin:¬i<ms:=by have:=of_decide_eq_false h;omega
  refine byG ?_;refine⟨_,rfl,ret_b rfl ?_,hw.drop.drop.drop⟩
  have:disjB H=true:=decP_t fun p q a b hpq ha hb=>by
   rw[hregs,List.getElem?_map]at ha hb
   cases ha':E[p]? with
   | none=>rw[ha']at ha;cases ha
   | some a'=>
    cases hb':E[q]? with
    | none=>rw[hb']at hb;cases hb
    | some b'=>
     rw[ha']at ha;rw[hb']at hb;cases ha;cases hb
     exact hall p q a' b' (by have:=(List.getElem?_eq_some_iff.1 ha').1;omega) hpq ha' hb'
  rw[this];rfl
def markN(R:List Bool)(xs:List Int):List Bool:=xs.foldl (fun R n=>R.set n.toNat true) R
theorem markN_len:∀(xs:List Int) (R:List Bool),(markN R xs).length=R.length
 | [],R=>rfl
 | x::xs,R=>by show (markN (R.set x.toNat true) xs).length=_;rw[markN_len xs];simp
theorem markN_app(R:List Bool)(xs ys:List Int):markN R (xs++ys)=markN (markN R xs) ys:=by unfold markN;rw[List.foldl_append]
theorem markN_get:∀(xs:List Int) (R:List Bool) (k:Nat),(markN R xs)[k]? = some false→R[k]? = some false∧∀x∈xs,x.toNat≠k
 | [],R,k,h=>⟨h,by simp⟩
 | x::xs,R,k,h=>by
  obtain⟨h1,h2⟩:=markN_get xs (R.set x.toNat true) k h
  rw[List.getElem?_set]at h1;by_cases e:x.toNat=k
  ·rw[if_pos e]at h1;split at h1 <;> simp at h1
  ·rw[if_neg e]at h1;exact⟨h1,fun y hy=>by
    rcases List.mem_cons.1 hy with rfl|hy
    ·exact e
    ·exact h2 y hy⟩
theorem mark_step{α:Type}{f:α→Int}{l:List α}{R:List Bool}{L:List Int}{k:Nat}{x:α}(hx:l[k]? = some x):(markN R (L++(l.take k).map f)).set (f x).toNat true=markN R (L++(l.take (k+1)).map f):=by
 rw[take_succ_of hx,List.map_append,←List.append_assoc,markN_app _ (L++(l.take k).map f)];rfl
abbrev R64:List Bool:=List.replicate 64 false
abbrev hwCells(s:ByteArray)(a1:Option Addr)(n1 c1:Nat)(a2:Option Addr)(n2 c2:Nat)(a3:Option Addr)(n3 c3:Nat)(a4:Option Addr)(n4 c4:Nat)(a5:Option Addr)(n5 c5:Nat):Obj:=.cells #[.string s,.slice a1 n1 c1,.slice a2 n2 c2,.slice a3 n3 c3,.slice a4 n4 c4,.slice a5 n5 c5] 30
theorem rdS_facts{Γ:Gho}{S:List Res}{a:Option Addr}{n c sz:Nat}{rows:List (List Value)}(h:RdS Γ S (.slice a n c) sz rows):n=rows.length∧n≤c∧c≤9223372036854775807:=by
 obtain⟨a',n',c',e,h1,h2,h3⟩:=h.shape;cases e;exact⟨h1,h2,h3⟩
theorem Used_any{Γ:Gho}{S:List Res}{w:World}{H:HwT}{s:ByteArray}{a1:Option Addr}{n1 c1:Nat}{a2:Option Addr}{n2 c2:Nat}{a3:Option Addr}{n3 c3:Nat}{a4:Option Addr}{n4 c4:Nat}{a5:Option Addr}{n5 c5:Nat}(r1:RdS Γ S (.slice a1 n1 c1) 4 (H.Cores.map enc))(r4:RdS Γ S (.slice a4 n4 c4) 5 (H.Mems.map enc))(r5:RdS Γ S (.slice a5 n5 c5) 5 (H.Devs.map enc))(hN:∀n∈usedN H,0≤n∧n<64)(hw:Wd Γ S w) :
  Calls Tryz.prog 53 #[(.agg #[.string s,.slice a1 n1 c1,.slice a2 n2 c2,.slice a3 n3 c3,.slice a4 n4 c4,.slice a5 n5 c5])] w fun e w'=>e=.returned (.agg ((markN R64 (usedN H)).map Value.bool).toArray)∧Wd Γ S w':=by
 obtain⟨hn1,hm1,hx1⟩:=rdS_facts r1
 obtain⟨hn4,hm4,hx4⟩:=rdS_facts r4
 obtain⟨hn5,hm5,hx5⟩:=rdS_facts r5
 simp only[List.length_map]at hn1 hn4 hn5
 refine calls_of_WC Tryz.func53 rfl rfl ?_
 refine byG ?_;refine lBox ?_;intro b1 w hw;refine lAlloc ?_;intro b2 w hw;refine byG ?_;refine lAlloc ?_;intro b3 w hw;have hw:Wd Γ (.blk b3 (.cells ((markN R64 ([]++(H.Cores.take 0).map (fun c=>c.Node))).map Value.bool).toArray 127)::.blk b2 (.cells (R64.map Value.bool).toArray 127)::.blk b1 (hwCells s a1 n1 c1 a2 n2 c2 a3 n3 c3 a4 n4 c4 a5 n5 c5)::S) w:=hw
 refine byG ?_;refine W_loop (fun μ ρ w=>∃(k:Nat),μ+k=n1∧Has ρ [(1,.pointer (some ⟨b1,0,none⟩)),(2,.pointer (some ⟨b2,0,none⟩)),(3,.pointer (some ⟨b3,0,none⟩)),(4,.int .i64 (k:Nat))]∧Wd Γ (.blk b3 (.cells ((markN R64 ([]++(H.Cores.take k).map (fun c=>c.Node))).map Value.bool).toArray 127)::.blk b2 (.cells (R64.map Value.bool).toArray 127)::.blk b1 (hwCells s a1 n1 c1 a2 n2 c2 a3 n3 c3 a4 n4 c4 a5 n5 c5)::S) w) n1 ⟨0,by omega,⟨rfl,rfl,rfl,rfl,trivial⟩,hw⟩ ?_
 clear hw;rintro μ ρ w ⟨k,hk,hρ,hw⟩
 rw[hρ.eq];have q1:RdS Γ (.blk b3 (.cells ((markN R64 ([]++(H.Cores.take k).map (fun c=>c.Node))).map Value.bool).toArray 127)::.blk b2 (.cells (R64.map Value.bool).toArray 127)::.blk b1 (hwCells s a1 n1 c1 a2 n2 c2 a3 n3 c3 a4 n4 c4 a5 n5 c5)::S) (.slice a1 n1 c1) 4 (H.Cores.map enc):=r1.cons.cons.cons
 refine byG ?_;refine W_cond rfl (fun h=>?_) (fun h=>?_)
 ·have hkn:k<n1:=by simpa using h
  obtain⟨x,hx⟩:=get_lt (l:=H.Cores) (k:=k) (by omega)
  obtain⟨hx0,hx1'⟩:=hN x.Node (List.mem_append_left _ (List.mem_append_left _ (List.mem_map_of_mem (List.mem_of_getElem? hx))))
  refine byG ?_;refine lStore (o:=0+x.Node.toNat*1) (ho:=by simp[markN_len];omega) ?_
  intro w hw;have hw:Wd Γ (.blk b3 (.cells (putCells ((markN R64 ([]++(H.Cores.take k).map (fun c=>c.Node))).map Value.bool).toArray (0+x.Node.toNat*1) [.bool true]) 127)::.blk b2 (.cells (R64.map Value.bool).toArray 127)::.blk b1 (hwCells s a1 n1 c1 a2 n2 c2 a3 n3 c3 a4 n4 c4 a5 n5 c5)::S) w:=hw
  rw[putBool (by simp[markN_len];omega),mark_step (f:=fun c=>c.Node) hx]at hw
  clear q1;refine byG ?_;exact⟨μ-1,by omega,k+1,by omega,⟨rfl,rfl,rfl,rfl,trivial⟩,hw⟩
 have hkn:¬k<n1:=by simpa using h
 rw[List.take_of_length_le (l:=H.Cores) (by omega)]at hw
 clear h hkn hρ hk q1;rw[show []++H.Cores.map (fun c=>c.Node)=H.Cores.map (fun c=>c.Node)++(H.Mems.take 0).map (fun c=>c.Node) from by simp]at hw
 refine byG ?_;refine W_loop (fun μ ρ w=>∃(k:Nat),μ+k=n4∧Has ρ [(1,.pointer (some ⟨b1,0,none⟩)),(2,.pointer (some ⟨b2,0,none⟩)),(3,.pointer (some ⟨b3,0,none⟩)),(5,.int .i64 (k:Nat))]∧Wd Γ (.blk b3 (.cells ((markN R64 (H.Cores.map (fun c=>c.Node)++(H.Mems.take k).map (fun c=>c.Node))).map Value.bool).toArray 127)::.blk b2 (.cells (R64.map Value.bool).toArray 127)::.blk b1 (hwCells s a1 n1 c1 a2 n2 c2 a3 n3 c3 a4 n4 c4 a5 n5 c5)::S) w) n4 ⟨0,by omega,⟨rfl,rfl,rfl,rfl,trivial⟩,hw⟩ ?_
 clear hw;rintro μ ρ w ⟨k,hk,hρ,hw⟩
 rw[hρ.eq];have q1:RdS Γ (.blk b3 (.cells ((markN R64 (H.Cores.map (fun c=>c.Node)++(H.Mems.take k).map (fun c=>c.Node))).map Value.bool).toArray 127)::.blk b2 (.cells (R64.map Value.bool).toArray 127)::.blk b1 (hwCells s a1 n1 c1 a2 n2 c2 a3 n3 c3 a4 n4 c4 a5 n5 c5)::S) (.slice a4 n4 c4) 5 (H.Mems.map enc):=r4.cons.cons.cons
 refine byG ?_;refine W_cond rfl (fun h=>?_) (fun h=>?_)
 ·have hkn:k<n4:=by simpa using h
  obtain⟨x,hx⟩:=get_lt (l:=H.Mems) (k:=k) (by omega)
  obtain⟨hx0,hx1'⟩:=hN x.Node (List.mem_append_left _ (List.mem_append_right _ (List.mem_map_of_mem (List.mem_of_getElem? hx))))
  refine byG ?_;refine lStore (o:=0+x.Node.toNat*1) (ho:=by simp[markN_len];omega) ?_
  intro w hw;have hw:Wd Γ (.blk b3 (.cells (putCells ((markN R64 (H.Cores.map (fun c=>c.Node)++(H.Mems.take k).map (fun c=>c.Node))).map Value.bool).toArray (0+x.Node.toNat*1) [.bool true]) 127)::.blk b2 (.cells (R64.map Value.bool).toArray 127)::.blk b1 (hwCells s a1 n1 c1 a2 n2 c2 a3 n3 c3 a4 n4 c4 a5 n5 c5)::S) w:=hw
  rw[putBool (by simp[markN_len];omega),mark_step (f:=fun c=>c.Node) hx]at hw
  clear q1;refine byG ?_;exact⟨μ-1,by omega,k+1,by omega,⟨rfl,rfl,rfl,rfl,trivial⟩,hw⟩
 have hkn:¬k<n4:=by simpa using h
 rw[List.take_of_length_le (l:=H.Mems) (by omega)]at hw
 clear h hkn hρ hk q1;rw[show H.Cores.map (fun c=>c.Node)++H.Mems.map (fun c=>c.Node)=(H.Cores.map (fun c=>c.Node)++H.Mems.map (fun c=>c.Node))++(H.Devs.take 0).map (fun c=>c.Node) from by simp]at hw
 refine byG ?_;refine W_loop (fun μ ρ w=>∃(k:Nat),μ+k=n5∧Has ρ [(1,.pointer (some ⟨b1,0,none⟩)),(2,.pointer (some ⟨b2,0,none⟩)),(3,.pointer (some ⟨b3,0,none⟩)),(6,.int .i64 (k:Nat))]∧Wd Γ (.blk b3 (.cells ((markN R64 ((H.Cores.map (fun c=>c.Node)++H.Mems.map (fun c=>c.Node))++(H.Devs.take k).map (fun c=>c.Node))).map Value.bool).toArray 127)::.blk b2 (.cells (R64.map Value.bool).toArray 127)::.blk b1 (hwCells s a1 n1 c1 a2 n2 c2 a3 n3 c3 a4 n4 c4 a5 n5 c5)::S) w) n5 ⟨0,by omega,⟨rfl,rfl,rfl,rfl,trivial⟩,hw⟩ ?_
 clear hw;rintro μ ρ w ⟨k,hk,hρ,hw⟩
 rw[hρ.eq];have q1:RdS Γ (.blk b3 (.cells ((markN R64 ((H.Cores.map (fun c=>c.Node)++H.Mems.map (fun c=>c.Node))++(H.Devs.take k).map (fun c=>c.Node))).map Value.bool).toArray 127)::.blk b2 (.cells (R64.map Value.bool).toArray 127)::.blk b1 (hwCells s a1 n1 c1 a2 n2 c2 a3 n3 c3 a4 n4 c4 a5 n5 c5)::S) (.slice a5 n5 c5) 5 (H.Devs.map enc):=r5.cons.cons.cons
 refine byG ?_;refine W_cond rfl (fun h=>?_) (fun h=>?_)
 ·have hkn:k<n5:=by simpa using h
  obtain⟨x,hx⟩:=get_lt (l:=H.Devs) (k:=k) (by omega)
  obtain⟨hx0,hx1'⟩:=hN x.Node (List.mem_append_right _ (List.mem_map_of_mem (List.mem_of_getElem? hx)))
  refine byG ?_;refine lStore (o:=0+x.Node.toNat*1) (ho:=by simp[markN_len];omega) ?_
  intro w hw;have hw:Wd Γ (.blk b3 (.cells (putCells ((markN R64 ((H.Cores.map (fun c=>c.Node)++H.Mems.map (fun c=>c.Node))++(H.Devs.take k).map (fun c=>c.Node))).map Value.bool).toArray (0+x.Node.toNat*1) [.bool true]) 127)::.blk b2 (.cells (R64.map Value.bool).toArray 127)::.blk b1 (hwCells s a1 n1 c1 a2 n2 c2 a3 n3 c3 a4 n4 c4 a5 n5 c5)::S) w:=hw
  rw[putBool (by simp[markN_len];omega),mark_step (f:=fun c=>c.Node) hx]at hw
  clear q1;refine byG ?_;exact⟨μ-1,by omega,k+1,by omega,⟨rfl,rfl,rfl,rfl,trivial⟩,hw⟩
 have hkn:¬k<n5:=by simpa using h
 rw[List.take_of_length_le (l:=H.Devs) (by omega)]at hw
 clear h hkn hρ hk q1;refine byG ?_;have hl:(markN R64 (usedN H)).length=64:=by rw[markN_len];simp
 obtain⟨R,hR⟩:∃R,R=markN R64 (usedN H):=⟨_,rfl⟩
 have hw:Wd Γ (.blk b3 (.cells (R.map Value.bool).toArray 127)::.blk b2 (.cells (R64.map Value.bool).toArray 127)::.blk b1 (hwCells s a1 n1 c1 a2 n2 c2 a3 n3 c3 a4 n4 c4 a5 n5 c5)::S) w:=by rw[hR];exact hw
 rw[←hR]at hl ⊢
 refine lY (v:=.agg (R.map Value.bool).toArray) ?_ (hy:=y_lwb (i:=0) hw rfl rfl (by simp[hl]))
 refine lStore (vs:=R.map Value.bool) ?_ (hl:=by simp[hl]) (h1:=by simp[Value.oneCell']) (ho:=by simp) (hv:=by simp[Value.cells])
 intro w hw;have hw:Wd Γ (.blk b3 (.cells (R.map Value.bool).toArray 127)::.blk b2 (.cells (putCells (R64.map Value.bool).toArray 0 (R.map Value.bool)) 127)::.blk b1 (hwCells s a1 n1 c1 a2 n2 c2 a3 n3 c3 a4 n4 c4 a5 n5 c5)::S) w:=hw
 rw[show putCells (R64.map Value.bool).toArray 0 (R.map Value.bool)=(R.map Value.bool).toArray from by unfold putCells;simp[hl]]at hw
 refine byG ?_;exact⟨[.agg (R.map Value.bool).toArray],⟨resC (i:=1) hw rfl rfl (by simp[hl]),trivial⟩,rfl,hw.drop.drop.drop⟩
def coreAt(l:List CoreT)(id:Int):Int:=match l.findIdx? (fun x=>decide (x.ID=id)) with|some k=>k|none=>-1
theorem coreAt_some{l:List CoreT}{id:Int}{k:Nat}{x:CoreT}(hx:l[k]? = some x)(he:x.ID=id)(hl:∀j y,j<k→l[j]? = some y→y.ID≠id):coreAt l id=k:=by
 have:l.findIdx? (fun x=>decide (x.ID=id))=some k:=by
  obtain⟨hk,hg⟩:=List.getElem?_eq_some_iff.1 hx
  rw[List.findIdx?_eq_some_iff_getElem];refine⟨hk,by rw[hg];simpa using he,fun j hj=>?_⟩
  have:=hl j l[j] hj (List.getElem?_eq_getElem _)
  simpa using this
 unfold coreAt;rw[this]
theorem coreAt_none{l:List CoreT}{id:Int}(hl:∀y∈l,y.ID≠id):coreAt l id = -1:=by
 have:l.findIdx? (fun x=>decide (x.ID=id))=none:=by
  rw[List.findIdx?_eq_none_iff];intro y hy;simpa using hl y hy
 unfold coreAt;rw[this]
theorem coreAt_any{l:List CoreT}{id:Int}:decide (0≤coreAt l id)=l.any fun x=>decide (x.ID=id):=by
 unfold coreAt;cases h:l.findIdx? (fun x=>decide (x.ID=id)) with
 | none=>
  rw[List.findIdx?_eq_none_iff]at h;symm
  show _=false
  rw[List.any_eq_false];intro x hx;simpa using h x hx
 | some k=>
  have h0:(0:Int)≤(k:Int):=by omega
  show decide ((0:Int)≤(k:Int))=_
  rw[decide_eq_true h0];symm
  obtain⟨hk,hg,-⟩:=List.findIdx?_eq_some_iff_getElem.1 h
  exact List.any_eq_true.2 ⟨l[k],List.getElem_mem hk,hg⟩
theorem CoreAt_any{Γ:Gho}{S:List Res}{w:World}{l:List CoreT}{u0 u2 u3 u4 u5:Value}{s:ByteArray}{a1:Option Addr}{n1 c1:Nat}{id:Int}(r1:RdS Γ S (.slice a1 n1 c1) 4 (l.map enc))(hu:u0=.agg #[.string s,.slice a1 n1 c1,u2,u3,u4,u5])(h2:u2.oneCell'=true)(h3:u3.oneCell'=true)(h4:u4.oneCell'=true)(h5:u5.oneCell'=true)(hw:Wd Γ S w) :
  Calls Tryz.prog 64 #[u0,.int .i64 id] w fun e w'=>e=.returned (.int .i64 (coreAt l id))∧Wd Γ S w':=by
 subst hu;obtain⟨hn1,hm1,hx1⟩:=rdS_facts r1
 simp only[List.length_map]at hn1
 refine calls_of_W Tryz.func64 rfl rfl ?_
 refine byG ?_;refine lBox ?_;intro b1 w hw;have hw:Wd Γ (.blk b1 (.cells (#[.string s,.slice a1 n1 c1,u2,u3,u4,u5]:Array Value) 30)::S) w:=by
  have e:(Value.agg #[.string s,.slice a1 n1 c1,u2,u3,u4,u5]).cells = #[.string s,.slice a1 n1 c1,u2,u3,u4,u5]:=rfl
  rw[e]at hw;exact hw
 refine byG ?_;refine W_loop (fun μ ρ w=>∃(k:Nat),μ+k=n1∧(∀j y,j<k→l[j]? = some y→y.ID≠id)∧Has ρ [(1,.int .i64 id),(2,.pointer (some ⟨b1,0,none⟩)),(5,.int .i64 (k:Nat))]∧Wd Γ (.blk b1 (.cells (#[.string s,.slice a1 n1 c1,u2,u3,u4,u5]:Array Value) 30)::S) w) n1 ⟨0,by omega,by simp,⟨rfl,rfl,rfl,trivial⟩,hw⟩ ?_
 clear hw;rintro μ ρ w ⟨k,hk,hj,hρ,hw⟩
 rw[hρ.eq];have q1:RdS Γ (.blk b1 (.cells (#[.string s,.slice a1 n1 c1,u2,u3,u4,u5]:Array Value) 30)::S) (.slice a1 n1 c1) 4 (l.map enc):=r1.cons
 refine byG ?_;refine W_cond rfl (fun h=>?_) (fun h=>?_)
 ·have hkn:k<n1:=by simpa using h
  obtain⟨x,hx⟩:=get_lt (l:=l) (k:=k) (by omega)
  refine byG ?_;refine W_cond rfl (fun h2=>?_) (fun h2=>?_)
  ·rw[coreAt_some hx (of_decide_eq_true h2) hj];refine byG ?_;exact⟨_,rfl,rfl,hw.drop⟩
  ·refine byG ?_;refine⟨μ-1,by omega,k+1,by omega,fun j y hjk hy=>?_,⟨rfl,rfl,rfl,trivial⟩,hw⟩
   rcases Nat.lt_succ_iff_lt_or_eq.1 hjk with hlt|rfl
   ·exact hj j y hlt hy
   ·rw[hx]at hy;cases hy
    exact of_decide_eq_false h2
 have hkn:¬k<n1:=by simpa using h
 rw[coreAt_none (fun y hy=>by
  obtain⟨j,hj2⟩:=List.getElem?_of_mem hy
  exact hj j y (by have:=(List.getElem?_eq_some_iff.1 hj2).1;omega) hj2)]
 refine byG ?_;exact⟨_,rfl,rfl,hw.drop⟩
instance pg_CoreAt{Γ:Gho}{u:Value}{H:HwT}{id:Int}[hh:HwR Γ u H]:PG Tryz.prog Γ 64 [u,.int .i64 id] (.int .i64 (coreAt H.Cores id)):=⟨fun S w hw=>by
 obtain⟨a1,n1,c1,a2,n2,c2,a3,n3,c3,a4,n4,c4,a5,n5,c5,cs,rfl,-,-,-,r1,-⟩:=hh.h;exact CoreAt_any r1.rdS rfl rfl rfl rfl rfl hw⟩
theorem mark_true:∀(xs:List Int) (R:List Bool) (k:Nat),(markN R xs)[k]? = some true→R[k]? = some true∨∃x∈xs,x.toNat=k
 | [],R,k,h=>.inl h
 | x::xs,R,k,h=>by
  have h:(markN (R.set x.toNat true) xs)[k]? = some true:=h
  rcases mark_true xs _ k h with h1|⟨y,hy,he⟩
  ·by_cases e:x.toNat=k
   ·exact .inr ⟨x,by simp,e⟩
   ·rw[List.getElem?_set_ne e]at h1;exact .inl h1
  ·exact .inr ⟨y,by simp[hy],he⟩
theorem set_true_self{R:List Bool}{k:Nat}(h:R[k]? = some true):R.set k true=R:=by
 obtain⟨h1,h2⟩:=List.getElem?_eq_some_iff.1 h
 rw[←h2];exact List.set_getElem_self h1
def ClosedR(ls:List LinkT)(R:List Bool):Prop:=∀l∈ls,R.getD l.A.toNat false=R.getD l.B.toNat false
theorem connectedR_any{Γ:Gho}{S:List Res}{w:World}{u:Value}{H:HwT}[hh:HwR Γ u H](hcnt:countsB H=true)(hcr:coresRB H=true)(hrr:regionsRB H=true)(hw:Wd Γ S w):Calls Tryz.prog 67 #[u] w fun e w'=>e=.returned (.bool (connB H))∧Wd Γ S w':=by
 obtain⟨l0,l1,l2,l3,l4,l5⟩:=counts_le hcnt
 obtain⟨hNd,hLk⟩:=nodes_in hcr hrr
 obtain⟨a1,n1,c1,a2,n2,c2,a3,n3,c3,a4,n4,c4,a5,n5,c5,cs,rfl,hcs,hok,hsz,r1,r2,r3,r4,r5⟩:=hh.h;obtain⟨hn1,hm1,hx1⟩:=rep_facts r1
 obtain⟨hn3,hm3,hx3⟩:=rep_facts r3
 simp only[List.length_map]at hn1 hn3
 obtain⟨x0,hx0⟩:=get_lt (l:=H.Cores) (k:=0) (by omega)
 have hhead:(usedN H).headD 0=x0.Node:=by
  refine head_used ?_
  unfold usedN;rw[List.getElem?_append_left (by simp;omega),List.getElem?_append_left (by simp;omega),List.getElem?_map,hx0];rfl
 have hs0:0≤x0.Node∧x0.Node<64:=hNd x0.Node (by unfold usedN;simp only[List.mem_append];exact .inl (.inl (List.mem_map_of_mem (List.mem_of_getElem? hx0))))
 obtain⟨hs00,hs01⟩:=hs0;have hst:Known H.Links x0.Node ((List.replicate 64 false).set x0.Node.toNat true):=known_start (by omega)
 refine calls_of_W Tryz.func67 rfl rfl ?_
 refine byG ?_;refine lBox ?_;intro b1 w hw;refine byG ?_;refine lAlloc ?_;intro b3 w hw;have hw:Wd Γ (.blk b3 (.cells ((List.replicate 64 false).map Value.bool).toArray 127)::.blk b1 (hwC H a1 n1 c1 a2 n2 c2 a3 n3 c3 a4 n4 c4 a5 n5 c5)::S) w:=hw
 refine byG ?_;refine lStore (o:=0+x0.Node.toNat*1) (ho:=by simp;omega) ?_
 intro w hw;have hw:Wd Γ (.blk b3 (.cells (putCells ((List.replicate 64 false).map Value.bool).toArray (0+x0.Node.toNat*1) [.bool true]) 127)::.blk b1 (hwC H a1 n1 c1 a2 n2 c2 a3 n3 c3 a4 n4 c4 a5 n5 c5)::S) w:=hw
 rw[putBool (by simp;omega)]at hw
 refine byG ?_;refine W_loop (fun μ ρ w=>∃(t:Nat) (R:List Bool),μ+t=64∧Known H.Links x0.Node R∧R[x0.Node.toNat]? = some true∧(ClosedR H.Links R∨R.count false+t≤63)∧Has ρ [(1,.pointer (some ⟨b1,0,none⟩)),(3,.pointer (some ⟨b3,0,none⟩)),(4,.int .i64 t)]∧Wd Γ (.blk b3 (.cells (R.map Value.bool).toArray 127)::.blk b1 (hwC H a1 n1 c1 a2 n2 c2 a3 n3 c3 a4 n4 c4 a5 n5 c5)::S) w) 64 ⟨0,_,by omega,hst,by rw[List.getElem?_set_self (by simp;omega)],.inr (by
  have:=count_set_lt (R:=List.replicate 64 false) (k:=x0.Node.toNat) (by rw[List.getElem?_replicate,if_pos (by omega)])
  rw[List.count_replicate_self]at this;omega),⟨rfl,rfl,rfl,trivial⟩,hw⟩ ?_
 clear hw hst;rintro μ ρ w ⟨t,R,ht,hkn,hR0,hcl,hρ,hw⟩
 rw[hρ.eq];clear hρ;refine byG ?_;refine W_cond rfl (fun h=>?_) (fun h=>?_)
 ·have ht64:t<64:=by have:=of_decide_eq_true h;omega
  clear h;refine byG ?_;refine W_loop (fun μ2 ρ w=>∃(k:Nat) (R2:List Bool),μ2+k=n3∧Known H.Links x0.Node R2∧R2[x0.Node.toNat]? = some true∧((R2=R∧∀(i:Nat) (l:LinkT),i<k→H.Links[i]? = some l→R.getD l.A.toNat false=R.getD l.B.toNat false)∨(¬ClosedR H.Links R∧R2.count false+1≤R.count false))∧Has ρ [(1,.pointer (some ⟨b1,0,none⟩)),(3,.pointer (some ⟨b3,0,none⟩)),(4,.int .i64 t),(5,.int .i64 k)]∧Wd Γ (.blk b3 (.cells (R2.map Value.bool).toArray 127)::.blk b1 (hwC H a1 n1 c1 a2 n2 c2 a3 n3 c3 a4 n4 c4 a5 n5 c5)::S) w) n3 ⟨0,R,by omega,hkn,hR0,.inl ⟨rfl,fun i l h=>by omega⟩,⟨rfl,rfl,rfl,rfl,trivial⟩,hw⟩ ?_
  clear hw hR0 hkn;rintro μ2 ρ w ⟨k,R2,hk,hkn,hR0,hor,hρ,hw⟩
  rw[hρ.eq];clear hρ;have hRl:=hkn.len
  refine byG ?_;refine W_cond rfl (fun h2=>?_) (fun h2=>?_)
  ·have hkn3:k<n3:=by have:=of_decide_eq_true h2;omega
   clear h2;obtain⟨x,hx⟩:=get_lt (l:=H.Links) (k:=k) (by omega)
   obtain⟨hA0,hA1,hB0,hB1⟩:=hLk x (List.mem_of_getElem? hx)
   obtain⟨ba,hba⟩:=get_lt (l:=R2) (k:=x.A.toNat) (by omega)
   obtain⟨bb,hbb⟩:=get_lt (l:=R2) (k:=x.B.toNat) (by omega)
   have hxm:=List.mem_of_getElem? hx
   have ga:R2.getD x.A.toNat false=ba:=by rw[List.getD_eq_getElem?_getD,hba];rfl
   have gb:R2.getD x.B.toNat false=bb:=by rw[List.getD_eq_getElem?_getD,hbb];rfl
   refine byG ?_;refine lAlloc ?_;intro b6 w hw;refine lStore ?_;intro w hw;have hw:Wd Γ (.blk b6 (.cells (enc x).toArray 79)::.blk b3 (.cells (R2.map Value.bool).toArray 127)::.blk b1 (hwC H a1 n1 c1 a2 n2 c2 a3 n3 c3 a4 n4 c4 a5 n5 c5)::S) w:=hw
   refine byG ?_;refine lY (v:=.bool ba) ?_ (hy:=y_l1b (i:=1) hw rfl rfl (getBool hba))
   refine byG ?_;refine lG (v:=.bool bb) ?_ (hv:=fun hc=>y_l1b (i:=1) hw (gvT hc rfl) rfl (getBool hbb))
   refine byG ?_;refine W_cond rfl (fun h3=>?_) (fun h3=>?_)
   ·have h3:(ba||bb)=true:=h3
    refine byG ?_;refine lStore (i:=1) (o:=0+x.A.toNat*1) (ho:=by simp;omega) ?_
    intro w hw;have hw:Wd Γ (.blk b6 (.cells (enc x).toArray 79)::.blk b3 (.cells (putCells (R2.map Value.bool).toArray (0+x.A.toNat*1) [.bool true]) 127)::.blk b1 (hwC H a1 n1 c1 a2 n2 c2 a3 n3 c3 a4 n4 c4 a5 n5 c5)::S) w:=hw
    rw[putBool (by omega)]at hw
    refine byG ?_;refine lStore (i:=1) (o:=0+x.B.toNat*1) (ho:=by simp;omega) ?_
    intro w hw;have hw:Wd Γ (.blk b6 (.cells (enc x).toArray 79)::.blk b3 (.cells (putCells ((R2.set x.A.toNat true).map Value.bool).toArray (0+x.B.toNat*1) [.bool true]) 127)::.blk b1 (hwC H a1 n1 c1 a2 n2 c2 a3 n3 c3 a4 n4 c4 a5 n5 c5)::S) w:=hw
    rw[putBool (by simp;omega)]at hw
    have hRA:Reach H.Links x0.Node x.A∧Reach H.Links x0.Node x.B:=by
     cases ba with
     | true=>
      obtain⟨n,hn,hn0,hr⟩:=hkn.ok _ hba
      have:n=x.A:=by omega
      subst this;exact⟨hr,.ab hxm hr⟩
     | false=>
      have:bb=true:=by simpa using h3
      subst this;obtain⟨n,hn,hn0,hr⟩:=hkn.ok _ hbb
      have:n=x.B:=by omega
      subst this;exact⟨.ba hxm hr,hr⟩
    have hS0:((R2.set x.A.toNat true).set x.B.toNat true)[x0.Node.toNat]? = some true:=by
     rw[List.getElem?_set,List.getElem?_set];split
     ·simp;omega
     ·split
      ·simp;omega
      ·exact hR0
    have hne:ba=bb∧(R2.set x.A.toNat true).set x.B.toNat true=R2∨ba≠bb∧((R2.set x.A.toNat true).set x.B.toNat true).count false+1≤R2.count false:=by
     cases ba with
     | true=>
      rw[set_true_self hba];cases bb with
      | true=>exact .inl ⟨rfl,set_true_self hbb⟩
      | false=>exact .inr ⟨by simp,count_set_lt hbb⟩
     | false=>
      have:bb=true:=by simpa using h3
      subst this;refine .inr ⟨by simp,?_⟩
      have h5:=count_set_lt hba
      have h6:=count_set_le (R:=R2.set x.A.toNat true) (k:=x.B.toNat)
      omega
    have hcnt2:((R2.set x.A.toNat true).set x.B.toNat true).count false≤R2.count false:=Nat.le_trans count_set_le count_set_le
    refine byG ?_;refine⟨μ2-1,by omega,k+1,_,by omega,(hkn.set hA0 hRA.1).set hB0 hRA.2,hS0,?_,⟨rfl,rfl,rfl,rfl,trivial⟩,hw.drop⟩
    rcases hor with⟨h6,h7⟩|⟨h6,h7⟩
    ·rcases hne with⟨h8,h9⟩|⟨h8,h9⟩
     ·refine .inl ⟨by rw[h9];exact h6,fun i l hi hl=>?_⟩
      by_cases e:i=k
      ·subst e;rw[hx]at hl;cases hl
       rw[←h6,ga,gb,h8]
      ·exact h7 i l (by omega) hl
     ·refine .inr ⟨fun hC=>h8 ?_,by rw[←h6];exact h9⟩
      rw[←ga,←gb,h6];exact hC x hxm
    ·exact .inr ⟨h6,by omega⟩
   ·have h3:(ba||bb)=false:=h3
    have hab:ba=bb:=by cases ba <;> cases bb <;> simp_all
    refine byG ?_;refine⟨μ2-1,by omega,k+1,R2,by omega,hkn,hR0,?_,⟨rfl,rfl,rfl,rfl,trivial⟩,hw.drop⟩
    rcases hor with⟨h6,h7⟩|h6
    ·refine .inl ⟨h6,fun i l hi hl=>?_⟩
     by_cases e:i=k
     ·subst e;rw[hx]at hl;cases hl
      rw[←h6,ga,gb,hab]
     ·exact h7 i l (by omega) hl
    ·exact .inr h6
  ·have hkn3:¬k<n3:=by have:=of_decide_eq_false h2;omega
   refine byG ?_;refine⟨μ-1,by omega,t+1,R2,by omega,hkn,hR0,?_,⟨rfl,rfl,rfl,trivial⟩,hw⟩
   rcases hor with⟨h6,h7⟩|⟨h6,h7⟩
   ·left
    rw[h6];intro l hl;obtain⟨i,hi⟩:=List.getElem?_of_mem hl
    exact h7 i l (by have:=(List.getElem?_eq_some_iff.1 hi).1;omega) hi
   ·rcases hcl with h8|h8
    ·exact absurd h8 h6
    ·exact .inr (by omega)
 ·have ht64:¬t<64:=by have:=of_decide_eq_false h;omega
  have hC:ClosedR H.Links R:=by
   rcases hcl with h8|h8
   ·exact h8
   ·omega
  clear h hcl;have hRl:=hkn.len
  have hrq:∀n:Int,0≤n∧n<64→(R.getD n.toNat false=true↔Reach H.Links x0.Node n):=fun n hn=>known_iff hkn hR0 hs00 hLk hC hn
  refine byG ?_;refine lCall ((Used_any (H:=H) (s:=H.Name) r1.rdS r4.rdS r5.rdS hNd hw).mono fun e w hq=>?_)
  clear hw;obtain⟨rfl,hw⟩:=hq;refine⟨_,rfl,?_⟩;have hUl:(markN R64 (usedN H)).length=64:=by rw[markN_len];simp
  have hUt:∀k:Nat,(markN R64 (usedN H))[k]? = some true→∃n∈usedN H,n.toNat=k:=fun k hk=>by
   rcases mark_true _ _ _ hk with h1|h1
   ·rw[List.getElem?_replicate]at h1;split at h1 <;> simp at h1
   ·exact h1
  have hUf:∀k:Nat,(markN R64 (usedN H))[k]? = some false→∀n∈usedN H,n.toNat≠k:=fun k hk=>(markN_get _ _ _ hk).2
  generalize markN R64 (usedN H)=U at *
  refine byG ?_;refine lAlloc ?_;intro b7 w hw;refine lStore (vs:=U.map Value.bool) ?_ (hl:=by simp[hUl]) (h1:=by simp[Value.oneCell']) (ho:=by simp) (hv:=by simp[Value.cells])
  intro w hw;have hw:Wd Γ (.blk b7 (.cells (putCells ((List.replicate 64 false).map Value.bool).toArray 0 (U.map Value.bool)) 127)::.blk b3 (.cells (R.map Value.bool).toArray 127)::.blk b1 (hwC H a1 n1 c1 a2 n2 c2 a3 n3 c3 a4 n4 c4 a5 n5 c5)::S) w:=hw
  rw[show putCells ((List.replicate 64 false).map Value.bool).toArray 0 (U.map Value.bool)=(U.map Value.bool).toArray from by unfold putCells;simp[hUl]]at hw
  refine byG ?_;refine W_loop (fun μ ρ w=>∃(i:Nat),μ+i=64∧(∀j:Nat,j<i→U[j]? = some true→R[j]? = some true)∧Has ρ [(3,.pointer (some ⟨b3,0,none⟩)),(7,.pointer (some ⟨b7,0,none⟩)),(8,.int .i64 i)]∧Wd Γ (.blk b7 (.cells (U.map Value.bool).toArray 127)::.blk b3 (.cells (R.map Value.bool).toArray 127)::.blk b1 (hwC H a1 n1 c1 a2 n2 c2 a3 n3 c3 a4 n4 c4 a5 n5 c5)::S) w) 64 ⟨0,by omega,fun j h=>by omega,⟨rfl,rfl,rfl,trivial⟩,hw⟩ ?_
  clear hw;rintro μ ρ w ⟨i,hi,hall,hρ,hw⟩
  rw[hρ.eq];clear hρ;refine byG ?_;refine W_cond rfl (fun h=>?_) (fun h=>?_)
  ·have hin:i<64:=by have:=of_decide_eq_true h;omega
   clear h;obtain⟨bu,hbu⟩:=get_lt (l:=U) (k:=i) (by omega)
   obtain⟨br,hbr⟩:=get_lt (l:=R) (k:=i) (by omega)
   refine byG ?_;refine lY (v:=.bool bu) ?_ (hy:=y_l1b (i:=0) hw rfl rfl (getBool hbu))
   refine byG ?_;refine lG (v:=.bool br) ?_ (hv:=fun hc=>y_l1b (i:=1) hw (gvT hc rfl) rfl (getBool hbr))
   refine byG ?_;refine W_cond rfl (fun h3=>?_) (fun h3=>?_)
   ·have h3:(bu && !br)=true:=h3
    simp only[Bool.and_eq_true,Bool.not_eq_true']at h3
    obtain⟨rfl,rfl⟩:=h3;refine byG ?_;refine⟨_,rfl,ret_b rfl ?_,hw.ds [0,0,0]⟩
    obtain⟨n,hn,hni⟩:=hUt i hbu
    refine(decP_f fun hP=>?_).symm
    have h5:=hP n hn
    rw[hhead]at h5;have h6:=(hrq n (hNd n hn)).2 h5
    rw[hni,List.getD_eq_getElem?_getD,hbr]at h6;cases h6
   ·have h3:(bu && !br)=false:=h3
    refine byG ?_;refine⟨μ-1,by omega,i+1,by omega,fun j hj hu=>?_,⟨rfl,rfl,rfl,trivial⟩,hw⟩
    by_cases e:j=i
    ·subst e;rw[hbu]at hu;cases hu
     cases br with
     | true=>exact hbr
     | false=>simp at h3
    ·exact hall j (by omega) hu
  ·have hin:¬i<64:=by have:=of_decide_eq_false h;omega
   refine byG ?_;refine⟨_,rfl,ret_b rfl ?_,hw.ds [0,0,0]⟩
   refine(decP_t fun n hn=>?_).symm
   rw[hhead];have hr:=hNd n hn
   obtain⟨bu,hbu⟩:=get_lt (l:=U) (k:=n.toNat) (by omega)
   cases bu with
   | false=>exact absurd rfl (hUf _ hbu n hn)
   | true=>
    refine(hrq n hr).1 ?_
    rw[List.getD_eq_getElem?_getD,hall n.toNat (by omega) hbu];rfl
theorem nodup_succ{α:Type}{l:List α}{i:Nat}{x:α}(h:(l.take i).Nodup)(hx:l[i]? = some x)(hn:∀j y,j<i→l[j]? = some y→x≠y):(l.take (i+1)).Nodup:=by
 rw[List.take_add_one,hx];refine List.nodup_append.2 ⟨h,by simp,fun a ha b hb e=>?_⟩
 have hb:b=x:=by simpa using hb
 subst hb;subst e;obtain⟨j,hj,hja⟩:=List.getElem_of_mem ha
 have hji:j<i:=by rw[List.length_take]at hj;omega
 refine hn j a hji ?_ rfl
 have h1:(l.take i)[j]? = some a:=by rw[List.getElem?_eq_getElem hj,hja]
 rwa [List.getElem?_take,if_pos hji]at h1
theorem not_nodup{α:Type}{l:List α}{i k:Nat}{x:α}(hk:k<i)(hx:l[i]? = some x)(hy:l[k]? = some x):¬l.Nodup:=fun h=>by
 obtain⟨h1,h2⟩:=List.getElem?_eq_some_iff.1 hx
 obtain⟨h3,h4⟩:=List.getElem?_eq_some_iff.1 hy
 exact List.pairwise_iff_getElem.1 h k i h3 h1 hk (h4.trans h2.symm)
theorem mapG{α β:Type}{f:α→β}{l:List α}{i:Nat}{x:α}(h:l[i]? = some x):(l.map f)[i]? = some (f x):=by rw[List.getElem?_map,h];rfl
theorem no_step{α:Type}{l:List α}{x y:α}{k:Nat}(h:∀j z,j<k→l[j]? = some z→x≠z)(hy:l[k]? = some y)(hxy:¬x=y):∀j z,j<k+1→l[j]? = some z→x≠z:=fun j z hj hz=>by
 by_cases e:j=k
 ·subst e;rw[hy]at hz;cases hz;exact hxy
 ·exact h j z (by omega) hz
theorem twice_any{Γ:Gho}{S:List Res}{w:World}{v:Value}(xs:List Int)(hr:RepS Γ v 1 (intRows xs))(hw:Wd Γ S w) :
  Calls Tryz.prog 118 #[v] w fun e w'=>e=.returned (.bool (!decide xs.Nodup))∧Wd Γ S w':=by
 obtain⟨a,n,c,rfl,hn,hnc,hc⟩:=hr.shape;rw[show (intRows xs).length=xs.length from List.length_map ..]at hn;refine calls_of_W Tryz.func118 rfl rfl ?_
 refine byG ?_;refine W_loop (fun μ ρ w=>∃(i:Nat),μ+i=n∧Has ρ [(0,.slice a n c),(3,.int .i64 i)]∧(xs.take i).Nodup∧Wd Γ S w) n ⟨0,by omega,⟨rfl,rfl,trivial⟩,by simp,hw⟩ ?_
 clear hw;rintro μ ρ w ⟨i,hi,hρ,hnd,hw⟩
 rw[hρ.eq];refine byG ?_;refine W_cond rfl (fun h=>?_) (fun h=>?_)
 ·have hin:i<n:=by have:=of_decide_eq_true h;omega
  clear h;obtain⟨x,hx⟩:=get_lt (l:=xs) (k:=i) (by omega)
  refine byG ?_;refine W_loop (fun μ ρ w=>∃(k:Nat),μ+k=i∧Has ρ [(0,.slice a n c),(3,.int .i64 i),(4,.int .i64 k)]∧(∀j y,j<k→xs[j]? = some y→x≠y)∧Wd Γ S w) i ⟨0,by omega,⟨rfl,rfl,rfl,trivial⟩,fun j y hj=>by omega,hw⟩ ?_
  clear hw hρ;rintro μ2 ρ w ⟨k,hk,hρ,hno,hw⟩
  rw[hρ.eq];refine byG ?_;refine W_cond rfl (fun h=>?_) (fun h=>?_)
  ·have hki:k<i:=by have:=of_decide_eq_true h;omega
   clear h;obtain⟨y,hy⟩:=get_lt (l:=xs) (k:=k) (by omega)
   refine byG ?_;refine W_quiet (by kernel_rfl) (by kernel_rfl) hw ?_
   refine byQ ?_;intro w hw;refine byG ?_;refine W_cond rfl (fun h=>?_) (fun h=>?_)
   ·have h:x=y:=of_decide_eq_true h
    subst h;refine byG ?_;exact⟨_,rfl,ret_b rfl (by rw[decide_eq_false (not_nodup hki hx hy)];rfl),hw⟩
   ·have h:¬x=y:=of_decide_eq_false h
    refine byG ?_;exact⟨μ2-1,by omega,k+1,by omega,⟨rfl,rfl,rfl,trivial⟩,no_step hno hy h,hw⟩
  ·have hki:i≤k:=by have:=of_decide_eq_false h;omega
   refine byG ?_;exact⟨μ-1,by omega,i+1,by omega,⟨rfl,rfl,trivial⟩,nodup_succ hnd hx fun j y hj=>hno j y (by omega),hw⟩
 ·have hin:n≤i:=by have:=of_decide_eq_false h;omega
  rw[List.take_of_length_le (by omega)]at hnd
  refine byG ?_;exact⟨_,rfl,ret_b rfl (by rw[decide_eq_true hnd];rfl),hw⟩
theorem key_iff(x y:LinkT):(linkKey x=linkKey y)↔(x.A=y.A∧x.B=y.B∨x.A=y.B∧x.B=y.A):=by
 unfold linkKey;rw[Prod.mk.injEq];constructor
 ·rintro⟨h1,h2⟩;split at h1 <;> split at h1 <;> split at h2 <;> split at h2 <;> omega
 ·rintro (⟨h1,h2⟩|⟨h1,h2⟩)
  ·rw[h1,h2];exact⟨rfl,rfl⟩
  ·rw[h1,h2];refine⟨?_,?_⟩
   ·split <;> split <;> omega
   ·split <;> split <;> omega
theorem uniq_no{H:HwT}(h:¬(H.Cores.map (·.ID)).Nodup∨¬(H.Caches.map (·.Name)).Nodup∨¬(H.Mems.map (·.Name)).Nodup∨¬(H.Devs.map (·.Name)).Nodup∨¬(H.Devs.map (·.IRQ)).Nodup∨¬(H.Links.map linkKey).Nodup):true = !uniqueB H:=by
 unfold uniqueB;rcases h with h|h|h|h|h|h <;> rw[decide_eq_false h] <;> simp only[Bool.and_false,Bool.false_and,Bool.not_false]
theorem duplicate_any{Γ:Gho}{u:Value}{H:HwT}[hh:HwR Γ u H]{S:List Res}{w:World}(hw:Wd Γ S w) :
  Calls Tryz.prog 63 #[u] w fun e w'=>e=.returned (.bool (!uniqueB H))∧Wd Γ S w':=by
 obtain⟨a1,n1,c1,a2,n2,c2,a3,n3,c3,a4,n4,c4,a5,n5,c5,cs,rfl,hcs,hok,hsz,r1,r2,r3,r4,r5⟩:=hh.h;obtain⟨f1,f1',f1''⟩:=rep_facts r1
 obtain⟨f2,f2',f2''⟩:=rep_facts r2
 obtain⟨f3,f3',f3''⟩:=rep_facts r3
 obtain⟨f4,f4',f4''⟩:=rep_facts r4
 obtain⟨f5,f5',f5''⟩:=rep_facts r5
 simp only[List.length_map]at f1 f2 f3 f4 f5
 have hcl:cs.length=H.Caches.length:=by rw[←hcs,List.length_map]
 refine calls_of_W Tryz.func63 rfl rfl ?_
 refine byG ?_;refine lBox ?_;intro b1 w hw;have hw:Wd Γ (.blk b1 (hwC H a1 n1 c1 a2 n2 c2 a3 n3 c3 a4 n4 c4 a5 n5 c5)::S) w:=hw
 refine byG ?_;refine W_loop (fun μ ρ w=>∃(i:Nat),μ+i=n1∧Has ρ [(1,.pointer (some ⟨b1,0,none⟩)),(3,.int .i64 i)]∧(((H.Cores.map (·.ID)).take i).Nodup)∧Wd Γ (.blk b1 (hwC H a1 n1 c1 a2 n2 c2 a3 n3 c3 a4 n4 c4 a5 n5 c5)::S) w) n1 ⟨0,by omega,⟨rfl,rfl,trivial⟩,by simp,hw⟩ ?_
 clear hw;rintro μ ρ w ⟨i,hi,hρ,hnd0,hw⟩
 rw[hρ.eq];refine byG ?_;refine W_cond rfl (fun h=>?_) (fun h=>?_)
 ·have hin:i<n1:=by have:=of_decide_eq_true h;omega
  clear h;obtain⟨x,hx⟩:=get_lt (l:=H.Cores) (k:=i) (by omega)
  refine byG ?_;refine W_loop (fun μ ρ w=>∃(k:Nat),μ+k=i∧Has ρ [(1,.pointer (some ⟨b1,0,none⟩)),(3,.int .i64 i),(4,.int .i64 k)]∧((∀j y,j<k→(H.Cores.map (·.ID))[j]? = some y→((·.ID)) x≠y))∧Wd Γ (.blk b1 (hwC H a1 n1 c1 a2 n2 c2 a3 n3 c3 a4 n4 c4 a5 n5 c5)::S) w) i ⟨0,by omega,⟨rfl,rfl,rfl,trivial⟩,fun j y hj=>by omega,hw⟩ ?_
  clear hw hρ;rintro μ2 ρ w ⟨k,hk,hρ,hno0,hw⟩
  rw[hρ.eq];refine byG ?_;refine W_cond rfl (fun h=>?_) (fun h=>?_)
  ·have hki:k<i:=by have:=of_decide_eq_true h;omega
   clear h;obtain⟨y,hy⟩:=get_lt (l:=H.Cores) (k:=k) (by omega)
   refine byG ?_;refine W_quiet (by kernel_rfl) (by kernel_rfl) hw ?_
   refine byQ ?_;intro w hw;refine byG ?_;refine W_cond rfl (fun h=>?_) (fun h=>?_)
   ·have h:x.ID=y.ID:=of_decide_eq_true h
    refine byG ?_;exact⟨_,rfl,ret_b rfl (uniq_no (.inl (not_nodup hki (mapG hx) ((mapG hy).trans (congrArg some h.symm))))),hw.drop⟩
   ·have h:¬x.ID=y.ID:=of_decide_eq_false h
    refine byG ?_;exact⟨μ2-1,by omega,k+1,by omega,⟨rfl,rfl,rfl,trivial⟩,no_step hno0 (mapG hy) h,hw⟩
  have hki:i≤k:=by have:=of_decide_eq_false h;omega
  refine byG ?_;exact⟨μ-1,by omega,i+1,by omega,⟨rfl,rfl,trivial⟩,nodup_succ hnd0 (mapG hx) fun j y hj=>hno0 j y (by omega),hw⟩
 have hin:n1≤i:=by have:=of_decide_eq_false h;omega
 clear h;rw[List.take_of_length_le (by rw[List.length_map];omega)]at hnd0
 have hq10:=hnd0
 clear hi hρ hnd0;refine byG ?_;refine W_loop (fun μ ρ w=>∃(i:Nat),μ+i=n2∧Has ρ [(1,.pointer (some ⟨b1,0,none⟩)),(5,.int .i64 i)]∧(((H.Caches.map (·.Name)).take i).Nodup)∧(∀c∈H.Caches.take i,c.Cores.Nodup)∧Wd Γ (.blk b1 (hwC H a1 n1 c1 a2 n2 c2 a3 n3 c3 a4 n4 c4 a5 n5 c5)::S) w) n2 ⟨0,by omega,⟨rfl,rfl,trivial⟩,by simp,by simp,hw⟩ ?_
 clear hw;rintro μ ρ w ⟨i,hi,hρ,hnd0,hcn,hw⟩
 rw[hρ.eq];refine byG ?_;refine W_cond rfl (fun h=>?_) (fun h=>?_)
 ·have hin:i<n2:=by have:=of_decide_eq_true h;omega
  clear h;obtain⟨x,hx⟩:=get_lt (l:=cs) (k:=i) (by omega)
  obtain⟨gx1,gx2,gx3⟩:=(hok x (List.mem_of_getElem? hx)).facts
  have hxT:H.Caches[i]? = some x.T:=by rw[←hcs,List.getElem?_map,hx];rfl
  refine byG ?_;refine W_loop (fun μ ρ w=>∃(k:Nat),μ+k=i∧Has ρ [(1,.pointer (some ⟨b1,0,none⟩)),(5,.int .i64 i),(6,.int .i64 k)]∧((∀j y,j<k→(H.Caches.map (·.Name))[j]? = some y→((·.Name)) x.T≠y))∧Wd Γ (.blk b1 (hwC H a1 n1 c1 a2 n2 c2 a3 n3 c3 a4 n4 c4 a5 n5 c5)::S) w) i ⟨0,by omega,⟨rfl,rfl,rfl,trivial⟩,fun j y hj=>by omega,hw⟩ ?_
  clear hw hρ;rintro μ2 ρ w ⟨k,hk,hρ,hno0,hw⟩
  rw[hρ.eq];refine byG ?_;refine W_cond rfl (fun h=>?_) (fun h=>?_)
  ·have hki:k<i:=by have:=of_decide_eq_true h;omega
   clear h;obtain⟨y,hy⟩:=get_lt (l:=cs) (k:=k) (by omega)
   have hyT:H.Caches[k]? = some y.T:=by rw[←hcs,List.getElem?_map,hy];rfl
   refine byG ?_;refine W_quiet (by kernel_rfl) (by kernel_rfl) hw ?_
   refine byQ ?_;intro w hw;refine byG ?_;refine W_cond rfl (fun h=>?_) (fun h=>?_)
   ·have h:x.Name=y.Name:=of_decide_eq_true h
    refine byG ?_;exact⟨_,rfl,ret_b rfl (uniq_no (.inr (.inl (not_nodup hki (mapG hxT) ((mapG hyT).trans (congrArg some h.symm)))))),hw.drop⟩
   ·have h:¬x.Name=y.Name:=of_decide_eq_false h
    refine byG ?_;exact⟨μ2-1,by omega,k+1,by omega,⟨rfl,rfl,rfl,trivial⟩,no_step hno0 (mapG hyT) h,hw⟩
  have hki:i≤k:=by have:=of_decide_eq_false h;omega
  have hrd:RepS Γ (.slice x.A x.N x.C) 1 (intRows x.Cores):=hok x (List.mem_of_getElem? hx)
  refine byG ?_;refine lCall ?_;refine(twice_any x.Cores hrd hw).mono ?_
  clear hw;rintro e w ⟨rfl,hw⟩
  refine⟨_,rfl,?_⟩;refine byG ?_;refine W_cond rfl (fun h2=>?_) (fun h2=>?_)
  ·have h2:(!decide x.Cores.Nodup)=true:=h2
   have h2:¬x.Cores.Nodup:=of_decide_eq_false (notF h2)
   refine byG ?_;refine⟨_,rfl,ret_b rfl ?_,hw.drop⟩
   unfold uniqueB;rw[all_no hxT (p:=fun c=>decide c.Cores.Nodup) (decide_eq_false h2),Bool.false_and];rfl
  have h2:(!decide x.Cores.Nodup)=false:=h2
  have h2:x.Cores.Nodup:=of_decide_eq_true (notT h2)
  refine byG ?_;refine⟨μ-1,by omega,i+1,by omega,⟨rfl,rfl,trivial⟩,nodup_succ hnd0 (mapG hxT) fun j y hj=>hno0 j y (by omega),fun c hc=>?_,hw⟩
  rw[List.take_add_one,hxT]at hc;rcases List.mem_append.1 hc with q|q
  ·exact hcn c q
  ·rw[show c=x.T by simpa using q];exact h2
 have hin:n2≤i:=by have:=of_decide_eq_false h;omega
 clear h;rw[List.take_of_length_le (by rw[List.length_map];omega)]at hnd0
 rw[List.take_of_length_le (by omega)]at hcn
 have hq20:=hnd0
 clear hi hρ hnd0;refine byG ?_;refine W_loop (fun μ ρ w=>∃(i:Nat),μ+i=n4∧Has ρ [(1,.pointer (some ⟨b1,0,none⟩)),(7,.int .i64 i)]∧(((H.Mems.map (·.Name)).take i).Nodup)∧Wd Γ (.blk b1 (hwC H a1 n1 c1 a2 n2 c2 a3 n3 c3 a4 n4 c4 a5 n5 c5)::S) w) n4 ⟨0,by omega,⟨rfl,rfl,trivial⟩,by simp,hw⟩ ?_
 clear hw;rintro μ ρ w ⟨i,hi,hρ,hnd0,hw⟩
 rw[hρ.eq];refine byG ?_;refine W_cond rfl (fun h=>?_) (fun h=>?_)
 ·have hin:i<n4:=by have:=of_decide_eq_true h;omega
  clear h;obtain⟨x,hx⟩:=get_lt (l:=H.Mems) (k:=i) (by omega)
  refine byG ?_;refine W_loop (fun μ ρ w=>∃(k:Nat),μ+k=i∧Has ρ [(1,.pointer (some ⟨b1,0,none⟩)),(7,.int .i64 i),(8,.int .i64 k)]∧((∀j y,j<k→(H.Mems.map (·.Name))[j]? = some y→((·.Name)) x≠y))∧Wd Γ (.blk b1 (hwC H a1 n1 c1 a2 n2 c2 a3 n3 c3 a4 n4 c4 a5 n5 c5)::S) w) i ⟨0,by omega,⟨rfl,rfl,rfl,trivial⟩,fun j y hj=>by omega,hw⟩ ?_
  clear hw hρ;rintro μ2 ρ w ⟨k,hk,hρ,hno0,hw⟩
  rw[hρ.eq];refine byG ?_;refine W_cond rfl (fun h=>?_) (fun h=>?_)
  ·have hki:k<i:=by have:=of_decide_eq_true h;omega
   clear h;obtain⟨y,hy⟩:=get_lt (l:=H.Mems) (k:=k) (by omega)
   refine byG ?_;refine W_quiet (by kernel_rfl) (by kernel_rfl) hw ?_
   refine byQ ?_;intro w hw;refine byG ?_;refine W_cond rfl (fun h=>?_) (fun h=>?_)
   ·have h:x.Name=y.Name:=of_decide_eq_true h
    refine byG ?_;exact⟨_,rfl,ret_b rfl (uniq_no (.inr (.inr (.inl (not_nodup hki (mapG hx) ((mapG hy).trans (congrArg some h.symm))))))),hw.drop⟩
   ·have h:¬x.Name=y.Name:=of_decide_eq_false h
    refine byG ?_;exact⟨μ2-1,by omega,k+1,by omega,⟨rfl,rfl,rfl,trivial⟩,no_step hno0 (mapG hy) h,hw⟩
  have hki:i≤k:=by have:=of_decide_eq_false h;omega
  refine byG ?_;exact⟨μ-1,by omega,i+1,by omega,⟨rfl,rfl,trivial⟩,nodup_succ hnd0 (mapG hx) fun j y hj=>hno0 j y (by omega),hw⟩
 have hin:n4≤i:=by have:=of_decide_eq_false h;omega
 clear h;rw[List.take_of_length_le (by rw[List.length_map];omega)]at hnd0
 have hq40:=hnd0
 clear hi hρ hnd0;refine byG ?_;refine W_loop (fun μ ρ w=>∃(i:Nat),μ+i=n5∧Has ρ [(1,.pointer (some ⟨b1,0,none⟩)),(9,.int .i64 i)]∧(((H.Devs.map (·.Name)).take i).Nodup∧((H.Devs.map (·.IRQ)).take i).Nodup)∧Wd Γ (.blk b1 (hwC H a1 n1 c1 a2 n2 c2 a3 n3 c3 a4 n4 c4 a5 n5 c5)::S) w) n5 ⟨0,by omega,⟨rfl,rfl,trivial⟩,by simp,hw⟩ ?_
 clear hw;rintro μ ρ w ⟨i,hi,hρ,⟨hnd0,hnd1⟩,hw⟩
 rw[hρ.eq];refine byG ?_;refine W_cond rfl (fun h=>?_) (fun h=>?_)
 ·have hin:i<n5:=by have:=of_decide_eq_true h;omega
  clear h;obtain⟨x,hx⟩:=get_lt (l:=H.Devs) (k:=i) (by omega)
  refine byG ?_;refine W_loop (fun μ ρ w=>∃(k:Nat),μ+k=i∧Has ρ [(1,.pointer (some ⟨b1,0,none⟩)),(9,.int .i64 i),(10,.int .i64 k)]∧((∀j y,j<k→(H.Devs.map (·.Name))[j]? = some y→((·.Name)) x≠y)∧(∀j y,j<k→(H.Devs.map (·.IRQ))[j]? = some y→((·.IRQ)) x≠y))∧Wd Γ (.blk b1 (hwC H a1 n1 c1 a2 n2 c2 a3 n3 c3 a4 n4 c4 a5 n5 c5)::S) w) i ⟨0,by omega,⟨rfl,rfl,rfl,trivial⟩,⟨fun j y hj=>by omega,fun j y hj=>by omega⟩,hw⟩ ?_
  clear hw hρ;rintro μ2 ρ w ⟨k,hk,hρ,⟨hno0,hno1⟩,hw⟩
  rw[hρ.eq];refine byG ?_;refine W_cond rfl (fun h=>?_) (fun h=>?_)
  ·have hki:k<i:=by have:=of_decide_eq_true h;omega
   clear h;obtain⟨y,hy⟩:=get_lt (l:=H.Devs) (k:=k) (by omega)
   refine byG ?_;refine W_quiet (by kernel_rfl) (by kernel_rfl) hw ?_
   refine byQ ?_;intro w hw;refine byG ?_;refine W_cond rfl (fun h=>?_) (fun h=>?_)
   ·have h:(decide (x.Name=y.Name)||decide (x.IRQ=y.IRQ))=true:=h
    rw[Bool.or_eq_true,decide_eq_true_eq,decide_eq_true_eq]at h;refine byG ?_;refine⟨_,rfl,ret_b rfl (uniq_no (.inr (.inr (.inr ?_)))),hw.drop⟩
    rcases h with h|h
    ·exact .inl (not_nodup hki (mapG hx) ((mapG hy).trans (congrArg some h.symm)))
    ·exact .inr (.inl (not_nodup hki (mapG hx) ((mapG hy).trans (congrArg some h.symm))))
   ·have h:(decide (x.Name=y.Name)||decide (x.IRQ=y.IRQ))=false:=h
    rw[Bool.or_eq_false_iff,decide_eq_false_iff_not,decide_eq_false_iff_not]at h;refine byG ?_;exact⟨μ2-1,by omega,k+1,by omega,⟨rfl,rfl,rfl,trivial⟩,⟨no_step hno0 (mapG hy) h.1,no_step hno1 (mapG hy) h.2⟩,hw⟩
  have hki:i≤k:=by have:=of_decide_eq_false h;omega
  refine byG ?_;exact⟨μ-1,by omega,i+1,by omega,⟨rfl,rfl,trivial⟩,⟨nodup_succ hnd0 (mapG hx) fun j y hj=>hno0 j y (by omega),nodup_succ hnd1 (mapG hx) fun j y hj=>hno1 j y (by omega)⟩,hw⟩
 have hin:n5≤i:=by have:=of_decide_eq_false h;omega
 clear h;rw[List.take_of_length_le (by rw[List.length_map];omega)]at hnd0
 rw[List.take_of_length_le (by rw[List.length_map];omega)]at hnd1
 have hq50:=hnd0
 have hq51:=hnd1
 clear hi hρ hnd0 hnd1;refine byG ?_;refine W_loop (fun μ ρ w=>∃(i:Nat),μ+i=n3∧Has ρ [(1,.pointer (some ⟨b1,0,none⟩)),(11,.int .i64 i)]∧(((H.Links.map linkKey).take i).Nodup)∧Wd Γ (.blk b1 (hwC H a1 n1 c1 a2 n2 c2 a3 n3 c3 a4 n4 c4 a5 n5 c5)::S) w) n3 ⟨0,by omega,⟨rfl,rfl,trivial⟩,by simp,hw⟩ ?_
 clear hw;rintro μ ρ w ⟨i,hi,hρ,hnd0,hw⟩
 rw[hρ.eq];refine byG ?_;refine W_cond rfl (fun h=>?_) (fun h=>?_)
 ·have hin:i<n3:=by have:=of_decide_eq_true h;omega
  clear h;obtain⟨x,hx⟩:=get_lt (l:=H.Links) (k:=i) (by omega)
  refine byG ?_;refine W_loop (fun μ ρ w=>∃(k:Nat),μ+k=i∧Has ρ [(1,.pointer (some ⟨b1,0,none⟩)),(11,.int .i64 i),(12,.int .i64 k)]∧((∀j y,j<k→(H.Links.map linkKey)[j]? = some y→(linkKey) x≠y))∧Wd Γ (.blk b1 (hwC H a1 n1 c1 a2 n2 c2 a3 n3 c3 a4 n4 c4 a5 n5 c5)::S) w) i ⟨0,by omega,⟨rfl,rfl,rfl,trivial⟩,fun j y hj=>by omega,hw⟩ ?_
  clear hw hρ;rintro μ2 ρ w ⟨k,hk,hρ,hno0,hw⟩
  rw[hρ.eq];refine byG ?_;refine W_cond rfl (fun h=>?_) (fun h=>?_)
  ·have hki:k<i:=by have:=of_decide_eq_true h;omega
   clear h;obtain⟨y,hy⟩:=get_lt (l:=H.Links) (k:=k) (by omega)
   refine byG ?_;refine W_mixed [.blk b1 (hwC H a1 n1 c1 a2 n2 c2 a3 n3 c3 a4 n4 c4 a5 n5 c5)] [fun _=>[],fun _=>[],fun _=>S] [[],[],[],[],[],[],[],[],[],[],[0],[1],[0],[1]] [[],[],[],[],[],[],[],[],[],[],[0],[1],[0],[1]] [[13],[14],[]] (by have:=hw;simpa[List.range,List.range.loop,ML] using this) ?_
   refine byM ?_;refine mAlloc ?_
   refine mAlloc ?_
   refine mStoreAt ?_
   refine mStoreAt ?_
   refine mEnd fun w g hw=>?_
   have hw:Wd Γ (.blk b1 (hwC H a1 n1 c1 a2 n2 c2 a3 n3 c3 a4 n4 c4 a5 n5 c5)::atP (g 13) _::atP (g 14) _::(S++[])) w:=hw
   rw[List.append_nil]at hw;obtain⟨b13,hg13,hw⟩:=(Wd.ps [1] hw).openAt
   have hw:Wd Γ (.blk b13 (.cells (enc x).toArray 79)::.blk b1 (hwC H a1 n1 c1 a2 n2 c2 a3 n3 c3 a4 n4 c4 a5 n5 c5)::atP (g 14) _::S) w:=hw
   obtain⟨b14,hg14,hw⟩:=(Wd.ps [2] hw).openAt
   have hw:Wd Γ (.blk b14 (.cells (enc y).toArray 79)::.blk b13 (.cells (enc x).toArray 79)::.blk b1 (hwC H a1 n1 c1 a2 n2 c2 a3 n3 c3 a4 n4 c4 a5 n5 c5)::S) w:=hw
   refine W_has (l:=[(1,.pointer (some ⟨b1,0,none⟩)),(11,.int .i64 i),(12,.int .i64 k),(13,.pointer (some ⟨b13,0,none⟩)),(14,.pointer (some ⟨b14,0,none⟩))]) ⟨rfl,rfl,rfl,hg13,hg14,trivial⟩ fun ρ' hρ'=>?_
   clear hg13 hg14;rw[hρ'.eq];clear hρ';refine byG ?_;refine W_cond rfl (fun h=>?_) (fun h=>?_)
   ·have h:((decide (x.A=y.A)&&decide (x.B=y.B))||(decide (x.A=y.B)&&decide (x.B=y.A)))=true:=h
    simp only[Bool.or_eq_true,Bool.and_eq_true,decide_eq_true_eq]at h
    refine byG ?_;exact⟨_,rfl,ret_b rfl (uniq_no (.inr (.inr (.inr (.inr (.inr (not_nodup hki (mapG hx) ((mapG hy).trans (congrArg some ((key_iff x y).2 h).symm))))))))),hw.ds [0,0,0]⟩
   ·have h:((decide (x.A=y.A)&&decide (x.B=y.B))||(decide (x.A=y.B)&&decide (x.B=y.A)))=false:=h
    have h:¬linkKey x=linkKey y:=fun q=>by
     have q:=(key_iff x y).1 q
     have:((decide (x.A=y.A)&&decide (x.B=y.B))||(decide (x.A=y.B)&&decide (x.B=y.A)))=true:=by
      simp only[Bool.or_eq_true,Bool.and_eq_true,decide_eq_true_eq];exact q
     rw[h]at this;cases this
    refine byG ?_;exact⟨μ2-1,by omega,k+1,by omega,⟨rfl,rfl,rfl,trivial⟩,no_step hno0 (mapG hy) h,hw.ds [0,0]⟩
  have hki:i≤k:=by have:=of_decide_eq_false h;omega
  refine byG ?_;exact⟨μ-1,by omega,i+1,by omega,⟨rfl,rfl,trivial⟩,nodup_succ hnd0 (mapG hx) fun j y hj=>hno0 j y (by omega),hw⟩
 have hin:n3≤i:=by have:=of_decide_eq_false h;omega
 clear h;rw[List.take_of_length_le (by rw[List.length_map];omega)]at hnd0
 have hq30:=hnd0
 clear hi hρ hnd0;refine byG ?_;refine⟨_,rfl,ret_b rfl ?_,hw.drop⟩
 have hcn':H.Caches.all (fun c=>decide c.Cores.Nodup)=true:=List.all_eq_true.2 fun c hc=>decide_eq_true (hcn c hc)
 unfold uniqueB;rw[hcn',decide_eq_true hq10,decide_eq_true hq20,decide_eq_true hq40,decide_eq_true hq50,decide_eq_true hq51,decide_eq_true hq30];rfl
theorem hasR_any{Γ:Gho}{S:List Res}{w:World}{v:Value}{xs:List Int}(hr:RdS Γ S v 1 (intRows xs))(x:Int)(hw:Wd Γ S w):Calls Tryz.prog 119 #[v,.int .i64 x] w fun e w'=>e=.returned (.bool (memI x xs))∧Wd Γ S w':=by
 obtain⟨a,n,c,rfl,hn,hnc,hc⟩:=hr.shape;have hn0:=hn
 rw[show (intRows xs).length=xs.length from List.length_map ..]at hn;refine calls_of_W Tryz.func119 rfl rfl ?_
 refine byG ?_;refine W_loop (fun μ ρ w=>∃(k:Nat),μ+k=n∧Has ρ [(0,.slice a n c),(1,.int .i64 x),(5,.int .i64 k)]∧memI x xs=memI x (xs.drop k)∧Wd Γ S w) n ⟨0,by omega,⟨rfl,rfl,rfl,trivial⟩,rfl,hw⟩ ?_
 clear hw;rintro μ ρ w ⟨k,hk,hρ,hal,hw⟩
 rw[hρ.eq];refine byG ?_;refine W_cond rfl (fun h=>?_) (fun h=>?_)
 ·have hkn:k<n:=by have:=of_decide_eq_true h;omega
  clear h;obtain⟨y,hy⟩:=get_lt (l:=xs) (k:=k) (by omega)
  have hm:memI x (xs.drop k)=(decide (x=y)||memI x (xs.drop (k+1))):=by unfold memI;rw[dropG hy,List.any_cons]
  rw[hm]at hal;refine byG ?_;refine W_cond rfl (fun h=>?_) (fun h=>?_)
  ·have h:y=x:=of_decide_eq_true h
   refine byG ?_;exact⟨_,rfl,ret_b rfl (by rw[hal,decide_eq_true h.symm];rfl),hw⟩
  ·have h:¬y=x:=of_decide_eq_false h
   rw[decide_eq_false (fun q=>h q.symm),Bool.false_or]at hal;refine byG ?_;exact⟨μ-1,by omega,k+1,by omega,⟨rfl,rfl,rfl,trivial⟩,hal,hw⟩
 ·have hkn:n≤k:=by have:=of_decide_eq_false h;omega
  have:memI x (xs.drop k)=false:=by rw[List.drop_eq_nil_of_le (by omega)];rfl
  rw[this]at hal;refine byG ?_;exact⟨_,rfl,ret_b rfl hal.symm,hw⟩
instance pg_hasR{Γ:Gho}{v:Value}{xs:List Int}[hr:SlC Γ v 1 (intRows xs)](x:Int):PG Tryz.prog Γ 119 [v,.int .i64 x] (.bool (memI x xs)):=⟨fun S w hw=>hasR_any hr.h.rdS x hw⟩
def ascP(l:List Int):Prop:=∀(i:Nat) (a b:Int),l[i]? = some a→l[i+1]? = some b→a<b
def NestP(l:List CacheT):Prop:=(∀c∈l,ascP c.Cores)∧∀(i k:Nat) (a b:CacheT),l[i]? = some a→l[k]? = some b→pairB i k a b=true
theorem nested_any{Γ:Gho}{u:Value}{H:HwT}[hh:HwR Γ u H]{S:List Res}{w:World}(hw:Wd Γ S w) :
  Calls Tryz.prog 65 #[u] w fun e w'=>e=.returned (.bool (decP (NestP H.Caches)))∧Wd Γ S w':=by
 obtain⟨a1,n1,c1,a2,n2,c2,a3,n3,c3,a4,n4,c4,a5,n5,c5,cs,rfl,hcs,hok,hsz,r1,r2,r3,r4,r5⟩:=hh.h;obtain⟨hn2,hm2,hx2⟩:=rep_facts r2
 simp only[List.length_map]at hn2
 have hget:∀(i:Nat) (x:CacheH),cs[i]? = some x→H.Caches[i]? = some x.T:=fun i x h=>by rw[←hcs];simp[h]
 refine calls_of_W Tryz.func65 rfl rfl ?_
 refine byG ?_;refine lBox ?_;intro b1 w hw;have hw:Wd Γ (.blk b1 (hwC H a1 n1 c1 a2 n2 c2 a3 n3 c3 a4 n4 c4 a5 n5 c5)::S) w:=hw
 refine byG ?_;refine W_loop (fun μ ρ w=>∃(k:Nat),μ+k=n2∧Has ρ [(1,.pointer (some ⟨b1,0,none⟩)),(3,.int .i64 k)]∧(∀(i:Nat) (x:CacheH),i<k→cs[i]? = some x→ascP x.Cores)∧Wd Γ (.blk b1 (hwC H a1 n1 c1 a2 n2 c2 a3 n3 c3 a4 n4 c4 a5 n5 c5)::S) w) n2 ⟨0,by omega,⟨rfl,rfl,trivial⟩,fun i x h=>by omega,hw⟩ ?_
 clear hw;rintro μ ρ w ⟨k,hk,hρ,hall,hw⟩
 rw[hρ.eq];refine byG ?_;refine W_cond rfl (fun h=>?_) (fun h=>?_)
 ·have hkn:k<n2:=by have:=of_decide_eq_true h;omega
  clear h;obtain⟨x,hx⟩:=get_lt (l:=cs) (k:=k) (by omega)
  have hcx:=hok x (List.mem_of_getElem? hx)
  obtain⟨hxn,hxm,hxc⟩:=hcx.facts;unfold COk at hcx;refine byG ?_;refine lAlloc ?_;intro b4 w hw;refine lStore ?_;intro w hw;have hw:Wd Γ (.blk b4 (.cells (cC x).toArray 89)::.blk b1 (hwC H a1 n1 c1 a2 n2 c2 a3 n3 c3 a4 n4 c4 a5 n5 c5)::S) w:=hw
  refine byG ?_;refine W_loop (fun μ2 ρ w=>∃(j:Nat),μ2+j=x.N+1∧1≤j∧Has ρ [(1,.pointer (some ⟨b1,0,none⟩)),(3,.int .i64 k),(4,.pointer (some ⟨b4,0,none⟩)),(5,.int .i64 j)]∧(∀(i:Nat) (a b:Int),i+1<j→x.Cores[i]? = some a→x.Cores[i+1]? = some b→a<b)∧Wd Γ (.blk b4 (.cells (cC x).toArray 89)::.blk b1 (hwC H a1 n1 c1 a2 n2 c2 a3 n3 c3 a4 n4 c4 a5 n5 c5)::S) w) x.N ⟨1,by omega,by omega,⟨rfl,rfl,rfl,rfl,trivial⟩,fun i a b h=>by omega,hw⟩ ?_
  clear hw hρ;rintro μ2 ρ w ⟨j,hj,hj1,hρ,hasc,hw⟩
  rw[hρ.eq];refine byG ?_;refine W_cond rfl (fun h=>?_) (fun h=>?_)
  ·have hjn:j<x.N:=by have:=of_decide_eq_true h;omega
   clear h;obtain⟨i,rfl⟩:∃i,j=i+1:=⟨j-1,by omega⟩
   obtain⟨b,hb⟩:=get_lt (l:=x.Cores) (k:=i+1) (by omega)
   obtain⟨a,ha⟩:=get_lt (l:=x.Cores) (k:=i) (by omega)
   have ha':x.Cores[(((i+1:Nat):Int)-1).toNat]? = some a:=by rw[show (((i+1:Nat):Int)-1).toNat=i by omega];exact ha
   refine byG ?_;refine W_quiet (by kernel_rfl) (by kernel_rfl) hw ?_
   refine byQ ?_;intro w hw;refine byG ?_;refine W_cond rfl (fun h=>?_) (fun h=>?_)
   ·have h:b≤a:=of_decide_eq_true h
    refine byG ?_;refine⟨_,rfl,ret_b rfl ?_,hw.ds [0,0]⟩
    refine(decP_f fun hP=>?_).symm
    have:=hP.1 x.T (List.mem_of_getElem? (hget k x hx)) i a b ha hb
    omega
   ·have h:¬b≤a:=of_decide_eq_false h
    refine byG ?_;refine⟨μ2-1,by omega,i+1+1,by omega,by omega,⟨rfl,rfl,rfl,rfl,trivial⟩,fun i' a' b' hi' hA hB=>?_,hw⟩
    by_cases e:i'=i
    ·subst e;rw[ha]at hA;rw[hb]at hB;cases hA;cases hB;omega
    ·exact hasc i' a' b' (by omega) hA hB
  ·have hjn:x.N≤j:=by have:=of_decide_eq_false h;omega
   refine byG ?_;refine⟨μ-1,by omega,k+1,by omega,⟨rfl,rfl,trivial⟩,fun i y hi hy=>?_,hw.drop⟩
   by_cases e:i=k
   ·subst e;rw[hx]at hy;cases hy
    exact fun i a b ha hb=>hasc i a b (by have:=(List.getElem?_eq_some_iff.1 hb).1;omega) ha hb
   ·exact hall i y (by omega) hy
 have hkn:n2≤k:=by have:=of_decide_eq_false h;omega
 have hsort:∀(i:Nat) (x:CacheH),cs[i]? = some x→ascP x.Cores:=fun i x hx=>hall i x (by have:=(List.getElem?_eq_some_iff.1 hx).1;omega) hx
 clear h hkn hall hρ hk;refine byG ?_;refine W_loop (fun μ ρ w=>∃(k:Nat),μ+k=n2∧Has ρ [(1,.pointer (some ⟨b1,0,none⟩)),(6,.int .i64 k)]∧(∀(i j:Nat) (a b:CacheH),i<k→cs[i]? = some a→cs[j]? = some b→pairB i j a.T b.T=true)∧Wd Γ (.blk b1 (hwC H a1 n1 c1 a2 n2 c2 a3 n3 c3 a4 n4 c4 a5 n5 c5)::S) w) n2 ⟨0,by omega,⟨rfl,rfl,trivial⟩,fun i j a b h=>by omega,hw⟩ ?_
 clear hw;rintro μ ρ w ⟨i,hi,hρ,hall,hw⟩
 rw[hρ.eq];refine byG ?_;refine W_cond rfl (fun h=>?_) (fun h=>?_)
 ·have hin:i<n2:=by have:=of_decide_eq_true h;omega
  clear h;obtain⟨x,hx⟩:=get_lt (l:=cs) (k:=i) (by omega)
  have hcx:=hok x (List.mem_of_getElem? hx)
  obtain⟨hxn,hxm,hxc⟩:=hcx.facts;unfold COk at hcx;refine byG ?_;refine W_loop (fun μ2 ρ w=>∃(k:Nat),μ2+k=n2∧Has ρ [(1,.pointer (some ⟨b1,0,none⟩)),(6,.int .i64 i),(7,.int .i64 k)]∧(∀(j:Nat) (b:CacheH),j<k→cs[j]? = some b→pairB i j x.T b.T=true)∧Wd Γ (.blk b1 (hwC H a1 n1 c1 a2 n2 c2 a3 n3 c3 a4 n4 c4 a5 n5 c5)::S) w) n2 ⟨0,by omega,⟨rfl,rfl,rfl,trivial⟩,fun j b h=>by omega,hw⟩ ?_
  clear hw hρ;rintro μ2 ρ w ⟨k,hk,hρ,hall2,hw⟩
  rw[hρ.eq];refine byG ?_;refine W_cond rfl (fun h2=>?_) (fun h2=>?_)
  ·have hkn:k<n2:=by have:=of_decide_eq_true h2;omega
   clear h2;obtain⟨y,hy⟩:=get_lt (l:=cs) (k:=k) (by omega)
   have hcy:=hok y (List.mem_of_getElem? hy)
   obtain⟨hyn,hym,hyc⟩:=hcy.facts;haveI:SlC Γ (.slice y.A y.N y.C) 1 (intRows y.Cores):=⟨hcy⟩
   refine byG ?_;refine W_mixed [.blk b1 (hwC H a1 n1 c1 a2 n2 c2 a3 n3 c3 a4 n4 c4 a5 n5 c5)] [fun _=>[],fun _=>[],fun _=>S] [[],[],[],[],[],[],[],[],[],[],[0],[1],[0],[1]] [[],[],[],[],[],[],[],[],[],[],[0],[1],[0],[1]] [[8],[9],[]] (by have:=hw;simpa[List.range,List.range.loop,ML] using this) ?_
   refine byM ?_;refine mAlloc ?_
   refine mAlloc ?_
   refine mStoreAt ?_
   refine mStoreAt ?_
   refine mEnd fun w g hw=>?_
   have hw:Wd Γ (.blk b1 (hwC H a1 n1 c1 a2 n2 c2 a3 n3 c3 a4 n4 c4 a5 n5 c5)::atP (g 8) _::atP (g 9) _::(S++[])) w:=hw
   rw[List.append_nil]at hw;obtain⟨b8,hg8,hw⟩:=(Wd.ps [1] hw).openAt
   have hw:Wd Γ (.blk b8 (.cells (cC x).toArray 89)::.blk b1 (hwC H a1 n1 c1 a2 n2 c2 a3 n3 c3 a4 n4 c4 a5 n5 c5)::atP (g 9) _::S) w:=hw
   obtain⟨b9,hg9,hw⟩:=(Wd.ps [2] hw).openAt
   have hw:Wd Γ (.blk b9 (.cells (cC y).toArray 89)::.blk b8 (.cells (cC x).toArray 89)::.blk b1 (hwC H a1 n1 c1 a2 n2 c2 a3 n3 c3 a4 n4 c4 a5 n5 c5)::S) w:=hw
   refine W_has (l:=[(1,.pointer (some ⟨b1,0,none⟩)),(6,.int .i64 i),(7,.int .i64 k),(8,.pointer (some ⟨b8,0,none⟩)),(9,.pointer (some ⟨b9,0,none⟩))]) ⟨rfl,rfl,rfl,hg8,hg9,trivial⟩ fun ρ' hρ'=>?_
   clear hg8 hg9;rw[hρ'.eq];clear hρ';refine byG ?_;refine W_cond rfl (fun h3=>?_) (fun h3=>?_)
   ·have hp:pairB i k x.T y.T=true:=by
     have h3:(decide ((i:Int)=k)||decide (y.Level<x.Level))=true:=h3
     unfold pairB CacheH.T;rw[show decide (i=k)=decide ((i:Int)=k) from decide_eq_decide.2 (by omega)]
     rw[h3];rfl
    refine byG ?_;exact⟨μ2-1,by omega,k+1,by omega,⟨rfl,rfl,rfl,trivial⟩,allI_step (p:=fun j b=>pairB i j x.T b.T) hall2 hy hp,hw.ds [0,0]⟩
   ·have h3:(decide ((i:Int)=k)||decide (y.Level<x.Level))=false:=h3
    refine byG ?_;refine W_loop (fun μ3 ρ w=>∃(j:Nat),μ3+j=x.N∧Has ρ [(1,.pointer (some ⟨b1,0,none⟩)),(6,.int .i64 i),(7,.int .i64 k),(8,.pointer (some ⟨b8,0,none⟩)),(9,.pointer (some ⟨b9,0,none⟩)),(10,.int .i64 (sharedN (x.Cores.take j) y.Cores)),(11,.int .i64 j)]∧Wd Γ (.blk b9 (.cells (cC y).toArray 89)::.blk b8 (.cells (cC x).toArray 89)::.blk b1 (hwC H a1 n1 c1 a2 n2 c2 a3 n3 c3 a4 n4 c4 a5 n5 c5)::S) w) x.N ⟨0,by omega,⟨rfl,rfl,rfl,rfl,rfl,rfl,rfl,trivial⟩,hw⟩ ?_
    clear hw;rintro μ3 ρ w ⟨j,hj,hρ,hw⟩
    rw[hρ.eq];have hle:sharedN (x.Cores.take j) y.Cores≤j:=Nat.le_trans (List.length_filter_le _ _) (by simp;omega)
    refine byG ?_;refine W_cond rfl (fun h4=>?_) (fun h4=>?_)
    ·have hjn:j<x.N:=by have:=of_decide_eq_true h4;omega
     obtain⟨v,hv⟩:=get_lt (l:=x.Cores) (k:=j) (by omega)
     have hst:sharedN (x.Cores.take (j+1)) y.Cores=sharedN (x.Cores.take j) y.Cores+(if memI v y.Cores=true then 1 else 0):=by
      unfold sharedN;rw[take_succ_of hv,List.filter_append,List.length_append];congr 1
      by_cases e:memI v y.Cores=true <;> simp[e]
     refine byG ?_;refine W_quiet (by kernel_rfl) (by kernel_rfl) hw ?_
     refine byQ ?_;intro w hw;refine byG ?_;refine W_cond rfl (fun h5=>?_) (fun h5=>?_)
     ·rw[if_pos h5]at hst;refine byG ?_;exact⟨μ3-1,by omega,j+1,by omega,⟨rfl,rfl,rfl,rfl,rfl,by rw[hst];rfl,rfl,trivial⟩,hw⟩
     ·rw[if_neg (by rw[h5];simp)]at hst
      refine byG ?_;exact⟨μ3-1,by omega,j+1,by omega,⟨rfl,rfl,rfl,rfl,rfl,by rw[hst];rfl,rfl,trivial⟩,hw⟩
    ·have hjn:¬j<x.N:=by have:=of_decide_eq_false h4;omega
     rw[List.take_of_length_le (by omega)]
     refine byG ?_;have key:pairB i k x.T y.T = !(decide ((0:Int)<(sharedN x.Cores y.Cores:Nat))&&(decide (x.Level=y.Level)||decide (((sharedN x.Cores y.Cores:Nat):Int)<x.N))):=by
      unfold pairB CacheH.T;rw[show decide (i=k)=decide ((i:Int)=k) from decide_eq_decide.2 (by omega),h3]
      rw[show decide (0<sharedN x.Cores y.Cores)=decide ((0:Int)<(sharedN x.Cores y.Cores:Nat)) from decide_eq_decide.2 (by omega)]
      rw[show decide (sharedN x.Cores y.Cores<x.Cores.length)=decide (((sharedN x.Cores y.Cores:Nat):Int)<x.N) from decide_eq_decide.2 (by omega)]
      rfl
     refine W_cond rfl (fun h6=>?_) (fun h6=>?_)
     ·have hp:pairB i k x.T y.T=false:=key.trans (congrArg (fun b=>!b) h6)
      refine byG ?_;refine⟨_,rfl,ret_b rfl ?_,hw.ds [0,0,0]⟩
      refine(decP_f fun hP=>?_).symm
      rw[hP.2 i k x.T y.T (hget i x hx) (hget k y hy)]at hp;cases hp
     ·have hp:pairB i k x.T y.T=true:=key.trans (congrArg (fun b=>!b) h6)
      refine byG ?_;exact⟨μ2-1,by omega,k+1,by omega,⟨rfl,rfl,rfl,trivial⟩,allI_step (p:=fun j b=>pairB i j x.T b.T) hall2 hy hp,hw.ds [0,0]⟩
  ·have hkn:n2≤k:=by have:=of_decide_eq_false h2;omega
   refine byG ?_;refine⟨μ-1,by omega,i+1,by omega,⟨rfl,rfl,trivial⟩,fun i' j a b h1 ha hb=>?_,hw⟩
   by_cases e:i'=i
   ·subst e;rw[hx]at ha;cases ha
    exact hall2 j b (by have:=(List.getElem?_eq_some_iff.1 hb).1;omega) hb
   ·exact hall i' j a b (by omega) ha hb
 ·have hin:n2≤i:=by have:=of_decide_eq_false h;omega
  refine byG ?_;refine⟨_,rfl,ret_b rfl ?_,hw.drop⟩
  refine(decP_t ⟨fun c hc=>?_,fun p q a b ha hb=>?_⟩).symm
  ·rw[←hcs]at hc;obtain⟨x,hx,rfl⟩:=List.mem_map.1 hc
   obtain⟨q,hq,he⟩:=List.getElem_of_mem hx
   exact hsort q x (by rw[List.getElem?_eq_getElem hq,he])
  ·rw[←hcs,List.getElem?_map]at ha hb
   obtain⟨x,hx,rfl⟩:=Option.map_eq_some_iff.1 ha
   obtain⟨y,hy,rfl⟩:=Option.map_eq_some_iff.1 hb
   exact hall p q x y (by have:=(List.getElem?_eq_some_iff.1 hx).1;omega) hx hy
theorem nest_hier{l:List CacheT}(hn:∀c∈l,c.Cores.Nodup):NestP l↔HierP l:=by
 unfold NestP HierP;refine and_congr ⟨fun h c hc i a b ha hb=>?_,fun h c hc i a b ha hb=>?_⟩ Iff.rfl
 ·exact Int.le_of_lt (h c hc i a b ha hb)
 ·have h1:=h c hc i a b ha hb
  have h2:b≠a:=fun e=>not_nodup (Nat.lt_succ_self i) hb (by rw[e];exact ha) (hn c hc)
  omega
class WideH(H:HwT):Prop where h:MemWide H
instance pg_namesR{Γ:Gho}{u:Value}{H:HwT}[hh:HwR Γ u H]:PG Tryz.prog Γ 60 [u] (.bool (namesB H)):=⟨fun S w hw=>names_any hw⟩
instance pg_rangesR{Γ:Gho}{u:Value}{H:HwT}[hh:HwR Γ u H]:PG Tryz.prog Γ 61 [u] (.bool (coresRB H&&regionsRB H)):=⟨fun S w hw=>ranges_any hw⟩
instance pg_duplicateR{Γ:Gho}{u:Value}{H:HwT}[hh:HwR Γ u H]:PG Tryz.prog Γ 63 [u] (.bool (!uniqueB H)):=⟨fun S w hw=>duplicate_any hw⟩
theorem coreAt_neg{l:List CoreT}{id:Int}:decide (coreAt l id<0) = !(l.any fun x=>decide (x.ID=id)):=by
 rw[←coreAt_any,←decide_not];congr 1
 apply propext
 omega
theorem bool_not{b:Bool}(h:(!b)=false):b=true:=by simpa using h
instance pg_RValidate{Γ:Gho}{u:Value}{H:HwT}[hh:HwR Γ u H][hwd:WideH H]:PG Tryz.prog Γ 28 [u] (.int .i64 (validS H)):=⟨fun S w hw=>by
 have hh':=hh
 obtain⟨a1,n1,c1,a2,n2,c2,a3,n3,c3,a4,n4,c4,a5,n5,c5,cs,rfl,hcs,hok,hsz,r1,r2,r3,r4,r5⟩:=hh.h;obtain⟨hn1,hm1,hx1⟩:=rep_facts r1
 obtain⟨hn2,hm2,hx2⟩:=rep_facts r2
 obtain⟨hn3,hm3,hx3⟩:=rep_facts r3
 obtain⟨hn4,hm4,hx4⟩:=rep_facts r4
 obtain⟨hn5,hm5,hx5⟩:=rep_facts r5
 simp only[List.length_map]at hn1 hn2 hn3 hn4 hn5
 have hcl:H.Caches.length=cs.length:=by rw[←hcs,List.length_map]
 refine calls_of_W Tryz.func28 rfl rfl ?_
 refine byG ?_;refine lBox ?_;intro b1 w hw;have hw:Wd Γ (.blk b1 (hwC H a1 n1 c1 a2 n2 c2 a3 n3 c3 a4 n4 c4 a5 n5 c5)::S) w:=hw
 unfold validS;repeat first|refine byW ?_|refine byV ?_;intro w hw
 refine W_cond rfl (fun h=>?_) (fun h=>?_)
 ·rw[if_pos (by simpa using h)]
  refine byG ?_;exact⟨_,rfl,rfl,hw.drop⟩
 rw[if_neg (by rw[bool_not h];simp)]
 clear h;refine byG ?_;refine W_cond rfl (fun h=>?_) (fun h=>?_)
 ·have h:(((((decide ((n1:Int)=0)||decide ((n1:Int) > 32))||decide ((n2:Int) > 64))||decide ((n3:Int) > 256))||decide ((n4:Int) > 64))||decide ((n5:Int) > 32))=true:=h
  rw[if_pos (by
   unfold countsB;simp only[Bool.or_eq_true,decide_eq_true_eq]at h
   rw[Bool.eq_false_iff];simp only[ne_eq,Bool.and_eq_true,decide_eq_true_eq]
   omega)]
  refine byG ?_;exact⟨_,rfl,rfl,hw.drop⟩
 have h:(((((decide ((n1:Int)=0)||decide ((n1:Int) > 32))||decide ((n2:Int) > 64))||decide ((n3:Int) > 256))||decide ((n4:Int) > 64))||decide ((n5:Int) > 32))=false:=h
 have hcnt:countsB H=true:=by
  unfold countsB;simp only[Bool.or_eq_false_iff,decide_eq_false_iff_not]at h
  simp only[Bool.and_eq_true,decide_eq_true_eq]
  omega
 rw[if_neg (by rw[hcnt];simp)]
 clear h;repeat first|refine byW ?_|refine byV ?_;intro w hw
 refine W_cond rfl (fun h=>?_) (fun h=>?_)
 ·rw[if_pos (notF h)];refine byG ?_;exact⟨_,rfl,rfl,hw.drop⟩
 have h:=bool_not h
 rw[if_neg (by rw[h];simp)]
 rw[Bool.and_eq_true]at h;obtain⟨hcr,hrr⟩:=h;haveI pal:PG Tryz.prog Γ 62 [.agg #[.string H.Name,.slice a1 n1 c1,.slice a2 n2 c2,.slice a3 n3 c3,.slice a4 n4 c4,.slice a5 n5 c5]] (.bool (alignRB H)):=⟨fun S w hw=>by
  have:=aligned_any (hh:=hh') hw
  rwa [align_ref hwd.h hrr]at this⟩
 haveI pov:PG Tryz.prog Γ 66 [.agg #[.string H.Name,.slice a1 n1 c1,.slice a2 n2 c2,.slice a3 n3 c3,.slice a4 n4 c4,.slice a5 n5 c5]] (.bool (!disjB H)):=⟨fun S w hw=>overlap_any (hh:=hh') hcnt hw⟩
 haveI pco:PG Tryz.prog Γ 67 [.agg #[.string H.Name,.slice a1 n1 c1,.slice a2 n2 c2,.slice a3 n3 c3,.slice a4 n4 c4,.slice a5 n5 c5]] (.bool (connB H)):=⟨fun S w hw=>connectedR_any (hh:=hh') hcnt hcr hrr hw⟩
 repeat first|refine byW ?_|refine byV ?_;intro w hw
 refine W_cond rfl (fun h=>?_) (fun h=>?_)
 ·rw[if_pos (by simpa using h)]
  refine byG ?_;exact⟨_,rfl,rfl,hw.drop⟩
 rw[if_neg (by rw[bool_not h];simp)]
 clear h;repeat first|refine byW ?_|refine byV ?_;intro w hw
 refine W_cond rfl (fun h=>?_) (fun h=>?_)
 ·rw[if_pos (by simpa using h)]
  refine byG ?_;exact⟨_,rfl,rfl,hw.drop⟩
 have hun:=bool_not h
 rw[if_neg (by rw[hun];simp)]
 clear h;haveI pne:PG Tryz.prog Γ 65 [.agg #[.string H.Name,.slice a1 n1 c1,.slice a2 n2 c2,.slice a3 n3 c3,.slice a4 n4 c4,.slice a5 n5 c5]] (.bool (hierB H)):=⟨fun S w hw=>by
  have:=nested_any (hh:=hh') hw
  have e:decP (NestP H.Caches)=hierB H:=by
   unfold hierB;have hi:NestP H.Caches↔HierP H.Caches:=nest_hier fun c hc=>by
    unfold uniqueB at hun;simp only[Bool.and_eq_true,List.all_eq_true,decide_eq_true_eq]at hun
    exact hun.1 c hc
   by_cases hp:HierP H.Caches
   ·rw[decP_t hp,decP_t (hi.2 hp)]
   ·rw[decP_f hp,decP_f (fun h=>hp (hi.1 h))]
  rwa [e]at this⟩
 refine byG ?_;have hknown:∀(k:Nat) (x:CacheH),cs[k]? = some x→knownB H=true→∀id∈x.Cores,(H.Cores.any fun y=>decide (y.ID=id))=true:=fun k x hx hk id hid=>by
  unfold knownB at hk;simp only[List.all_eq_true]at hk
  exact hk x.T (by rw[←hcs];exact List.mem_map_of_mem (List.mem_of_getElem? hx)) id hid
 refine W_loop (fun μ ρ w=>∃(k:Nat),μ+k=n2∧Has ρ [(1,.pointer (some ⟨b1,0,none⟩)),(3,.int .i64 k)]∧(∀(i:Nat) (x:CacheH),i<k→cs[i]? = some x→∀id∈x.Cores,(H.Cores.any fun y=>decide (y.ID=id))=true)∧Wd Γ (.blk b1 (hwC H a1 n1 c1 a2 n2 c2 a3 n3 c3 a4 n4 c4 a5 n5 c5)::S) w) n2 ⟨0,by omega,⟨rfl,rfl,trivial⟩,fun i x h=>by omega,hw⟩ ?_
 clear hw;rintro μ ρ w ⟨k,hk,hρ,hall,hw⟩
 rw[hρ.eq];clear hρ;refine byG ?_;refine W_cond rfl (fun h=>?_) (fun h=>?_)
 ·have hkn:k<n2:=by have:=of_decide_eq_true h;omega
  clear h;obtain⟨x,hx⟩:=get_lt (l:=cs) (k:=k) (by omega)
  have hcx:=hok x (List.mem_of_getElem? hx)
  obtain⟨hxn,hxm,hxc⟩:=hcx.facts;unfold COk at hcx;refine byG ?_;refine W_loop (fun μ2 ρ w=>∃(j:Nat),μ2+j=x.N∧Has ρ [(1,.pointer (some ⟨b1,0,none⟩)),(3,.int .i64 k),(4,.int .i64 j)]∧(∀(i:Nat) (id:Int),i<j→x.Cores[i]? = some id→(H.Cores.any fun y=>decide (y.ID=id))=true)∧Wd Γ (.blk b1 (hwC H a1 n1 c1 a2 n2 c2 a3 n3 c3 a4 n4 c4 a5 n5 c5)::S) w) x.N ⟨0,by omega,⟨rfl,rfl,rfl,trivial⟩,fun i id h=>by omega,hw⟩ ?_
  clear hw;rintro μ2 ρ w ⟨j,hj,hρ,hall2,hw⟩
  rw[hρ.eq];clear hρ;refine byG ?_;refine W_cond rfl (fun h=>?_) (fun h=>?_)
  ·have hjn:j<x.N:=by have:=of_decide_eq_true h;omega
   clear h;obtain⟨id,hid⟩:=get_lt (l:=x.Cores) (k:=j) (by omega)
   refine byG ?_;refine W_quiet (by kernel_rfl) (by kernel_rfl) hw ?_
   refine byQ ?_;intro w hw;refine W_cond rfl (fun h=>?_) (fun h=>?_)
   ·have h:decide (coreAt H.Cores id<0)=true:=h
    rw[coreAt_neg,Bool.not_eq_true']at h;have hkf:knownB H=false:=by
     cases hkk:knownB H with
     | false=>rfl
     | true=>rw[hknown k x hx hkk id (List.mem_of_getElem? hid)]at h;cases h
    rw[if_pos hkf];refine byG ?_;exact⟨_,rfl,rfl,hw.drop⟩
   ·have h:decide (coreAt H.Cores id<0)=false:=h
    rw[coreAt_neg,Bool.not_eq_false']at h;refine byG ?_;refine⟨μ2-1,by omega,j+1,by omega,⟨rfl,rfl,rfl,trivial⟩,fun i id' hi hid'=>?_,hw⟩
    by_cases e:i=j
    ·subst e;rw[hid]at hid';cases hid';exact h
    ·exact hall2 i id' (by omega) hid'
  ·have hjn:¬j<x.N:=by have:=of_decide_eq_false h;omega
   refine byG ?_;refine⟨μ-1,by omega,k+1,by omega,⟨rfl,rfl,trivial⟩,fun i x' hi hx' id hid=>?_,hw⟩
   by_cases e:i=k
   ·subst e;rw[hx]at hx';cases hx'
    obtain⟨q,hq⟩:=List.getElem?_of_mem hid
    exact hall2 q id (by have:=(List.getElem?_eq_some_iff.1 hq).1;omega) hq
   ·exact hall i x' (by omega) hx' id hid
 ·have hkn:¬k<n2:=by have:=of_decide_eq_false h;omega
  have hkt:knownB H=true:=by
   unfold knownB;simp only[List.all_eq_true]
   intro c hc id hid;rw[←hcs]at hc;obtain⟨x,hx,rfl⟩:=List.mem_map.1 hc
   obtain⟨q,hq⟩:=List.getElem?_of_mem hx
   exact hall q x (by have:=(List.getElem?_eq_some_iff.1 hq).1;omega) hq id hid
  rw[if_neg (by rw[hkt];simp)]
  clear h;repeat first|refine byW ?_|refine byV ?_;intro w hw
  refine W_cond rfl (fun h=>?_) (fun h=>?_)
  ·rw[if_pos (by simpa using h)]
   refine byG ?_;exact⟨_,rfl,rfl,hw.drop⟩
  rw[if_neg (by rw[bool_not h];simp)]
  clear h;repeat first|refine byW ?_|refine byV ?_;intro w hw
  refine W_cond rfl (fun h=>?_) (fun h=>?_)
  ·rw[if_pos (by simpa using h)]
   refine byG ?_;exact⟨_,rfl,rfl,hw.drop⟩
  rw[if_neg (by rw[bool_not h];simp)]
  clear h;repeat first|refine byW ?_|refine byV ?_;intro w hw
  refine W_cond rfl (fun h=>?_) (fun h=>?_)
  ·rw[if_pos (by simpa using h)]
   refine byG ?_;exact⟨_,rfl,rfl,hw.drop⟩
  rw[if_neg (by rw[bool_not h];simp)]
  clear h;refine byG ?_;exact⟨_,rfl,rfl,hw.drop⟩⟩
end Go.Proofs.YtfoggcgogafocaaGreat
end
section
open Go
namespace Mk
def Res.pk{α:Type}(φ:α→Prop)(R:α→List Res):Res where
 holds m bs h:=∃a bss,φ a∧Holds m (R a) bss h∧bs=bss.flatten
 loc m m' bs h h' hm hb:=by
  rintro⟨a,bss,h1,h2,rfl⟩;exact⟨a,bss,h1,Holds.loc hm (R a) bss hb h2,rfl⟩
theorem Wd.pack{Γ:Gho}{S:List Res}{w:World}{α:Type}{φ:α→Prop}{R:α→List Res}(a:α)(ha:φ a)(h:Wd Γ (R a++S) w):Wd Γ (Res.pk φ R::S) w:=by
 obtain⟨bss,h1,h2,h3⟩:=h.own;obtain⟨x,y,rfl,hx,hy⟩:=Holds.split _ _ _ h1
 refine⟨h.os,h.tape,h.out,h.dr,h.imm,x.flatten::y,⟨⟨a,x,ha,hx,rfl⟩,hy⟩,by simpa using h2,fun b hb=>h3 b (by simpa using hb)⟩
theorem Wd.unpack{Γ:Gho}{S:List Res}{w:World}{α:Type}{φ:α→Prop}{R:α→List Res}(h:Wd Γ (Res.pk φ R::S) w):∃a,φ a∧Wd Γ (R a++S) w:=by
 obtain⟨bss,h1,h2,h3⟩:=h.own;cases bss with
 | nil=>exact h1.elim
 | cons bs y=>
  obtain⟨⟨a,x,ha,hx,rfl⟩,hy⟩:=h1;exact⟨a,ha,h.os,h.tape,h.out,h.dr,h.imm,x++y,Holds.append _ _ _ _ hx hy,by simpa using h2,fun b hb=>h3 b (by simpa using hb)⟩
section
variable {P:Program}{Γ:Gho}{S:List Res}{w:World}{E n c g i:Nat}{α:Type}[Inhabited α]{f:α→Value}
theorem flatK_one(d:Array α):Go.Sort.flatK (fun x=>[f x]) 1 d=d.map f:=by
 refine Array.ext (by simp) fun i h1 h2=>?_
 have h3:i<d.size*1:=by simpa using h1
 rw[←getElem!_pos _ i h1,Go.Sort.get_flatK _ _ _ _ h3];have h4:i<d.size:=by omega
 have e1:i / 1=i:=Nat.div_one i
 have e2:i%1=0:=Nat.mod_one i
 rw[e1,e2,getElem!_pos d i h4];simp
theorem sortWorld_K1(w:World)(g m:Nat)(dk:Array α)(os:Array Obj):Go.Proofs.sortWorld f w g 0 m dk os=Go.Proofs.sortWorldK (fun x=>[f x]) 1 w g 0 m dk os:=by
 unfold Go.Proofs.sortWorld Go.Proofs.sortWorldK Go.Sort.putRowK Go.Sort.putRow;congr 2
 funext cs
 refine Array.ext (by simp[Go.Sort.putCells]) fun i h1 h2=>?_
 simp only[Go.Sort.putCells,Array.getElem_mapIdx,flatK_one,Array.size_map,Nat.zero_le,Nat.zero_add,true_and,Nat.sub_zero,id]
 by_cases h:i<dk.size
 ·rw[if_pos h,if_pos h,getElem!_pos dk i h,getElem!_pos (dk.map f) i (by simpa using h)];simp
 ·rw[if_neg h,if_neg h]
theorem SortFunc_1{ρ:Go.Shelf.Ren}(L:Go.Proofs.SlLaysF.n6 P ρ)(hf1:∀x,(f x).oneCell'=true)(cf:α→α→Int)(fn:Nat)(cap:List Value)[FnOk P fn](xs:List α)(v:Value)(hw:Wd Γ S w)(hi:S[i]? = some (.own v E 1 (xs.map fun x=>[f x])))
  (hO:Go.Sort.SWO (Go.Proofs.ltOf cf)) (hT:∀x y,(Go.Proofs.ltOf cf) x y=false→(Go.Proofs.ltOf cf) y x=false→x=y) (hlen:xs.length<4611686018427387904)
  (hcmp:∀(dk:List α) w',Wd Γ (S.set i (.own v E 1 (dk.map fun x=>[f x]))) w'→∀x y,Calls P fn (#[f x,f y]++cap.toArray) w' fun e w''=>e=.returned (.int .i64 (cf x y))∧∃S'',Wd (allG w') S'' w'') :
  Calls P (ρ.f 6) #[v,.func (.func fn) #[] cap.toArray] w fun e w'=>e=.returned (.tuple #[])∧Wd Γ (S.set i (.own v E 1 ((xs.mergeSort fun x y=>!(Go.Proofs.ltOf cf) y x).map fun x=>[f x]))) w':=by
 obtain⟨a,n,c,rfl,e2,e3,e4,e5⟩:=own_block hw hi
 have hn:n=xs.length:=by simpa using e2
 by_cases h0:n=0
 ·have hx:xs=[]:=List.eq_nil_of_length_eq_zero (by omega)
  subst h0;refine(Go.Proofs.AnyF.slices_SortFunc_none (P:=P) (ρ:=ρ) { L with } a c _ w).mono ?_
  rintro e w' ⟨he,rfl⟩
  refine⟨he,?_⟩
  rw[hx]at hi;rw[hx];have hset:S.set i (.own (.slice a 0 c) E 1 ((([]:List α).mergeSort fun x y=>!(Go.Proofs.ltOf cf) y x).map fun x=>[f x]))=S:=by
   obtain⟨hil,hie⟩:=List.getElem?_eq_some_iff.1 hi
   rw[List.mergeSort_nil,←hie];exact List.set_getElem_self hil
  rw[hset];exact hw
 ·have hc:0<c:=by omega
  rcases e5 with e5|⟨g,cur,rfl,hg,hcur,hcs,htk⟩
  ·omega
  obtain⟨hH,hgl⟩:=own_holdsK (enc:=fun x:α=>[f x]) (k:=1) (fun _=>rfl) hw hi hc
  have hH1:Go.Sort.Holds f w g 0 xs.toArray:=fun j hj=>by
   have:=hH j (by simpa using hj)
   rw[flatK_one]at this;have hj:j<xs.length:=by simpa using hj
   simpa[hj] using this
  have:=Go.Proofs.Any.slices_SortFunc_total L f hf1 cf hO fn cap.toArray g 0 c xs.toArray w (fun args w=>run_callFunc args) (fun m os dk hdk x y=>?_) hH1 hgl (by simpa using hlen) hT
  ·simp only[List.size_toArray]at this
   rw[←hn]at this;refine this.mono ?_
   rintro e w' ⟨he,n',os,rfl⟩
   refine⟨he,?_⟩
   rw[sortWorld_K1];have:=own_sortWorld (enc:=fun x:α=>[f x]) (k:=1) (fun _=>rfl) hw hi hc (xs.mergeSort fun x y=>!(Go.Proofs.ltOf cf) y x).toArray (by simp) n' os
   exact this
  ·have hw1:=own_sortWorld (enc:=fun x:α=>[f x]) (k:=1) (fun _=>rfl) hw hi hc dk (by simpa using hdk) m os
   rw[←sortWorld_K1]at hw1;refine(hcmp dk.toList _ hw1 x y).mono ?_
   rintro e w'' ⟨he,S'',hw2⟩
   exact⟨he,allG_grow hw2⟩
end
end Mk
end
section
open Go Mk
namespace Go.Proofs.YtfoggcgogafocaaGreat
def tcmp(t:Int→Int)(a b:Int):Int:=orI (cI (t b) (t a)) (cI a b)
theorem cI_lt{a b:Int}:cI a b<0↔a<b:=by unfold cI;split <;> (try split) <;> omega
theorem cI_0{a b:Int}:cI a b=0↔a=b:=by unfold cI;split <;> (try split) <;> omega
theorem tcmp_lt{t:Int→Int}{a b:Int}:Go.Proofs.ltOf (tcmp t) a b=true↔t b<t a∨(t a=t b∧a<b):=by
 unfold Go.Proofs.ltOf tcmp orI;rw[decide_eq_true_eq];by_cases h:cI (t b) (t a)=0
 ·rw[if_pos h,cI_lt];rw[cI_0]at h;omega
 ·rw[if_neg h,cI_lt];rw[cI_0]at h;omega
theorem tcmp_nlt{t:Int→Int}{a b:Int}:Go.Proofs.ltOf (tcmp t) a b=false↔t a<t b∨(t a=t b∧b≤a):=by
 have h:Go.Proofs.ltOf (tcmp t) a b=false↔¬Go.Proofs.ltOf (tcmp t) a b=true:=by simp
 rw[h,tcmp_lt];omega
theorem tcmp_swo(t:Int→Int):Go.Sort.SWO (Go.Proofs.ltOf (tcmp t)) where
 irrefl x:=by rw[tcmp_nlt];omega
 trans x y z:=by simp only[tcmp_lt];omega
 ntrans x y z:=by simp only[tcmp_nlt];omega
theorem tcmp_tot(t:Int→Int)(x y:Int)(h:Go.Proofs.ltOf (tcmp t) x y=false)(k:Go.Proofs.ltOf (tcmp t) y x=false):x=y:=by
 rw[tcmp_nlt]at h k;omega
def tsort(t:Int→Int)(l:List Int):List Int:=l.mergeSort fun x y=>!(Go.Proofs.ltOf (tcmp t)) y x
theorem tsort_perm(t:Int→Int)(l:List Int):(tsort t l).Perm l:=List.mergeSort_perm _ _
theorem tsort_congr{t t':Int→Int}{l:List Int}(h:∀a∈l,t a=t' a):tsort t l=tsort t' l:=by
 have:=List.map_mergeSort (f:=(id:Int→Int)) (r:=fun x y=>!(Go.Proofs.ltOf (tcmp t)) y x) (s:=fun x y=>!(Go.Proofs.ltOf (tcmp t')) y x) (l:=l) (fun a ha b hb=>by
  show (!(Go.Proofs.ltOf (tcmp t)) b a)=(!(Go.Proofs.ltOf (tcmp t')) b a)
  unfold Go.Proofs.ltOf tcmp;rw[h a ha,h b hb])
 simpa[tsort] using this
theorem tsort_pairwise(t:Int→Int)(l:List Int):(tsort t l).Pairwise fun x y=>t y<t x∨(t x=t y∧x≤y):=by
 have:=List.pairwise_mergeSort (le:=fun x y=>!(Go.Proofs.ltOf (tcmp t)) y x) (fun a b c=>by simp only[Bool.not_eq_true',tcmp_nlt];omega) (fun a b=>by simp only[Bool.or_eq_true,Bool.not_eq_true',tcmp_nlt];omega) l
 refine this.imp fun h=>?_
 rw[Bool.not_eq_true',tcmp_nlt]at h;omega
theorem tsort_of_perm{t:Int→Int}{l l':List Int}(h:l.Perm l'):tsort t l=tsort t l':=by
 have p:(tsort t l).Perm (tsort t l'):=(tsort_perm t l).trans (h.trans (tsort_perm t l').symm)
 exact p.eq_of_pairwise (fun a b _ _ h k=>by omega) (tsort_pairwise t l) (tsort_pairwise t l')
section
variable (far:Int→Int→Int)(cost:Int)(ch:Int→List Int)
def hmostF(cost:Int)(t:Int→Int):Nat→Int→List Int→Int
 | _,m,[]=>m
 | i,m,c::l=>hmostF cost t (i+1) (max m (((i:Int)+1)*cost+t c)) l
def hF:Nat→Int→Int
 | 0,_=>0
 | k+1,c=>hmostF cost (fun d=>far c d+hF k d) 0 0 (tsort (fun d=>far c d+hF k d) (ch c))
def Dep:Nat→Int→Prop
 | 0,_=>False
 | k+1,c=>∀d∈ch c,Dep k d
inductive Rch:Int→Int→Prop
 | refl (c:Int):Rch c c
 | step {c d x:Int}:d∈ch c→Rch d x→Rch c x
def hh(c:Int):Int:=hF far cost ch 4 c
def tl(c d:Int):Int:=far c d+hh far cost ch d
def srt(c:Int):List Int:=tsort (tl far cost ch c) (ch c)
end
section
variable {far:Int→Int→Int}{cost:Int}{ch:Int→List Int}
theorem Dep.mono:∀ {k m:Nat} {c:Int},Dep ch k c→k≤m→Dep ch m c
 | 0,_,_,h,_=>h.elim
 | k+1,0,_,_,hm=>by omega
 | k+1,m+1,c,h,hm=>fun d hd=>Dep.mono (h d hd) (by omega)
theorem hmostF_congr{t t':Int→Int}:∀ {l:List Int} {i:Nat} {m:Int},(∀a∈l,t a=t' a)→hmostF cost t i m l=hmostF cost t' i m l
 | [],_,_,_=>rfl
 | c::l,i,m,h=>by
  unfold hmostF;rw[h c (by simp)]
  exact hmostF_congr fun a ha=>h a (by simp[ha])
theorem hF_stable:∀ {k m:Nat} {c:Int},Dep ch k c→k≤m→hF far cost ch m c=hF far cost ch k c
 | 0,_,_,h,_=>h.elim
 | k+1,0,_,_,hm=>by omega
 | k+1,m+1,c,h,hm=>by
  have ht:∀d∈ch c,far c d+hF far cost ch m d=far c d+hF far cost ch k d:=fun d hd=>by rw[hF_stable (h d hd) (by omega)]
  unfold hF;rw[tsort_congr ht];exact hmostF_congr fun a ha=>ht a ((tsort_perm _ _).mem_iff.1 ha)
theorem hh_eq{k:Nat}{c:Int}(hd:Dep ch k c)(hk:k≤4):hh far cost ch c=hmostF cost (tl far cost ch c) 0 0 (srt far cost ch c):=by
 have hd4:Dep ch 4 c:=hd.mono hk
 unfold hh;rw[show (4:Nat)=3+1 from rfl];unfold hF;have ht:∀d∈ch c,far c d+hF far cost ch 3 d=tl far cost ch c d:=fun d hdm=>by
  unfold tl hh;rw[hF_stable (hd4 d hdm) (show 3≤4 by omega)]
 rw[tsort_congr ht];exact hmostF_congr fun a ha=>ht a ((tsort_perm _ _).mem_iff.1 ha)
theorem Rch.trans{a b c:Int}(h:Rch ch a b)(k:Rch ch b c):Rch ch a c:=by
 induction h with
 | refl=>exact k
 | step hd _ ih=>exact .step hd (ih k)
theorem Dep.rch{k:Nat}{a b:Int}(h:Rch ch a b)(hd:Dep ch k a):Dep ch k b:=by
 induction h with
 | refl=>exact hd
 | step hm _ ih=>
  cases k with
  | zero=>exact hd.elim
  | succ k=>exact ih ((hd _ hm).mono (by omega))
theorem no_cycle{c d:Int}(hd:d∈ch c)(hr:Rch ch d c):∀ {k:Nat},¬Dep ch k c
 | 0,h=>h
 | k+1,h=>no_cycle hd hr (k:=k) ((h d hd).rch hr)
theorem srt_perm(c:Int):(srt far cost ch c).Perm (ch c):=tsort_perm _ _
noncomputable def upS(far:Int→Int→Int)(cost:Int)(ch:Int→List Int)(D:Int→Prop)(cur:Int→List Int):Int→List Int:=fun x=>@ite _ (D x) (Classical.propDecidable _) (srt far cost ch x) (cur x)
theorem upS_in{D:Int→Prop}{cur:Int→List Int}{x:Int}(h:D x):upS far cost ch D cur x=srt far cost ch x:=if_pos h
theorem upS_out{D:Int→Prop}{cur:Int→List Int}{x:Int}(h:¬D x):upS far cost ch D cur x=cur x:=if_neg h
theorem upS_upS{D D':Int→Prop}{cur:Int→List Int}:upS far cost ch D' (upS far cost ch D cur)=upS far cost ch (fun x=>D x∨D' x) cur:=by
 funext x
 by_cases h:D' x
 ·rw[upS_in h,upS_in (.inr h)]
 ·rw[upS_out h];by_cases h2:D x
  ·rw[upS_in h2,upS_in (.inl h2)]
  ·rw[upS_out h2,upS_out (fun h3=>h3.elim h2 h)]
theorem upS_congr{D D':Int→Prop}{cur:Int→List Int}(h:∀x,D x↔D' x):upS far cost ch D cur=upS far cost ch D' cur:=by
 have:D=D':=funext fun x=>propext (h x)
 rw[this]
theorem upS_perm{D:Int→Prop}{cur:Int→List Int}{x:Int}(h:(cur x).Perm (ch x)):(upS far cost ch D cur x).Perm (ch x):=by
 by_cases hd:D x
 ·rw[upS_in hd];exact srt_perm x
 ·rw[upS_out hd];exact h
theorem hmostF_bound{t:Int→Int}{B:Int}(hc:0≤cost∧cost≤1000000)(hB:0≤B){l:List Int}:∀ {i:Nat} {m:Int},(∀a∈l,0≤t a∧t a≤B)→0≤m→m≤(i:Int)*1000000+B→0≤hmostF cost t i m l∧hmostF cost t i m l≤((i:Int)+(l.length:Int))*1000000+B:=by
 induction l with
 | nil=>
  intro i m _ h0 hm;unfold hmostF;exact⟨h0,by simpa using hm⟩
 | cons c l ih=>
  intro i m h h0 hm;unfold hmostF;have h1:=h c (by simp)
  have h2:((i:Int)+1)*cost≤((i:Int)+1)*1000000:=Int.mul_le_mul_of_nonneg_left hc.2 (by omega)
  have h3:0≤((i:Int)+1)*cost:=Int.mul_nonneg (by omega) hc.1
  generalize ((i:Int)+1)*cost=q at h2 h3
  have h4:=ih (i:=i+1) (m:=max m (q+t c)) (fun a ha=>h a (by simp[ha])) (by omega) (by omega)
  refine⟨h4.1,?_⟩
  have h5:=h4.2
  rw[List.length_cons];omega
theorem hh_bound(hc:0≤cost∧cost≤1000000):∀ {k:Nat} {c:Int},Dep ch k c→k≤4→(∀a b,Rch ch c a→b∈ch a→0≤far a b∧far a b≤63000000)→(∀a,Rch ch c a→(ch a).length≤1000)→0≤hh far cost ch c∧hh far cost ch c≤(k:Int)*1063000000
 | 0,_,h,_,_,_=>h.elim
 | k+1,c,h,hk,hf,hl=>by
  rw[hh_eq h hk];have hm:∀d∈srt far cost ch c,0≤tl far cost ch c d∧tl far cost ch c d≤(k:Int)*1063000000+63000000:=fun d hd=>by
   have hd:d∈ch c:=(srt_perm c).mem_iff.1 hd
   have h1:=hh_bound hc (h d hd) (by omega) (fun a b hr hb=>hf a b (.step hd hr) hb) (fun a hr=>hl a (.step hd hr))
   have h2:=hf c d (.refl c) hd
   unfold tl;omega
  have:=hmostF_bound (cost:=cost) hc (B:=(k:Int)*1063000000+63000000) (by omega) (i:=0) (m:=0) hm (Int.le_refl _) (by omega)
  have h3:=hl c (.refl c)
  have h4:=(srt_perm (far:=far) (cost:=cost) (ch:=ch) c).length_eq
  refine⟨this.1,?_⟩
  have h5:=this.2
  rw[h4]at h5;omega
end
set_option maxHeartbeats 8000000
attribute [local irreducible] Calls
def coreIx(l:List CoreT)(id:Int):Int:=match l.findIdx? (fun x=>decide (x.ID=id)) with|some k=>k|none=>-1
def findC(l:List CoreT)(id:Int):CoreT×Bool:=match l.find? (fun x=>decide (x.ID=id)) with|some c=>(c,true)|none=>(⟨0,0,0,0⟩,false)
theorem coreIx_some{l:List CoreT}{id:Int}{k:Nat}{x:CoreT}(hx:l[k]? = some x)(he:x.ID=id)(hl:∀j y,j<k→l[j]? = some y→y.ID≠id):coreIx l id=k∧findC l id=(x,true):=by
 obtain⟨hk,hxk⟩:=List.getElem?_eq_some_iff.1 hx
 have h1:l.findIdx? (fun x=>decide (x.ID=id))=some k:=by
  rw[List.findIdx?_eq_some_iff_getElem];refine⟨hk,by rw[hxk];simpa using he,fun j hj=>?_⟩
  have:=hl j l[j] hj (List.getElem?_eq_getElem ..)
  simpa using this
 have h2:l.find? (fun x=>decide (x.ID=id))=some x:=by
  rw[List.find?_eq_some_iff_getElem];refine⟨by simpa using he,k,hk,hxk,fun j hj=>?_⟩
  have:=hl j l[j] hj (List.getElem?_eq_getElem ..)
  simpa using this
 unfold coreIx findC;rw[h1,h2];exact⟨rfl,rfl⟩
theorem coreIx_none{l:List CoreT}{id:Int}(hl:∀y∈l,y.ID≠id):coreIx l id = -1∧findC l id=(⟨0,0,0,0⟩,false):=by
 have h1:l.findIdx? (fun x=>decide (x.ID=id))=none:=by
  rw[List.findIdx?_eq_none_iff];intro x hx;simpa using hl x hx
 have h2:l.find? (fun x=>decide (x.ID=id))=none:=by
  rw[List.find?_eq_none];intro x hx;simpa using hl x hx
 unfold coreIx findC;rw[h1,h2];exact⟨rfl,rfl⟩
theorem find1_any{Γ:Gho}{S:List Res}{w:World}{b:Nat}{id:Int}(x:CoreT)(hw:Wd Γ (.blk b (.cells #[.int .i64 id] 3)::S) w) :
  Calls Tryz.prog 154 #[.agg (enc x).toArray,.pointer (some ⟨b,0,none⟩)] w fun e w'=>e=.returned (.bool (decide (x.ID=id)))∧Wd Γ (.blk b (.cells #[.int .i64 id] 3)::S) w':=by
 refine calls_of_W Tryz.func154 rfl rfl ?_
 repeat first|refine byW ?_|refine byV ?_;intro w hw
 refine lBox ?_;intro b2 w hw;have hw:Wd Γ (.blk b2 (.cells (enc x).toArray 37)::.blk b (.cells #[.int .i64 id] 3)::S) w:=hw
 repeat first|refine byW ?_|refine byV ?_;intro w hw
 exact⟨_,rfl,rfl,hw.drop⟩
theorem coreIdx_any{Γ:Gho}{S:List Res}{w:World}{b:Nat}{id:Int}{v:Value}{xs:List CoreT}(hr:RepS Γ v 4 (xs.map enc))(hw:Wd Γ (.blk b (.cells #[.int .i64 id] 3)::S) w) :
  Calls Tryz.prog 153 #[v,.func (.func 154) #[] #[.pointer (some ⟨b,0,none⟩)]] w fun e w'=>e=.returned (.int .i64 (coreIx xs id))∧Wd Γ (.blk b (.cells #[.int .i64 id] 3)::S) w':=by
 obtain⟨a,n,c,rfl,hn,hnc,hc⟩:=hr.shape;simp only[List.length_map]at hn
 refine calls_of_W Tryz.func153 rfl rfl ?_
 repeat first|refine byW ?_|refine byV ?_;intro w hw
 refine W_loop (fun μ ρ w=>∃(k:Nat),μ+k=n∧Has ρ [(0,.slice a n c),(1,.func (.func 154) #[] #[.pointer (some ⟨b,0,none⟩)]),(7,.int .i64 n),(8,.int .i64 k)]∧(∀j x,j<k→xs[j]? = some x→x.ID≠id)∧Wd Γ (.blk b (.cells #[.int .i64 id] 3)::S) w) n ⟨0,by omega,⟨rfl,rfl,rfl,rfl,trivial⟩,fun j x h=>by omega,hw⟩ ?_
 clear hw;rintro μ ρ w ⟨k,hk,hρ,hno,hw⟩
 rw[hρ.eq];clear hρ;repeat first|refine byW ?_|refine byV ?_;intro w hw
 refine W_cond rfl (fun h=>?_) (fun h=>?_)
 ·have hkn:k<n:=by have:=of_decide_eq_true h;omega
  obtain⟨x,hx⟩:=get_lt (l:=xs) (k:=k) (by omega)
  repeat first|refine byW ?_|refine byV ?_;intro w hw
  refine lCallv (fst:=[]) (cap:=[.pointer (some ⟨b,0,none⟩)]) (vs:=[.agg (enc x).toArray]) ?_
  refine(find1_any x hw).mono ?_
  clear hw;rintro e w ⟨rfl,hw⟩
  refine⟨_,rfl,?_⟩;repeat first|refine byW ?_|refine byV ?_;intro w hw
  refine W_cond rfl (fun h2=>?_) (fun h2=>?_)
  ·have h2:x.ID=id:=of_decide_eq_true h2
   repeat first|refine byW ?_|refine byV ?_;intro w hw
   exact⟨_,rfl,by rw[(coreIx_some hx h2 hno).1];rfl,hw⟩
  ·have h2:¬x.ID=id:=of_decide_eq_false h2
   repeat first|refine byW ?_|refine byV ?_;intro w hw
   refine⟨μ-1,by omega,k+1,by omega,⟨rfl,rfl,rfl,rfl,trivial⟩,fun j y hj hy=>?_,hw⟩
   by_cases e:j=k
   ·subst e;rw[hx]at hy;cases hy;exact h2
   ·exact hno j y (by omega) hy
 ·have hkn:¬k<n:=by have:=of_decide_eq_false h;omega
  repeat first|refine byW ?_|refine byV ?_;intro w hw
  exact⟨_,rfl,by rw[(coreIx_none (l:=xs) (id:=id) (fun y hy=>by
   obtain⟨j,hj⟩:=List.mem_iff_getElem?.1 hy
   exact hno j y (by have:=(List.getElem?_eq_some_iff.1 hj).1;omega) hj)).1];rfl,hw⟩
theorem coreIx_cases(l:List CoreT)(id:Int):(coreIx l id = -1∧findC l id=(⟨0,0,0,0⟩,false)∧∀y∈l,y.ID≠id)∨∃(k:Nat) (x:CoreT),coreIx l id=k∧l[k]? = some x∧x.ID=id∧findC l id=(x,true):=by
 by_cases h:∀y∈l,y.ID≠id
 ·have:=coreIx_none h
  exact .inl ⟨this.1,this.2,h⟩
 ·right
  cases hq:l.findIdx? (fun x=>decide (x.ID=id)) with
  | none=>
   exfalso;apply h
   intro y hy he;have:=List.findIdx?_eq_none_iff.1 hq y hy
   simp[he]at this
  | some k=>
   obtain⟨hk,h1,h2⟩:=List.findIdx?_eq_some_iff_getElem.1 hq
   have hx:=List.getElem?_eq_getElem hk
   have h1:l[k].ID=id:=by simpa using h1
   have:=coreIx_some hx h1 (fun j y hj hy=>by
    obtain⟨hj2,e⟩:=List.getElem?_eq_some_iff.1 hy
    have:=h2 j hj
    rw[←e];simpa using this)
   exact⟨k,l[k],this.1,hx,h1,this.2⟩
instance pg_find{Γ:Gho}{u:Value}{H:HwT}[hh:HwR Γ u H](id:Int):PG Tryz.prog Γ 86 [u,.int .i64 id] (.tuple #[.agg (enc (findC H.Cores id).1).toArray,.bool (findC H.Cores id).2]):=⟨fun S w hw=>by
 obtain⟨a1,n1,c1,a2,n2,c2,a3,n3,c3,a4,n4,c4,a5,n5,c5,cs,rfl,hcs,hok,hsz,r1,r2,r3,r4,r5⟩:=hh.h;obtain⟨hn1,hm1,hx1⟩:=rep_facts r1
 simp only[List.length_map]at hn1
 refine calls_of_WC Tryz.func86 rfl rfl ?_
 repeat first|refine byW ?_|refine byV ?_;intro w hw
 refine lBox ?_;intro b2 w hw;refine lBox ?_;intro b3 w hw;refine lAlloc ?_;intro b4 w hw;have hw:Wd Γ (.blk b4 (.cells (enc (⟨0,0,0,0⟩:CoreT)).toArray 37)::.blk b3 (.cells #[.int .i64 id] 3)::.blk b2 (.cells #[.string H.Name,.slice a1 n1 c1,.slice a2 n2 c2,.slice a3 n3 c3,.slice a4 n4 c4,.slice a5 n5 c5] 30)::S) w:=hw
 repeat first|refine byW ?_|refine byV ?_;intro w hw
 refine lCall ((coreIdx_any (id:=id) r1 (hw.ps [1])).mono fun e w hq=>?_)
 obtain⟨rfl,hw⟩:=hq;have hw:=hw.ps [1]
 refine⟨_,rfl,?_⟩;rcases coreIx_cases H.Cores id with⟨h1,h2,-⟩|⟨k,x,h1,hx,he,h2⟩
 ·rw[h1,h2];repeat first|refine byW ?_|refine byV ?_;intro w hw
  refine W_cond_true rfl ?_
  repeat first|refine byW ?_|refine byV ?_;intro w hw
  refine lStore ?_;intro w hw;have hw:Wd Γ (.blk b4 (.cells (enc (⟨0,0,0,0⟩:CoreT)).toArray 37)::.blk b3 (.cells #[.int .i64 id] 3)::.blk b2 (.cells #[.string H.Name,.slice a1 n1 c1,.slice a2 n2 c2,.slice a3 n3 c3,.slice a4 n4 c4,.slice a5 n5 c5] 30)::S) w:=hw
  repeat first|refine byW ?_|refine byV ?_;intro w hw
  exact⟨[_,_],⟨resC (i:=0) hw rfl rfl rfl,rfl,trivial⟩,rfl,hw.ds [0,0,0]⟩
 ·rw[h1,h2];have hk:k<n1:=by have:=(List.getElem?_eq_some_iff.1 hx).1;omega
  repeat first|refine byW ?_|refine byV ?_;intro w hw
  refine W_cond_false (by show Value.bool (decide ((k:Int)<0))=_;rw[decide_eq_false (by omega)]) ?_
  repeat first|refine byW ?_|refine byV ?_;intro w hw
  refine lStore ?_;intro w hw;have hw:Wd Γ (.blk b4 (.cells (enc x).toArray 37)::.blk b3 (.cells #[.int .i64 id] 3)::.blk b2 (.cells #[.string H.Name,.slice a1 n1 c1,.slice a2 n2 c2,.slice a3 n3 c3,.slice a4 n4 c4,.slice a5 n5 c5] 30)::S) w:=hw
  repeat first|refine byW ?_|refine byV ?_;intro w hw
  exact⟨[_,_],⟨resC (i:=0) hw rfl rfl rfl,rfl,trivial⟩,rfl,hw.ds [0,0,0]⟩⟩
end Go.Proofs.YtfoggcgogafocaaGreat
end
