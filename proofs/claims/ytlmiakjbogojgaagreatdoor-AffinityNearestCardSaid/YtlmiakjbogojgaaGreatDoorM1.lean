/- Texts of this proof, one behind another. -/
import Derived.WalkKit
import Derived.Still
import Derived.Deep.LoopGhost
import Derived.KernelRfl
import Derived.IntWalk
import Derived.Deep.MidRow
import Derived.Maps.AppendAt
import Derived.Below
import Derived.Laws.Cover3
import Derived.Laws.Pointers
set_option linter.unusedVariables false
set_option linter.unusedSimpArgs false
section
open Go
namespace Mk
theorem j4{p:Prop}(h:p:=by first|exact(rfl:_=Value.int _ _)|exact(rfl:_=Value.bool _)|exact(rfl:_=Value.string _)|exact(rfl:_=Value.slice _ _ _)|exact(rfl:_=Value.pointer _)|exact(rfl:_=Value.agg _)|exact(rfl:_=Value.map _)|exact(rfl:_=Value.tuple _)|exact(rfl:_=Value.func _ _ _)|exact(rfl:_=gv _ _)|exact rfl):p:=h
theorem dL{p:Prop}(h:p:=by first|exact(rfl:_=Value.int _ _)|exact(rfl:_=Value.bool _)|exact(rfl:_=Value.string _)|exact(rfl:_=Value.slice _ _ _)|exact(rfl:_=Value.pointer _)|exact(rfl:_=Value.agg _)|exact(rfl:_=Value.map _)|exact(rfl:_=Value.tuple _)|exact(rfl:_=Value.func _ _ _)|exact Bi hc rfl|exact Bi (L2 hc) rfl|exact Bi (L2 (L2 hc)) rfl|exact Bi (L2 (L2 (L2 hc))) rfl|exact rfl):p:=h
theorem Z2{p:Prop}(h:p:=by first|exact(rfl:_=Value.int _ _)|exact(rfl:_=Value.bool _)|exact(rfl:_=Value.string _)|exact(rfl:_=Value.slice _ _ _)|exact(rfl:_=Value.pointer _)|exact(rfl:_=Value.agg _)|exact(rfl:_=Value.map _)|exact(rfl:_=Value.tuple _)|exact(rfl:_=Value.func _ _ _)|exact(Bi hc rfl:_=Value.int _ _)|exact(Bi hc rfl:_=Value.bool _)|exact(Bi hc rfl:_=Value.string _)|exact(Bi hc rfl:_=Value.slice _ _ _)|exact(Bi hc rfl:_=Value.pointer _)|exact(Bi hc rfl:_=Value.agg _)|exact(Bi (L2 hc) rfl:_=Value.int _ _)|exact(Bi (L2 hc) rfl:_=Value.bool _)|exact(Bi (L2 hc) rfl:_=Value.string _)|exact(Bi (L2 hc) rfl:_=Value.slice _ _ _)|exact(Bi (L2 hc) rfl:_=Value.pointer _)|exact(Bi (L2 hc) rfl:_=Value.agg _)|exact(Bi (L2 (L2 hc)) rfl:_=Value.int _ _)|exact(Bi (L2 (L2 hc)) rfl:_=Value.bool _)|exact(Bi (L2 (L2 hc)) rfl:_=Value.string _)|exact(Bi (L2 (L2 hc)) rfl:_=Value.slice _ _ _)|exact(Bi (L2 (L2 hc)) rfl:_=Value.pointer _)|exact(Bi (L2 (L2 hc)) rfl:_=Value.agg _)|exact(Bi (L2 (L2 (L2 hc))) rfl:_=Value.int _ _)|exact(Bi (L2 (L2 (L2 hc))) rfl:_=Value.bool _)|exact(Bi (L2 (L2 (L2 hc))) rfl:_=Value.string _)|exact(Bi (L2 (L2 (L2 hc))) rfl:_=Value.slice _ _ _)|exact(Bi (L2 (L2 (L2 hc))) rfl:_=Value.pointer _)|exact(Bi (L2 (L2 (L2 hc))) rfl:_=Value.agg _)|exact Bi hc rfl|exact Bi (L2 hc) rfl|exact Bi (L2 (L2 hc)) rfl|exact Bi (L2 (L2 (L2 hc))) rfl|exact rfl):p:=h
theorem B4{p:Prop}(h:p:=by first|exact rfl|exact Bi hc rfl|exact Bi (L2 hc) rfl|exact Bi (L2 (L2 hc)) rfl|exact Bi (L2 (L2 (L2 hc))) rfl):p:=h
theorem cz{p:Prop}(h:p:=by first|exact rfl|exact fy hc rfl|exact fy (L2 hc) rfl|exact fy (L2 (L2 hc)) rfl|exact fy (L2 (L2 (L2 hc))) rfl):p:=h
theorem M5{p:Prop}(h:p:=by first|omega|(simp only[Bool.and_eq_true,Bool.not_eq_true',decide_eq_true_eq,decide_eq_false_iff_not,Mk.ne_nilB,Mk.eq_nilB]at hc;omega)):p:=h
theorem GZ{p:Prop}(h:p:=by first|exact(rfl:(_:List B6)[0]? = _)|exact(rfl:(_:List B6)[1]? = _)|exact(rfl:(_:List B6)[2]? = _)|exact(rfl:(_:List B6)[3]? = _)|exact(rfl:(_:List B6)[4]? = _)|exact(rfl:(_:List B6)[5]? = _)|exact(rfl:(_:List B6)[6]? = _)|exact(rfl:(_:List B6)[7]? = _)):p:=h
theorem AB{p:Prop}(h:p:=by first|exact EvL.nil|exact(EvL.cons j4 EvL.nil)|exact(EvL.cons j4 (EvL.cons j4 EvL.nil))|exact(EvL.cons j4 (EvL.cons j4 (EvL.cons j4 EvL.nil)))|exact(EvL.cons j4 (EvL.cons j4 (EvL.cons j4 (EvL.cons j4 EvL.nil))))|exact(EvL.cons j4 (EvL.cons j4 (EvL.cons j4 (EvL.cons j4 (EvL.cons j4 EvL.nil)))))|exact(EvL.cons j4 (EvL.cons j4 (EvL.cons j4 (EvL.cons j4 (EvL.cons j4 (EvL.cons j4 EvL.nil))))))):p:=h
theorem Hj{p:Prop}(h:p:=by first|exact EvL.nil|exact(EvL.cons Z2 EvL.nil)|exact(EvL.cons Z2 (EvL.cons Z2 EvL.nil))|exact(EvL.cons Z2 (EvL.cons Z2 (EvL.cons Z2 EvL.nil)))|exact(EvL.cons Z2 (EvL.cons Z2 (EvL.cons Z2 (EvL.cons Z2 EvL.nil))))|exact(EvL.cons Z2 (EvL.cons Z2 (EvL.cons Z2 (EvL.cons Z2 (EvL.cons Z2 EvL.nil)))))|exact(EvL.cons Z2 (EvL.cons Z2 (EvL.cons Z2 (EvL.cons Z2 (EvL.cons Z2 (EvL.cons Z2 EvL.nil))))))):p:=h
theorem SK{p:Prop}(h:p:=by first|(apply Yb;exact Hb j4)|(apply Nh;exact Gf j4)|(apply ce;first|(apply X7 .eql;first|exact dQ rfl rfl|exact WN rfl rfl|exact Fl rfl rfl rfl|exact y_eqB rfl rfl|exact ZJ rfl rfl|exact y_eqnP rfl rfl|exact y_eqnM rfl rfl)|(apply X7 .lss;first|exact cX rfl rfl|exact YY rfl rfl)|(apply X7 .neq;first|exact dD rfl rfl|exact Yx rfl rfl|exact Mu rfl rfl rfl|exact y_neqnS rfl rfl|exact y_neqnP rfl rfl)|(apply X7 .leq;first|exact dE rfl rfl|exact y_leqS rfl rfl)|(apply X7 .gtr;first|exact cj rfl rfl|exact ZT rfl rfl)|(apply X7 .geq;first|exact cS rfl rfl|exact y_geqS rfl rfl)|(apply X7 .add;first|exact Te rfl rfl (by omega) (by omega)|exact UB rfl rfl|exact AG rfl rfl (by omega))|(apply X7 .sub;first|exact UF rfl rfl (by omega) (by omega)|exact XZ rfl rfl)|(apply X7 .mul;first|exact Sv rfl rfl (by omega) (by omega)|exact Sk rfl rfl)|(apply X7 .rem;exact Xm rfl rfl (by omega))|(apply X7 .quo;exact Tt rfl rfl (by omega))|(apply X7 .shl;exact Ww rfl rfl (by omega))|(apply X7 .shr;exact XR rfl rfl (by omega))|(apply X7 .and;exact Yf rfl rfl)|(apply X7 .or;exact y_or rfl rfl)|(apply X7 .xor;exact y_xor rfl rfl)|(apply X7 .andNot;exact y_andNot rfl rfl))|(apply TH;first|exact M7 (i:=0) hw rfl rfl rfl|exact M7 (i:=1) hw rfl rfl rfl|exact M7 (i:=2) hw rfl rfl rfl|exact M7 (i:=3) hw rfl rfl rfl|exact M7 (i:=4) hw rfl rfl rfl|exact M7 (i:=5) hw rfl rfl rfl|exact M7 (i:=6) hw rfl rfl rfl|exact J9 rfl (D7.rd (by assumption) hw) (B8 (by assumption)) rfl|exact y_loadEf2 rfl (D7.rd (by assumption) hw) (B8 (by assumption)) rfl|exact G6 rfl (D7.rd (by assumption) hw) (B8 (by assumption))|exact V9 rfl (D7.rd (by assumption) hw) (by assumption)|exact J9 rfl (P4.rd (by assumption) hw) (B8 (by assumption)) rfl|exact y_loadEf2 rfl (P4.rd (by assumption) hw) (B8 (by assumption)) rfl|exact G6 rfl (P4.rd (by assumption) hw) (B8 (by assumption))|exact V9 rfl (P4.rd (by assumption) hw) (by assumption)|exact J9 rfl (P4.rd (by assumption) hw.left) (B8 (by assumption)) rfl|exact y_loadEf2 rfl (P4.rd (by assumption) hw.left) (B8 (by assumption)) rfl|exact G6 rfl (P4.rd (by assumption) hw.left) (B8 (by assumption))|exact V9 rfl (P4.rd (by assumption) hw.left) (by assumption)|exact J9 rfl (Wd.own_rd (i:=0) hw rfl) (B8 (by assumption)) rfl|exact y_loadEf2 rfl (Wd.own_rd (i:=0) hw rfl) (B8 (by assumption)) rfl|exact G6 rfl (Wd.own_rd (i:=0) hw rfl) (B8 (by assumption))|exact V9 rfl (Wd.own_rd (i:=0) hw rfl) (by assumption)|exact J9 rfl (Wd.own_rd (i:=1) hw rfl) (B8 (by assumption)) rfl|exact y_loadEf2 rfl (Wd.own_rd (i:=1) hw rfl) (B8 (by assumption)) rfl|exact G6 rfl (Wd.own_rd (i:=1) hw rfl) (B8 (by assumption))|exact V9 rfl (Wd.own_rd (i:=1) hw rfl) (by assumption)|exact J9 rfl (Wd.own_rd (i:=2) hw rfl) (B8 (by assumption)) rfl|exact y_loadEf2 rfl (Wd.own_rd (i:=2) hw rfl) (B8 (by assumption)) rfl|exact G6 rfl (Wd.own_rd (i:=2) hw rfl) (B8 (by assumption))|exact V9 rfl (Wd.own_rd (i:=2) hw rfl) (by assumption)|exact J9 rfl (Wd.own_rd (i:=3) hw rfl) (B8 (by assumption)) rfl|exact y_loadEf2 rfl (Wd.own_rd (i:=3) hw rfl) (B8 (by assumption)) rfl|exact G6 rfl (Wd.own_rd (i:=3) hw rfl) (B8 (by assumption))|exact V9 rfl (Wd.own_rd (i:=3) hw rfl) (by assumption))|(apply Sy;first|exact Au (i:=0) hw rfl rfl rfl|exact Au (i:=1) hw rfl rfl rfl|exact Au (i:=2) hw rfl rfl rfl|exact Au (i:=3) hw rfl rfl rfl|exact Au (i:=4) hw rfl rfl rfl|exact Au (i:=5) hw rfl rfl rfl|exact Au (i:=6) hw rfl rfl rfl|exact P0 rfl (D7.rd (by assumption) hw) (B8 (by assumption))|exact L6 rfl (D7.rd (by assumption) hw) (B8 (by assumption)) rfl rfl|exact P0 rfl (P4.rd (by assumption) hw) (B8 (by assumption))|exact L6 rfl (P4.rd (by assumption) hw) (B8 (by assumption)) rfl rfl|exact P0 rfl (P4.rd (by assumption) hw.left) (B8 (by assumption))|exact L6 rfl (P4.rd (by assumption) hw.left) (B8 (by assumption)) rfl rfl|exact P0 rfl (Wd.own_rd (i:=0) hw rfl) (B8 (by assumption))|exact L6 rfl (Wd.own_rd (i:=0) hw rfl) (B8 (by assumption)) rfl rfl|exact P0 rfl (Wd.own_rd (i:=1) hw rfl) (B8 (by assumption))|exact L6 rfl (Wd.own_rd (i:=1) hw rfl) (B8 (by assumption)) rfl rfl|exact P0 rfl (Wd.own_rd (i:=2) hw rfl) (B8 (by assumption))|exact L6 rfl (Wd.own_rd (i:=2) hw rfl) (B8 (by assumption)) rfl rfl|exact P0 rfl (Wd.own_rd (i:=3) hw rfl) (B8 (by assumption))|exact L6 rfl (Wd.own_rd (i:=3) hw rfl) (B8 (by assumption)) rfl rfl|exact BO (i:=0) hw rfl rfl rfl rfl|exact BO (i:=1) hw rfl rfl rfl rfl|exact BO (i:=2) hw rfl rfl rfl rfl|exact BO (i:=3) hw rfl rfl rfl rfl|exact BO (i:=4) hw rfl rfl rfl rfl|exact BO (i:=5) hw rfl rfl rfl rfl|exact BO (i:=6) hw rfl rfl rfl rfl)|(apply UJ;exact Tj rfl)|(apply cy;first|exact SC hw (by assumption) rfl rfl (by omega) (by omega)|exact Dj (j:=0) hw rfl rfl rfl (by omega) (by omega)|exact Dj (j:=1) hw rfl rfl rfl (by omega) (by omega)|exact Dj (j:=2) hw rfl rfl rfl (by omega) (by omega)|exact Dj (j:=3) hw rfl rfl rfl (by omega) (by omega)|exact AF (P4.rd (by assumption) hw) rfl rfl (by omega) (by omega)|exact AF (P4.rd (by assumption) hw.left) rfl rfl (by omega) (by omega)|exact KP rfl rfl (by omega) (by omega))|(apply ZK;first|exact Xb rfl|exact Ys rfl|exact y_cap rfl|exact Yl rfl rfl|exact Sd rfl rfl|exact w8 (i:=0) hw rfl rfl|exact w8 (i:=1) hw rfl rfl|exact w8 (i:=2) hw rfl rfl|exact w8 (i:=3) hw rfl rfl|exact w8 (i:=4) hw rfl rfl)|(apply Yr;first|exact Iw rfl rfl rfl|exact LX rfl rfl rfl|exact EX rfl rfl|exact BV rfl rfl)|(apply cx;exact dA rfl)|(apply Lt;exact Ku rfl rfl)|(apply cd;exact cY rfl)|(apply Ts;first|exact V8 rfl|exact Oq rfl)|(apply Tp;exact JM rfl rfl (by omega) (by omega))|(apply PI;first|exact R7 (i:=0) hw rfl rfl rfl rfl|exact O6 (i:=0) hw rfl rfl rfl rfl|exact R7 (i:=1) hw rfl rfl rfl rfl|exact O6 (i:=1) hw rfl rfl rfl rfl|exact R7 (i:=2) hw rfl rfl rfl rfl|exact O6 (i:=2) hw rfl rfl rfl rfl|exact R7 (i:=3) hw rfl rfl rfl rfl|exact O6 (i:=3) hw rfl rfl rfl rfl|exact R7 (i:=4) hw rfl rfl rfl rfl|exact O6 (i:=4) hw rfl rfl rfl rfl)|(apply Sl;first|exact QH rfl rfl (by omega) (by omega)|exact OG rfl rfl (by omega) (by omega)|exact Kx rfl rfl rfl (by omega) (by omega) (by omega)|exact y_sliceLHM rfl rfl rfl rfl (by omega) (by omega) (by omega) (by omega)|exact d9 rfl rfl rfl (by omega) (by omega) (by omega)|exact La rfl rfl (by omega) (by omega)|exact LH rfl rfl (by omega) (by omega))|(apply Wr;exact NA rfl)|(apply dH;exact UE rfl (by omega) (by omega))):p:=h
theorem cr{p:Prop}(h:p:=by first|(apply Yb;exact Hb dL)|(apply Nh;exact Gf dL)|(apply ce;first|(apply X7 .eql;first|exact dQ B4 B4|exact WN B4 B4|exact Fl B4 B4 rfl|exact y_eqB B4 B4|exact ZJ B4 B4|exact y_eqnP B4 B4|exact y_eqnM B4 B4)|(apply X7 .lss;first|exact cX B4 B4|exact YY B4 B4)|(apply X7 .neq;first|exact dD B4 B4|exact Yx B4 B4|exact Mu B4 B4 rfl|exact y_neqnS B4 B4|exact y_neqnP B4 B4)|(apply X7 .leq;first|exact dE B4 B4|exact y_leqS B4 B4)|(apply X7 .gtr;first|exact cj B4 B4|exact ZT B4 B4)|(apply X7 .geq;first|exact cS B4 B4|exact y_geqS B4 B4)|(apply X7 .add;first|exact Te B4 B4 M5 M5|exact UB B4 B4|exact AG B4 B4 M5)|(apply X7 .sub;first|exact UF B4 B4 M5 M5|exact XZ B4 B4)|(apply X7 .mul;first|exact Sv B4 B4 M5 M5|exact Sk B4 B4)|(apply X7 .rem;exact Xm B4 B4 M5)|(apply X7 .quo;exact Tt B4 B4 M5)|(apply X7 .shl;exact Ww B4 B4 M5)|(apply X7 .shr;exact XR B4 B4 M5)|(apply X7 .and;exact Yf B4 B4)|(apply X7 .or;exact y_or B4 B4)|(apply X7 .xor;exact y_xor B4 B4)|(apply X7 .andNot;exact y_andNot B4 B4))|(apply TH;first|exact M7 (i:=0) hw B4 rfl rfl|exact M7 (i:=1) hw B4 rfl rfl|exact M7 (i:=2) hw B4 rfl rfl|exact M7 (i:=3) hw B4 rfl rfl|exact M7 (i:=4) hw B4 rfl rfl|exact M7 (i:=5) hw B4 rfl rfl|exact M7 (i:=6) hw B4 rfl rfl|exact J9 B4 (D7.rd (by assumption) hw) (B8 (by assumption)) rfl|exact y_loadEf2 B4 (D7.rd (by assumption) hw) (B8 (by assumption)) rfl|exact G6 B4 (D7.rd (by assumption) hw) (B8 (by assumption))|exact V9 B4 (D7.rd (by assumption) hw) (by assumption)|exact J9 B4 (P4.rd (by assumption) hw) (B8 (by assumption)) rfl|exact y_loadEf2 B4 (P4.rd (by assumption) hw) (B8 (by assumption)) rfl|exact G6 B4 (P4.rd (by assumption) hw) (B8 (by assumption))|exact V9 B4 (P4.rd (by assumption) hw) (by assumption)|exact J9 B4 (P4.rd (by assumption) hw.left) (B8 (by assumption)) rfl|exact y_loadEf2 B4 (P4.rd (by assumption) hw.left) (B8 (by assumption)) rfl|exact G6 B4 (P4.rd (by assumption) hw.left) (B8 (by assumption))|exact V9 B4 (P4.rd (by assumption) hw.left) (by assumption)|exact J9 B4 (Wd.own_rd (i:=0) hw rfl) (B8 (by assumption)) rfl|exact y_loadEf2 B4 (Wd.own_rd (i:=0) hw rfl) (B8 (by assumption)) rfl|exact G6 B4 (Wd.own_rd (i:=0) hw rfl) (B8 (by assumption))|exact V9 B4 (Wd.own_rd (i:=0) hw rfl) (by assumption)|exact J9 B4 (Wd.own_rd (i:=1) hw rfl) (B8 (by assumption)) rfl|exact y_loadEf2 B4 (Wd.own_rd (i:=1) hw rfl) (B8 (by assumption)) rfl|exact G6 B4 (Wd.own_rd (i:=1) hw rfl) (B8 (by assumption))|exact V9 B4 (Wd.own_rd (i:=1) hw rfl) (by assumption)|exact J9 B4 (Wd.own_rd (i:=2) hw rfl) (B8 (by assumption)) rfl|exact y_loadEf2 B4 (Wd.own_rd (i:=2) hw rfl) (B8 (by assumption)) rfl|exact G6 B4 (Wd.own_rd (i:=2) hw rfl) (B8 (by assumption))|exact V9 B4 (Wd.own_rd (i:=2) hw rfl) (by assumption)|exact J9 B4 (Wd.own_rd (i:=3) hw rfl) (B8 (by assumption)) rfl|exact y_loadEf2 B4 (Wd.own_rd (i:=3) hw rfl) (B8 (by assumption)) rfl|exact G6 B4 (Wd.own_rd (i:=3) hw rfl) (B8 (by assumption))|exact V9 B4 (Wd.own_rd (i:=3) hw rfl) (by assumption))|(apply Sy;first|exact Au (i:=0) hw B4 rfl rfl|exact Au (i:=1) hw B4 rfl rfl|exact Au (i:=2) hw B4 rfl rfl|exact Au (i:=3) hw B4 rfl rfl|exact Au (i:=4) hw B4 rfl rfl|exact Au (i:=5) hw B4 rfl rfl|exact Au (i:=6) hw B4 rfl rfl|exact P0 B4 (D7.rd (by assumption) hw) (B8 (by assumption))|exact L6 B4 (D7.rd (by assumption) hw) (B8 (by assumption)) rfl rfl|exact P0 B4 (P4.rd (by assumption) hw) (B8 (by assumption))|exact L6 B4 (P4.rd (by assumption) hw) (B8 (by assumption)) rfl rfl|exact P0 B4 (P4.rd (by assumption) hw.left) (B8 (by assumption))|exact L6 B4 (P4.rd (by assumption) hw.left) (B8 (by assumption)) rfl rfl|exact P0 B4 (Wd.own_rd (i:=0) hw rfl) (B8 (by assumption))|exact L6 B4 (Wd.own_rd (i:=0) hw rfl) (B8 (by assumption)) rfl rfl|exact P0 B4 (Wd.own_rd (i:=1) hw rfl) (B8 (by assumption))|exact L6 B4 (Wd.own_rd (i:=1) hw rfl) (B8 (by assumption)) rfl rfl|exact P0 B4 (Wd.own_rd (i:=2) hw rfl) (B8 (by assumption))|exact L6 B4 (Wd.own_rd (i:=2) hw rfl) (B8 (by assumption)) rfl rfl|exact P0 B4 (Wd.own_rd (i:=3) hw rfl) (B8 (by assumption))|exact L6 B4 (Wd.own_rd (i:=3) hw rfl) (B8 (by assumption)) rfl rfl|exact BO (i:=0) hw B4 rfl rfl rfl|exact BO (i:=1) hw B4 rfl rfl rfl|exact BO (i:=2) hw B4 rfl rfl rfl|exact BO (i:=3) hw B4 rfl rfl rfl|exact BO (i:=4) hw B4 rfl rfl rfl|exact BO (i:=5) hw B4 rfl rfl rfl|exact BO (i:=6) hw B4 rfl rfl rfl)|(apply UJ;exact Tj B4)|(apply cy;first|exact SC hw (by assumption) B4 B4 M5 M5|exact Dj (j:=0) hw rfl B4 B4 M5 M5|exact Dj (j:=1) hw rfl B4 B4 M5 M5|exact Dj (j:=2) hw rfl B4 B4 M5 M5|exact Dj (j:=3) hw rfl B4 B4 M5 M5|exact AF (P4.rd (by assumption) hw) B4 B4 M5 M5|exact AF (P4.rd (by assumption) hw.left) B4 B4 M5 M5|exact KP B4 B4 M5 M5|(refine SC hw ?_ B4 B4 M5 M5;assumption)|(refine AF (P4.rd ?_ hw) B4 B4 M5 M5;assumption))|(apply ZK;first|exact Xb B4|exact Ys B4|exact y_cap B4|exact Yl B4 B4|exact Sd B4 B4|exact w8 (i:=0) hw B4 rfl|exact w8 (i:=1) hw B4 rfl|exact w8 (i:=2) hw B4 rfl|exact w8 (i:=3) hw B4 rfl|exact w8 (i:=4) hw B4 rfl)|(apply Yr;first|exact Iw B4 cz B4|exact LX B4 B4 cz|exact EX rfl rfl|exact BV rfl rfl)|(apply cx;exact dA B4)|(apply Lt;exact Ku B4 rfl)|(apply cd;exact cY B4)|(apply Ts;first|exact V8 rfl|exact Oq rfl)|(apply Tp;exact JM B4 B4 M5 M5)|(apply PI;first|exact R7 (i:=0) hw B4 B4 rfl rfl|exact O6 (i:=0) hw B4 B4 rfl rfl|exact R7 (i:=1) hw B4 B4 rfl rfl|exact O6 (i:=1) hw B4 B4 rfl rfl|exact R7 (i:=2) hw B4 B4 rfl rfl|exact O6 (i:=2) hw B4 B4 rfl rfl|exact R7 (i:=3) hw B4 B4 rfl rfl|exact O6 (i:=3) hw B4 B4 rfl rfl|exact R7 (i:=4) hw B4 B4 rfl rfl|exact O6 (i:=4) hw B4 B4 rfl rfl)|(apply Sl;first|exact QH B4 B4 M5 M5|exact OG B4 B4 M5 M5|exact Kx B4 B4 B4 M5 M5 M5|exact y_sliceLHM B4 B4 B4 B4 M5 M5 M5 M5|exact d9 B4 B4 B4 M5 M5 M5|exact La B4 B4 M5 M5|exact LH B4 B4 M5 M5)|(apply Wr;exact NA B4)|(apply dH;exact UE B4 M5 M5)):p:=h
theorem Hd{p:Prop}(h:p:=by first|exact F5.t|exact F5.f|exact F5.gt|exact F5.gf):p:=h
theorem E6{p G:Prop}(h:G)(e:G→p:=by intro h;first|exact y0 h|exact AT h|exact W7 h|exact Bf h|exact Hl h|exact Dz h|exact p9 h|(apply AN;first|(apply Dd;exact lP h)|(apply OE;exact i5 h)|exact lY h)|(apply V2;first|exact QM h|exact Py h|(apply Dd;exact cv h)|exact lG h)):p:=e h
theorem E7{p G:Prop}(h:G)(e:G→p:=by intro h;first|(apply AN;apply Dd;exact XN h)|(apply V2;apply Dd;exact Mw h)):p:=e h
theorem A6{p G:Prop}(h:G)(e:(True→G)→p:=by intro h;(repeat refine E6 ?_);exact h trivial):p:=e fun _=>h
theorem X3{p G:Prop}(h:G)(e:(True→G)→p:=by intro h;(repeat first|refine Bs ?_|(apply U3;first|(apply i9;first|refine qP ?_|refine Vs ?_)|refine qY ?_)|(apply M9;first|(apply i9;first|refine Vr ?_|refine IY ?_)|refine qG ?_));exact h trivial):p:=e fun _=>h
theorem P3{p G:Prop}(h:G)(e:(True→G)→p:=by intro h;(repeat first|refine mY ?_|refine mP ?_|refine mPg ?_);exact h trivial):p:=e fun _=>h
abbrev Fr:=Nat→Value
def upd(ρ:Fr)(d:Nat)(v:Value):Fr:=fun t=>bif Nat.beq t d then v else ρ t
def ev(ρ:Fr):Operand→Value
 | .tmp t=>ρ t
 | .const v=>v
 | .global g=>.pointer (some ⟨g,0,none⟩)
 | .func f=>.func (.func f) #[] #[]
def E0(a:Act):Fr:=fun t=>a.tmps.getD t undef
theorem i7(a:Act):a.eval=ev (E0 a):=by
 funext x;cases x <;> rfl
theorem upd_same(ρ:Fr)(d:Nat)(v:Value):upd ρ d v d=v:=by simp[upd]
theorem upd_ne(ρ:Fr){d t:Nat}(v:Value)(h:t≠d):upd ρ d v t=ρ t:=by
 unfold upd;have:Nat.beq t d=false:=by
  cases hb:Nat.beq t d with
  | false=>rfl
  | true=>exact absurd (Nat.eq_of_beq_eq_true hb) h
 rw[this];rfl
theorem GT(a:Act)(d:Nat)(v:Value)(h:d<a.tmps.size):E0 (a.put (some d) v)=upd (E0 a) d v:=by
 funext t
 unfold E0 Act.put;by_cases ht:t=d
 ·subst ht;rw[upd_same];simp[h]
 ·rw[upd_ne _ _ ht];simp only[Array.getD_eq_getD_getElem?]
  rw[Array.getElem?_setIfInBounds_ne (by omega)]
theorem size_put(a:Act)(d:Option Tmp)(v:Value):(a.put d v).tmps.size=a.tmps.size:=by
 cases d <;> simp[Act.put]
theorem K9(a:Act)(d:Option Tmp)(v:Value):(a.put d v).defers=a.defers:=by
 cases d <;> rfl
def lift(n:Nat)(Q:Exit→Fr→World→Prop):Exit→Act→World→Prop:=fun e a w=>a.defers=[]∧a.tmps.size=n∧Q e (E0 a) w
def W(P:Program)(n:Nat)(c:Code)(Q:Exit→Fr→World→Prop)(ρ:Fr)(w:World):Prop:=
 ∀a:Act,a.defers=[]→a.tmps.size=n→E0 a=ρ→c.wp P (lift n Q) a w
def RX(K:Fr→World→Prop)(Q:Exit→Fr→World→Prop):Exit→Fr→World→Prop
 | .normal,ρ,w=>K ρ w
 | e,ρ,w=>Q e ρ w
def Qu(id:Nat)(Q:Exit→Fr→World→Prop):Exit→Fr→World→Prop
 | .exit i,ρ,w=>if i=id then Q .normal ρ w else Q (.exit i) ρ w
 | e,ρ,w=>Q e ρ w
section
variable {P:Program}{n:Nat}{Q:Exit→Fr→World→Prop}{ρ:Fr}{w:World}
theorem W.mono{c:Code}{Q':Exit→Fr→World→Prop}(h:W P n c Q ρ w)(hq:∀e ρ w,Q e ρ w→Q' e ρ w):W P n c Q' ρ w:=
 fun a hd hs hf=>Code.wp_mono (fun e a w ⟨x,y,z⟩=>⟨x,y,hq _ _ _ z⟩) (h a hd hs hf)
theorem Bf(h:Q .normal ρ w):W P n .skip Q ρ w:=fun a hd hs hf=>wp_skip ⟨hd,hs,hf ▸ h⟩
theorem Dz{id:Nat}(h:Q (.exit id) ρ w):W P n (.exit id) Q ρ w:=fun a hd hs hf=>wp_exit ⟨hd,hs,hf ▸ h⟩
theorem Hl(h:Q .ret ρ w):W P n .ret Q ρ w:=fun a hd hs hf=>wp_ret ⟨hd,hs,hf ▸ h⟩
theorem y0{x y:Code}(h:W P n x (RX (W P n y Q) Q) ρ w):W P n (.seq x y) Q ρ w:=fun a hd hs hf=>
 wp_seq (Code.wp_mono (fun e a w ⟨p,q,r⟩=>by cases e <;> first|exact r a p q rfl|exact⟨p,q,r⟩) (h a hd hs hf))
theorem A0{c:Operand}{x y:Code}{b:Bool}(hc:ev ρ c=.bool b)(ht:b=true→W P n x Q ρ w)(hf:b=false→W P n y Q ρ w) :
  W P n (.cond c x y) Q ρ w:=fun a hd hs he=>
 wp_cond_split (t:=b) (by rw[i7,he];exact hc) (fun h=>ht h a hd hs he) (fun h=>hf h a hd hs he)
theorem O0{c:Operand}{x y:Code}(hc:ev ρ c=.bool true)(ht:W P n x Q ρ w):W P n (.cond c x y) Q ρ w:=
 A0 hc (fun _=>ht) (fun h=>by cases h)
theorem N6{c:Operand}{x y:Code}(hc:ev ρ c=.bool false)(ht:W P n y Q ρ w):W P n (.cond c x y) Q ρ w:=
 A0 hc (fun h=>by cases h) (fun _=>ht)
theorem AT{id:Nat}{c:Code}(h:W P n c (Qu id Q) ρ w):W P n (.block id c) Q ρ w:=fun a hd hs hf=>
 wp_block (Code.wp_mono (fun e a w ⟨p,q,r⟩=>by
  cases e <;> first|exact⟨p,q,r⟩|(simp only[Qu]at r;simp only[Exit.inBlock];split <;> rename_i h <;> simp only[h,if_true,if_false]at r <;> exact⟨p,q,r⟩)) (h a hd hs hf))
theorem B3{c:Code}(I:Nat→Fr→World→Prop)(m₀:Nat)(h0:I m₀ ρ w)
  (round:∀m ρ w,I m ρ w→W P n c (RX (fun ρ' w'=>∃m'<m,I m' ρ' w') Q) ρ w):W P n (.loop c) Q ρ w:=fun a hd hs hf=>
 wp_loop_ghost (fun m a w=>a.defers=[]∧a.tmps.size=n∧I m (E0 a) w) m₀ ⟨hd,hs,hf ▸ h0⟩ fun m a w ⟨p,q,r⟩=>
  Code.wp_mono (fun e a w ⟨p,q,r⟩=>by
   cases e <;> first|exact⟨p,q,r⟩|(obtain⟨m',h1,h2⟩:=r;exact⟨m',h1,p,q,h2⟩)) (round m _ w r a p q rfl)
def L(P:Program)(n:Nat)(ops:Array Oper)(Q:Exit→Fr→World→Prop)(l:List Oper)(ρ:Fr)(w:World):Prop:=
 ∀a:Act,a.defers=[]→a.tmps.size=n→E0 a=ρ→wpList P ops (lift n Q) l a w
theorem W7{id:Nat}{l:List Oper}(h:L P n l.toArray Q l ρ w):W P n (.region id l.toArray false) Q ρ w:=
 fun a hd hs hf=>wp_region_lit (h a hd hs hf)
theorem p9{ops:Array Oper}(h:Q .normal ρ w):L P n ops Q [] ρ w:=fun a hd hs hf=>⟨hd,hs,hf ▸ h⟩
def Step(P:Program)(o:Oper)(ρ:Fr)(w:World)(K:Value→World→Prop):Prop:=
 match (execOp (ev ρ) o).run P w with
 | .ok (.value v) w'=>K v w'
 | .ok .skip w'=>K undef w'
 | .ok (.enter f args) w'=>Calls P f args w' fun e w''=>∃v,e=.returned v∧K v w''
 | .ok (.row row args) w'=>Rows P row args w' K
 | _=>False
theorem Step.mono{o:Oper}{K K':Value→World→Prop}(h:Step P o ρ w K)(hk:∀v w,K v w→K' v w):Step P o ρ w K':=by
 unfold Step at *
 split at h <;> first|exact hk _ _ h|exact h.mono fun e w'' ⟨v,he,hv⟩=>⟨v,he,hk _ _ hv⟩|exact h.mono hk|exact h.elim
theorem Step.wp{o:Oper}{a:Act}{K:Value→World→Prop}{K':Act→World→Prop}{Q':Exit→Act→World→Prop}(h:Step P o (E0 a) w K)
  (hk:∀v w,K v w→K' (a.put o.dst v) w):o.wp P a w K' Q':=by
 unfold Step at h;unfold Oper.wp;rw[i7];generalize (execOp (ev (E0 a)) o).run P w=r at *
 cases r with
 | ok x w'=>
  cases x <;> simp only[Oper.upon]at h ⊢ <;> first
   | exact hk _ _ h
   | exact Calls.mono h (fun e w'' he=>by obtain⟨v,rfl,hv⟩:=he;exact hk _ _ hv)
   | exact Rows.mono h hk
   | exact h.elim
 | halt x w'=>exact h.elim
def D6(ρ:Fr)(d:Option Tmp)(v:Value):Fr:=match d with|some d=>upd ρ d v|none=>ρ
theorem X5(a:Act)(d:Option Tmp)(v:Value)(h:∀t,d=some t→t<a.tmps.size):E0 (a.put d v)=D6 (E0 a) d v:=by
 cases d with
 | none=>rfl
 | some d=>exact GT a d v (h d rfl)
def G7(n:Nat)(d:Option Tmp):Bool:=match d with|some d=>Nat.ble (d+1) n|none=>true
theorem K8{n:Nat}{d:Option Tmp}(h:G7 n d=true):∀t,d=some t→t<n:=by
 intro t ht;subst ht;exact Nat.le_of_ble_eq_true h
theorem H5{ops:Array Oper}{o:Oper}{rest:List Oper}(hg:o.guard=none)(hd:G7 n o.dst=true)(h:Step P o ρ w fun v w'=>L P n ops Q rest (D6 ρ o.dst v) w') :
  L P n ops Q (o::rest) ρ w:=fun a hda hs hf=>
 wpList_plain hg fun K hK=>by
  subst hf;refine Step.wp h fun v w' hv=>hK _ _ (hv _ ?_ ?_ ?_)
  ·rw[K9];exact hda
  ·rw[size_put];exact hs
  ·exact X5 a _ v (by rw[hs];exact K8 hd)
def gv(c:Bool)(v:Value):Value:=bif c then v else undef
def Hw(v:Value):Option Bool:=match v with|.bool b=>some b|_=>none
def F5(v:Value)(want c:Bool):Prop:=(Hw v == some want)=c
theorem F5.t{b:Bool}:F5 (.bool b) true b:=by cases b <;> rfl
theorem F5.f{b:Bool}:F5 (.bool b) false (!b):=by cases b <;> rfl
theorem F5.gt{b c:Bool}:F5 (gv c (.bool b)) true (c&&b):=by cases b <;> cases c <;> rfl
theorem F5.gf{b c:Bool}:F5 (gv c (.bool b)) false (c && !b):=by cases b <;> cases c <;> rfl
theorem Aa(o:Oper)(ops:Array Oper)(a:Act)(j:Nat)(want:Bool)(hg:o.guard=some (j,want))(dj:Nat)(hj:(ops[j]?).bind (·.dst)=some dj)(hlt:dj<a.tmps.size) :
  Region.wanted o (yielded ops a.tmps)=(Hw (E0 a dj) == some want):=by
 unfold Region.wanted;simp only[hg]
 unfold yielded;rw[hj];simp only[Option.bind_some,E0,Array.getD_eq_getD_getElem?]
 rw[Array.getElem?_eq_getElem hlt];simp only[Option.getD_some]
 unfold Hw;cases a.tmps[dj] <;> rfl
theorem UI{ops:Array Oper}{o:Oper}{rest:List Oper}{j dj:Nat}{want c:Bool}{v:Value}(hg:o.guard=some (j,want))(hj:(ops[j]?).bind (·.dst)=some dj)(hjn:G7 n (some dj)=true)
  (hc:F5 (ρ dj) want c) (hd:G7 n o.dst=true) (hv:c=true→Step P o ρ w fun u w'=>u=v∧w'=w) (h:L P n ops Q rest (D6 ρ o.dst (gv c v)) w) :
  L P n ops Q (o::rest) ρ w:=fun a hda hs hf=>
 wpList_step fun K hK=>by
  subst hf;have hw:=Aa o ops a j want hg dj hj (by rw[hs];exact K8 hjn _ rfl)
  rw[hw,show (Hw (E0 a dj) == some want)=c from hc];have fin:∀u,u=gv c v→K (a.put o.dst u) w:=fun u hu=>hK _ _ (by
   subst hu;exact h _ (by rw[K9];exact hda) (by rw[size_put];exact hs) (X5 a _ _ (by rw[hs];exact K8 hd)))
  cases c with
  | true=>exact Step.wp (hv rfl) fun u w' ⟨hu,hw'⟩=>by subst hw';subst hu;exact fin _ rfl
  | false=>exact fin _ rfl
end
def RJ(rs:Array ResultVar)(ρ:Fr):Option Value:=
 match rs.toList with
 | []=>some (.tuple #[])
 | [.tmp t]=>some (ρ t)
 | [.tmp t,.tmp u]=>some (.tuple #[ρ t,ρ u])
 | [.tmp t,.tmp u,.tmp x]=>some (.tuple #[ρ t,ρ u,ρ x])
 | _=>none
def eL(rs:Array ResultVar)(R:Ending→World→Prop):Exit→Fr→World→Prop
 | .normal,ρ,w|.ret,ρ,w=>∃v,RJ rs ρ=some v∧R (.returned v) w
 | .panic ch,_,w=>R (.panicked ch) w
 | .outgrown,_,w=>R .outgrown w
 | _,_,_=>False
theorem P7{P:Program}{fn:Func}{a:Act}{w:World}{v:Value}(h:RJ fn.results (E0 a)=some v):(results fn a.tmps).run P w=.ok v w:=by
 obtain⟨l,hl⟩:∃l:List ResultVar,fn.results=l.toArray:=⟨fn.results.toList,by simp⟩
 rw[hl]at h;unfold RJ at h;rcases l with _|⟨x1,_|⟨x2,_|⟨x3,_|⟨x4,l⟩⟩⟩⟩
 ·simp only[Option.some.injEq]at h;subst h;simp[results,hl]
 ·cases x1 <;> simp at h;subst h;exact results_tmp (by simpa using hl) _ _ _
 ·cases x1 <;> cases x2 <;> simp at h;subst h;exact results_tmp2 (by simpa using hl) _ _ _
 ·cases x1 <;> cases x2 <;> cases x3 <;> simp at h;subst h;simp[results,hl,E0]
 ·cases x1 <;> cases x2 <;> cases x3 <;> simp at h
def Z6(args:Array Value):Fr:=fun t=>args.getD t undef
theorem A7{P:Program}{f:FuncId}{fn:Func}{c:Code}{args:Array Value}{w:World}{R:Ending→World→Prop}(hf:P.funcs[f]? = some fn)(hb:fn.body=some c)
  (hn:Nat.ble args.size fn.ntmps=true) (h:W P fn.ntmps c (eL fn.results R) (Z6 args) w):Calls P f args w R:=by
 have hle:args.size≤fn.ntmps:=Nat.le_of_ble_eq_true hn
 refine calls_of_wp hf hb (Code.wp_mono ?_ (h _ rfl (by simp;omega) ?_))
 ·rintro e a w ⟨hd,hs,hq⟩
  cases e with
  | normal=>obtain⟨v,hv,hR⟩:=hq;exact⟨hd,v,P7 hv,hR⟩
  | ret=>obtain⟨v,hv,hR⟩:=hq;exact⟨hd,v,P7 hv,hR⟩
  | panic ch=>exact⟨hd,hq⟩
  | outgrown=>exact hq
  | exit id=>exact hq.elim
  | goto l=>exact hq.elim
 ·funext t
  simp only[E0,Z6,Array.getD_eq_getD_getElem?,Array.getElem?_append]
  by_cases ht:t<args.size
  ·rw[if_pos ht]
  ·rw[if_neg ht,Array.getElem?_eq_none (by omega:args.size≤t)]
   simp only[Array.getElem?_replicate]
   split <;> rfl
attribute [irreducible] W L Step F5 gv
end Mk
namespace Mk
def FL:List (Nat×Value)→Fr→Fr
 | [],ρ=>ρ
 | (d,v)::l,ρ=>upd (FL l ρ) d v
def Has(ρ:Fr):List (Nat×Value)→Prop
 | []=>True
 | (d,v)::l=>ρ d=v∧Has ρ l
theorem Has.eq{ρ:Fr}:∀ {l:List (Nat×Value)},Has ρ l→ρ=FL l ρ
 | [],_=>rfl
 | (d,v)::l,h=>by
  have ih:=Has.eq h.2
  funext t
  unfold FL;by_cases ht:t=d
  ·subst ht;rw[upd_same];exact h.1
  ·rw[upd_ne _ _ ht,←ih]
end Mk
end
section
open Go
namespace Mk
def Yields(P:Program)(o:Oper)(ρ:Fr)(w:World)(v:Value):Prop:=(execOp (ev ρ) o).run P w=.ok (.value v) w
theorem Yields.step{P:Program}{o:Oper}{ρ:Fr}{w:World}{v:Value}{K:Value→World→Prop}(h:Yields P o ρ w v)(hk:K v w):Step P o ρ w K:=by
 unfold Step;rw[h];exact hk
section
variable {P:Program}{n:Nat}{Q:Exit→Fr→World→Prop}{ρ:Fr}{w:World}{ops:Array Oper}{o:Oper}{rest:List Oper}
theorem eN{v:Value}(hg:o.guard=none)(hd:G7 n o.dst=true)(hy:Yields P o ρ w v)(h:L P n ops Q rest (D6 ρ o.dst v) w):L P n ops Q (o::rest) ρ w:=
 H5 hg hd (hy.step h)
theorem gW{j dj:Nat}{want c:Bool}{v:Value}(hg:o.guard=some (j,want))(hj:(ops[j]?).bind (·.dst)=some dj)(hjn:G7 n (some dj)=true)
  (hc:F5 (ρ dj) want c) (hd:G7 n o.dst=true) (hv:c=true→Yields P o ρ w v) (h:L P n ops Q rest (D6 ρ o.dst (gv c v)) w):L P n ops Q (o::rest) ρ w:=
 UI hg hj hjn hc hd (fun hc=>(hv hc).step ⟨rfl,rfl⟩) h
attribute [local semireducible] gv Step
theorem Bi{c:Bool}{u v:Value}(hc:c=true)(h:u=gv c v):u=v:=by rw[h,hc];rfl
theorem fy{c b:Bool}{u v:Value}(hc:c=true)(h:u=gv (c&&b) v):u=gv b v:=by rw[h,hc];rfl
theorem L2{a b:Bool}(h:(a&&b)=true):a=true:=by cases a <;> simp_all
theorem gj{a b:Bool}(h:(a&&b)=true):b=true:=by cases a <;> simp_all
theorem wrap_i64{a:Int}(h1:-9223372036854775808≤a)(h2:a≤9223372036854775807):IntKind.i64.wrap a=a:=IntWalk.i64_in _ (by omega)
theorem toList_inj{a b:ByteArray}:a.toList=b.toList↔a=b:=by
 constructor
 ·intro h;rw[ByteArray.toList_eq,ByteArray.toList_eq]at h;obtain⟨⟨x⟩⟩:=a;obtain⟨⟨y⟩⟩:=b;simp at h;rw[h]
 ·intro h;rw[h]
theorem Ej{a b:ByteArray}:(a.toList == b.toList)=decide (a=b):=by
 by_cases h:a=b
 ·subst h;simp
 ·have h2:¬a.toList=b.toList:=fun hh=>h (toList_inj.1 hh)
  simp[h,h2]
variable {d:Option Tmp}{T U ty:TypeId}{pos:String}{es:Array Edge}{g:Option (Nat×Bool)}{x y z:Operand}
theorem Hb{v:Value}(h:ev ρ x=v):Yields P ⟨d,.move x,ty,pos,es,g⟩ ρ w v:=by subst h;rfl
theorem Gf{v:Value}(h:ev ρ x=v):Yields P ⟨d,.assign x,ty,pos,es,g⟩ ρ w v:=by subst h;rfl
theorem cX{k:IntKind}{a b:Int}(hx:ev ρ x=.int k a)(hy:ev ρ y=.int k b):Yields P ⟨d,.binOp .lss T x y U,ty,pos,es,g⟩ ρ w (.bool (decide (a<b))):=by
 unfold Yields;simp[execOp,go_sem,hx,hy]
theorem dE{k:IntKind}{a b:Int}(hx:ev ρ x=.int k a)(hy:ev ρ y=.int k b):Yields P ⟨d,.binOp .leq T x y U,ty,pos,es,g⟩ ρ w (.bool (decide (a≤b))):=by
 unfold Yields;simp[execOp,go_sem,hx,hy]
theorem cj{k:IntKind}{a b:Int}(hx:ev ρ x=.int k a)(hy:ev ρ y=.int k b):Yields P ⟨d,.binOp .gtr T x y U,ty,pos,es,g⟩ ρ w (.bool (decide (b<a))):=by
 unfold Yields;simp[execOp,go_sem,hx,hy]
theorem cS{k:IntKind}{a b:Int}(hx:ev ρ x=.int k a)(hy:ev ρ y=.int k b):Yields P ⟨d,.binOp .geq T x y U,ty,pos,es,g⟩ ρ w (.bool (decide (b≤a))):=by
 unfold Yields;simp[execOp,go_sem,hx,hy]
theorem dQ{k:IntKind}{a b:Int}(hx:ev ρ x=.int k a)(hy:ev ρ y=.int k b):Yields P ⟨d,.binOp .eql T x y U,ty,pos,es,g⟩ ρ w (.bool (decide (a=b))):=by
 unfold Yields;simp[execOp,go_sem,hx,hy];rfl
theorem dD{k:IntKind}{a b:Int}(hx:ev ρ x=.int k a)(hy:ev ρ y=.int k b):Yields P ⟨d,.binOp .neq T x y U,ty,pos,es,g⟩ ρ w (.bool (decide (a≠b))):=by
 unfold Yields;simp[execOp,go_sem,hx,hy];simp[bne];rfl
theorem UB{k:IntKind}{a b:Int}(hx:ev ρ x=.int k a)(hy:ev ρ y=.int k b):Yields P ⟨d,.binOp .add T x y U,ty,pos,es,g⟩ ρ w (.int k (k.wrap (a+b))):=by
 unfold Yields;simp[execOp,go_sem,hx,hy]
theorem XZ{k:IntKind}{a b:Int}(hx:ev ρ x=.int k a)(hy:ev ρ y=.int k b):Yields P ⟨d,.binOp .sub T x y U,ty,pos,es,g⟩ ρ w (.int k (k.wrap (a-b))):=by
 unfold Yields;simp[execOp,go_sem,hx,hy]
theorem Sk{k:IntKind}{a b:Int}(hx:ev ρ x=.int k a)(hy:ev ρ y=.int k b):Yields P ⟨d,.binOp .mul T x y U,ty,pos,es,g⟩ ρ w (.int k (k.wrap (a*b))):=by
 unfold Yields;simp[execOp,go_sem,hx,hy]
theorem Te{a b:Int}(hx:ev ρ x=.int .i64 a)(hy:ev ρ y=.int .i64 b)(h1:-9223372036854775808≤a+b)(h2:a+b≤9223372036854775807):Yields P ⟨d,.binOp .add T x y U,ty,pos,es,g⟩ ρ w (.int .i64 (a+b)):=by
 have:=UB (P:=P) (w:=w) (d:=d) (T:=T) (U:=U) (ty:=ty) (pos:=pos) (es:=es) (g:=g) hx hy;rwa [wrap_i64 h1 h2]at this
theorem UF{a b:Int}(hx:ev ρ x=.int .i64 a)(hy:ev ρ y=.int .i64 b)(h1:-9223372036854775808≤a-b)(h2:a-b≤9223372036854775807):Yields P ⟨d,.binOp .sub T x y U,ty,pos,es,g⟩ ρ w (.int .i64 (a-b)):=by
 have:=XZ (P:=P) (w:=w) (d:=d) (T:=T) (U:=U) (ty:=ty) (pos:=pos) (es:=es) (g:=g) hx hy;rwa [wrap_i64 h1 h2]at this
theorem Sv{a b:Int}(hx:ev ρ x=.int .i64 a)(hy:ev ρ y=.int .i64 b)(h1:-9223372036854775808≤a*b)(h2:a*b≤9223372036854775807):Yields P ⟨d,.binOp .mul T x y U,ty,pos,es,g⟩ ρ w (.int .i64 (a*b)):=by
 have:=Sk (P:=P) (w:=w) (d:=d) (T:=T) (U:=U) (ty:=ty) (pos:=pos) (es:=es) (g:=g) hx hy;rwa [wrap_i64 h1 h2]at this
theorem Tt{k:IntKind}{a b:Int}(hx:ev ρ x=.int k a)(hy:ev ρ y=.int k b)(hb:b≠0):Yields P ⟨d,.binOp .quo T x y U,ty,pos,es,g⟩ ρ w (.int k (k.wrap (a.tdiv b))):=by
 unfold Yields;simp[execOp,go_sem,hx,hy,hb]
theorem Xm{k:IntKind}{a b:Int}(hx:ev ρ x=.int k a)(hy:ev ρ y=.int k b)(hb:b≠0):Yields P ⟨d,.binOp .rem T x y U,ty,pos,es,g⟩ ρ w (.int k (a.tmod b)):=by
 unfold Yields;simp[execOp,go_sem,hx,hy,hb]
theorem dA{b:Bool}(hx:ev ρ x=.bool b):Yields P ⟨d,.unOp .not T x,ty,pos,es,g⟩ ρ w (.bool (!b)):=by
 unfold Yields;simp[execOp,go_sem,hx]
theorem Iw{b u:Bool}(hx:ev ρ x=.bool b)(hy:ev ρ y=gv b (.bool u))(hz:ev ρ z=.bool false):Yields P ⟨d,.pick x y z,ty,pos,es,g⟩ ρ w (.bool (b&&u)):=by
 unfold Yields;cases b <;> simp[execOp,go_sem,hx,hy,hz,gv]
theorem LX{b u:Bool}(hx:ev ρ x=.bool b)(hy:ev ρ y=.bool true)(hz:ev ρ z=gv (!b) (.bool u)):Yields P ⟨d,.pick x y z,ty,pos,es,g⟩ ρ w (.bool (b||u)):=by
 unfold Yields;cases b <;> simp[execOp,go_sem,hx,hy,hz,gv]
theorem EX{v:Value}(hx:ev ρ x=.bool true)(hy:ev ρ y=v):Yields P ⟨d,.pick x y z,ty,pos,es,g⟩ ρ w v:=by
 unfold Yields;simp[execOp,go_sem,hx,hy]
theorem BV{v:Value}(hx:ev ρ x=.bool false)(hz:ev ρ z=v):Yields P ⟨d,.pick x y z,ty,pos,es,g⟩ ρ w v:=by
 unfold Yields;simp[execOp,go_sem,hx,hz]
theorem dq{s:ByteArray}(hx:ev ρ x=.string s)(hT:P.underlying T=some .string):Yields P ⟨d,.call { callee:=.builtin .len,args:=#[x],argTypes:=#[T] },ty,pos,es,g⟩ ρ w (.int .i64 s.size):=by
 unfold Yields;simp[execOp,go_sem,hx,hT]
theorem bf{a:Option Addr}{m c:Nat}{E:TypeId}(hx:ev ρ x=.slice a m c)(hT:P.underlying T=some (.slice E)):Yields P ⟨d,.call { callee:=.builtin .len,args:=#[x],argTypes:=#[T] },ty,pos,es,g⟩ ρ w (.int .i64 m):=by
 have he:P.underlying T=some (.slice (P.elem T)):=by simp[Program.elem,hT]
 have h1:=run_len_slice (P:=P) (w:=w) T ty a m c he
 unfold Yields;simp[execOp,go_sem,hx];simp[h1,goInt]
theorem aV{s:ByteArray}{i:Int}{k:IntKind}(hT:P.underlying T=some .string)(hx:ev ρ x=.string s)(hy:ev ρ y=.int k i)(h0:0≤i)(h1:i<s.size):Yields P ⟨d,.index T x y,ty,pos,es,g⟩ ρ w (.int .u8 (s.data.toList.getD i.toNat 0).toNat):=by
 unfold Yields;simp[execOp,go_sem,hx,hy,h0,h1,hT];rfl
theorem WN{a b:ByteArray}(hx:ev ρ x=.string a)(hy:ev ρ y=.string b):Yields P ⟨d,.binOp .eql T x y U,ty,pos,es,g⟩ ρ w (.bool (decide (a=b))):=by
 unfold Yields;simp[execOp,go_sem,hx,hy,Ej]
theorem Yx{a b:ByteArray}(hx:ev ρ x=.string a)(hy:ev ρ y=.string b):Yields P ⟨d,.binOp .neq T x y U,ty,pos,es,g⟩ ρ w (.bool (decide (a≠b))):=by
 unfold Yields;simp[execOp,go_sem,hx,hy,Ej]
theorem Ku{vs:Array Value}{i:Nat}{v:Value}(hx:ev ρ x=.tuple vs)(hi:vs[i]? = some v):Yields P ⟨d,.extract x i,ty,pos,es,g⟩ ρ w v:=by
 unfold Yields;simp[execOp,go_sem,hx,hi,Instr.extract]
theorem cY{a:Addr}(hx:ev ρ x=.pointer (some a)):Yields P ⟨d,.nilCheck x,ty,pos,es,g⟩ ρ w (.pointer (some a)):=by
 unfold Yields;simp[execOp,go_sem,hx]
end
attribute [irreducible] Yields
abbrev Hp:=Nat→Option Obj
abbrev hp(w:World):Hp:=fun b=>w.heap[b]?
structure C8 where
 imm:Hp
 os:Os
 tape:Nat→Question→Nat
 out:Array (Nat×ByteArray)
 dr:Nat
structure C8.le(Γ Γ':C8):Prop where
 imm:∀b o,Γ.imm b=some o→Γ'.imm b=some o
 os:Γ'.os=Γ.os
 tape:Γ'.tape=Γ.tape
 out:Γ'.out=Γ.out
 dr:Γ'.dr=Γ.dr
theorem C8.le.refl(Γ:C8):Γ.le Γ:=⟨fun _ _ h=>h,rfl,rfl,rfl,rfl⟩
theorem C8.le.trans{a b c:C8}(h:a.le b)(k:b.le c):a.le c:=⟨fun x o h1=>k.imm x o (h.imm x o h1),k.os.trans h.os,k.tape.trans h.tape,k.out.trans h.out,k.dr.trans h.dr⟩
structure B6 where
 holds:Hp→List Nat→Hp→Prop
 loc:∀m m' bs h h',(∀b o,m b=some o→m' b=some o)→(∀b∈bs,h' b=h b)→holds m bs h→holds m' bs h'
def Holds(m:Hp):List B6→List (List Nat)→Hp→Prop
 | [],[],_=>True
 | r::S,bs::bss,h=>r.holds m bs h∧Holds m S bss h
 | _,_,_=>False
structure Wd(Γ:C8)(S:List B6)(w:World):Prop where
 os:w.os=Γ.os
 tape:w.tape=Γ.tape
 out:w.output=Γ.out
 dr:Γ.dr≤w.drawn
 imm:∀b o,Γ.imm b=some o→w.heap[b]? = some o
 own:∃bss,Holds Γ.imm S bss (hp w)∧bss.flatten.Nodup∧∀b∈bss.flatten,b<w.heap.size∧Γ.imm b=none
theorem Holds.loc{m m' h h'}(hm:∀b o,m b=some o→m' b=some o):∀(S:List B6) (bss:List (List Nat)),(∀b∈bss.flatten,h' b=h b)→Holds m S bss h→Holds m' S bss h'
 | [],[],_,_=>trivial
 | r::S,bs::bss,hb,hh=>⟨r.loc m m' bs h h' hm (fun b hin=>hb b (by simp[hin])) hh.1,Holds.loc hm S bss (fun b hin=>hb b (by simp at hin ⊢;exact .inr hin)) hh.2⟩
 | [],_::_,_,hh=>hh.elim
 | _::_,[],_,hh=>hh.elim
theorem Holds.get{m h}:∀(S:List B6) (bss:List (List Nat)) (i:Nat) (r:B6),Holds m S bss h→S[i]? = some r→∃bs,bss[i]? = some bs∧r.holds m bs h
 | r::S,bs::bss,0,r',hh,hi=>by cases hi;exact⟨bs,rfl,hh.1⟩
 | r::S,bs::bss,i+1,r',hh,hi=>by
  obtain⟨b,h1,h2⟩:=Holds.get S bss i r' hh.2 (by simpa using hi)
  exact⟨b,by simpa using h1,h2⟩
 | [],_,_,_,_,hi=>by simp at hi
 | _::_,[],_,_,hh,_=>hh.elim
theorem Holds.set{m h h'}:∀(S:List B6) (bss:List (List Nat)) (i:Nat) (bs bs':List Nat) (r':B6),Holds m S bss h→bss[i]? = some bs→(∀b∈bss.flatten,b∉bs→h' b=h b)→bss.flatten.Nodup →
  r'.holds m bs' h'→Holds m (S.set i r') (bss.set i bs') h'
 | r::S,b0::bss,0,bs,bs',r',hh,hi,hk,hnd,hr=>by
  cases hi
  refine⟨hr,Holds.loc (fun _ _ h=>h) S bss (fun b hb=>hk b (by simp at hb ⊢;exact .inr hb) (fun hin=>?_)) hh.2⟩
  simp only[List.flatten_cons,List.nodup_append]at hnd
  exact hnd.2.2 b hin b hb rfl
 | r::S,b0::bss,i+1,bs,bs',r',hh,hi,hk,hnd,hr=>by
  have hi':bss[i]? = some bs:=by simpa using hi
  simp only[List.flatten_cons,List.nodup_append]at hnd
  have hin:∀b∈bs,b∈bss.flatten:=fun b hb=>List.mem_flatten.2 ⟨bs,List.mem_of_getElem? hi',hb⟩
  refine⟨r.loc m m b0 h h' (fun _ _ h=>h) (fun b hb=>hk b (by simp[hb]) (fun hbs=>hnd.2.2 b hb b (hin b hbs) rfl)) hh.1,?_⟩
  exact Holds.set S bss i bs bs' r' hh.2 hi' (fun b hb hn=>hk b (by simp at hb ⊢;exact .inr hb) hn) hnd.2.1 hr
 | [],[],_,_,_,_,_,hi,_,_,_=>by simp at hi
 | [],_::_,_,_,_,_,hh,_,_,_,_=>hh.elim
 | _::_,[],_,_,_,_,hh,_,_,_,_=>hh.elim
structure Ew(w w':World):Prop where
 os:w'.os=w.os
 tape:w'.tape=w.tape
 out:w'.output=w.output
 dr:w.drawn≤w'.drawn
 size:w.heap.size≤w'.heap.size
theorem GX{bss:List (List Nat)}{i:Nat}{bs bs':List Nat}(hi:bss[i]? = some bs)(hnd:bss.flatten.Nodup)(h':bs'.Nodup)(hap:∀b∈bs',b∈bs∨b∉bss.flatten):(bss.set i bs').flatten.Nodup:=by
 induction bss generalizing i with
 | nil=>simp at hi
 | cons b0 bss ih=>
  simp only[List.flatten_cons,List.nodup_append]at hnd
  cases i with
  | zero=>
   simp at hi;subst hi
   simp only[List.set_cons_zero,List.flatten_cons,List.nodup_append]
   refine⟨h',hnd.2.1,fun a ha b hb hab=>?_⟩
   subst hab;rcases hap a ha with h1|h1
   ·exact hnd.2.2 a h1 a hb rfl
   ·exact h1 (by simp at hb ⊢;exact .inr hb)
  | succ i=>
   have hi':bss[i]? = some bs:=by simpa using hi
   simp only[List.set_cons_succ,List.flatten_cons,List.nodup_append]
   have hin:∀b∈bs,b∈bss.flatten:=fun b hb=>List.mem_flatten.2 ⟨bs,List.mem_of_getElem? hi',hb⟩
   refine⟨hnd.1,ih hi' hnd.2.1 (fun b hb=>(hap b hb).imp id fun h hx=>h (by simp at hx ⊢;exact .inr hx)),fun a ha b hb hab=>?_⟩
   subst hab;obtain⟨l,hl,hal⟩:=List.mem_flatten.1 hb
   rcases List.mem_or_eq_of_mem_set hl with h1|h1
   ·exact hnd.2.2 a ha a (List.mem_flatten.2 ⟨l,h1,hal⟩) rfl
   ·subst h1;rcases hap a hal with h2|h2
    ·exact hnd.2.2 a ha a (hin a h2) rfl
    ·exact h2 (by simp[ha])
theorem IQ{bss:List (List Nat)}{i:Nat}{bs':List Nat}{b:Nat}(h:b∈(bss.set i bs').flatten):b∈bss.flatten∨b∈bs':=by
 obtain⟨l,hl,hal⟩:=List.mem_flatten.1 h
 rcases List.mem_or_eq_of_mem_set hl with h1|h1
 ·exact .inl (List.mem_flatten.2 ⟨l,h1,hal⟩)
 ·subst h1;exact .inr hal
section
variable {Γ Γ':C8}{S:List B6}{w w':World}
theorem Wd.upd{i:Nat}{r r':B6}(h:Wd Γ S w)(hi:S[i]? = some r)(hs:Ew w w')
  (H:∀bs,r.holds Γ.imm bs (hp w)→bs.Nodup→(∀b∈bs,b<w.heap.size)→∃bs',r'.holds Γ.imm bs' (hp w')∧bs'.Nodup∧(∀b∈bs',b<w'.heap.size∧(b∈bs∨w.heap.size≤b))∧∀k,k<w.heap.size→k∉bs→w'.heap[k]? = w.heap[k]?) :
  Wd Γ (S.set i r') w':=by
 obtain⟨bss,h1,h2,h3⟩:=h.own;obtain⟨bs,hb,hr⟩:=Holds.get S bss i r h1 hi
 have hin:∀b∈bs,b∈bss.flatten:=fun b hx=>List.mem_flatten.2 ⟨bs,List.mem_of_getElem? hb,hx⟩
 have hndb:bs.Nodup:=List.Sublist.nodup (List.sublist_flatten_of_mem (List.mem_of_getElem? hb)) h2
 obtain⟨bs',g1,g2,g3,g4⟩:=H bs hr hndb (fun b hx=>(h3 b (hin b hx)).1)
 have immlt:∀b o,Γ.imm b=some o→b<w.heap.size:=fun b o hbo=>by
  have:=h.imm b o hbo
  exact(Array.getElem?_eq_some_iff.1 this).1
 refine⟨hs.os.trans h.os,hs.tape.trans h.tape,hs.out.trans h.out,Nat.le_trans h.dr hs.dr,fun b o hbo=>?_,bss.set i bs',?_,?_,fun b hx=>?_⟩
 ·rw[g4 b (immlt b o hbo) (fun hx=>by have:=(h3 b (hin b hx)).2;rw[hbo]at this;cases this)];exact h.imm b o hbo
 ·exact Holds.set S bss i bs bs' r' h1 hb (fun b hx hn=>g4 b (h3 b hx).1 hn) h2 g1
 ·exact GX hb h2 g2 fun b hx=>(g3 b hx).2.imp id fun hge hx'=>by have:=(h3 b hx').1;omega
 ·rcases IQ hx with h4|h4
  ·exact⟨Nat.lt_of_lt_of_le (h3 b h4).1 hs.size,(h3 b h4).2⟩
  ·refine⟨(g3 b h4).1,?_⟩
   rcases (g3 b h4).2 with h5|h5
   ·exact(h3 b (hin b h5)).2
   ·cases ho:Γ.imm b with
    | none=>rfl
    | some o=>have:=immlt b o ho;omega
theorem Wd.add{r:B6}{bs:List Nat}(h:Wd Γ S w)(hs:Ew w w')(hr:r.holds Γ.imm bs (hp w'))(hnd:bs.Nodup)(hb:∀b∈bs,w.heap.size≤b∧b<w'.heap.size)
  (hk:∀k,k<w.heap.size→w'.heap[k]? = w.heap[k]?):Wd Γ (r::S) w':=by
 obtain⟨bss,h1,h2,h3⟩:=h.own;have immlt:∀b o,Γ.imm b=some o→b<w.heap.size:=fun b o hbo=>(Array.getElem?_eq_some_iff.1 (h.imm b o hbo)).1
 refine⟨hs.os.trans h.os,hs.tape.trans h.tape,hs.out.trans h.out,Nat.le_trans h.dr hs.dr,fun b o hbo=>(hk b (immlt b o hbo)).trans (h.imm b o hbo),bs::bss,⟨hr,?_⟩,?_,fun b hx=>?_⟩
 ·exact Holds.loc (fun _ _ h=>h) S bss (fun b hx=>hk b (h3 b hx).1) h1
 ·simp only[List.flatten_cons,List.nodup_append]
  exact⟨hnd,h2,fun a ha b hb' hab=>by subst hab;have:=(hb a ha).1;have:=(h3 a hb').1;omega⟩
 ·simp only[List.flatten_cons,List.mem_append]at hx
  rcases hx with hx|hx
  ·refine⟨(hb b hx).2,?_⟩
   cases ho:Γ.imm b with
   | none=>rfl
   | some o=>have:=immlt b o ho;have:=(hb b hx).1;omega
  ·exact⟨Nat.lt_of_lt_of_le (h3 b hx).1 hs.size,(h3 b hx).2⟩
theorem Wd.same(h:Wd Γ S w)(hs:Ew w w')(hk:∀k,k<w.heap.size→w'.heap[k]? = w.heap[k]?):Wd Γ S w':=by
 obtain⟨bss,h1,h2,h3⟩:=h.own;have immlt:∀b o,Γ.imm b=some o→b<w.heap.size:=fun b o hbo=>(Array.getElem?_eq_some_iff.1 (h.imm b o hbo)).1
 exact⟨hs.os.trans h.os,hs.tape.trans h.tape,hs.out.trans h.out,Nat.le_trans h.dr hs.dr,fun b o hbo=>(hk b (immlt b o hbo)).trans (h.imm b o hbo),bss,
  Holds.loc (fun _ _ h=>h) S bss (fun b hx=>hk b (h3 b hx).1) h1,h2,fun b hx=>⟨Nat.lt_of_lt_of_le (h3 b hx).1 hs.size,(h3 b hx).2⟩⟩
theorem Wd.drew(h:Wd Γ S w):Wd Γ S w.drew:=h.same ⟨rfl,rfl,rfl,(by first|exact Nat.le_refl _|exact Nat.le_succ _),Nat.le_refl _⟩ fun _ _=>rfl
theorem Wd.drawn(h:Wd Γ S w):Wd Γ S { w with drawn:=w.drawn+1 }:=h.drew
theorem Holds.perm{m h}{S S':List B6}(hp:S.Perm S'):∀bss,Holds m S bss h→∃bss',Holds m S' bss' h∧bss'.Perm bss:=by
 induction hp with
 | nil=>exact fun bss h=>⟨bss,h,.refl _⟩
 | cons r _ ih=>
  intro bss h;cases bss with
  | nil=>exact h.elim
  | cons b bss=>obtain⟨b',h1,h2⟩:=ih bss h.2;exact⟨b::b',⟨h.1,h1⟩,h2.cons b⟩
 | swap r r' l=>
  intro bss h;match bss,h with
  | b::b'::bss,h=>exact⟨b'::b::bss,⟨h.2.1,h.1,h.2.2⟩,.swap _ _ _⟩
 | trans _ _ ih1 ih2=>
  intro bss h;obtain⟨b1,h1,p1⟩:=ih1 bss h
  obtain⟨b2,h2,p2⟩:=ih2 b1 h1
  exact⟨b2,h2,p2.trans p1⟩
theorem Wd.perm{S':List B6}(h:Wd Γ S w)(hp:S.Perm S'):Wd Γ S' w:=by
 obtain⟨bss,h1,h2,h3⟩:=h.own;obtain⟨bss',g1,g2⟩:=Holds.perm hp bss h1
 exact⟨h.os,h.tape,h.out,h.dr,h.imm,bss',g1,(g2.flatten.nodup_iff).2 h2,fun b hx=>h3 b (g2.flatten.mem_iff.1 hx)⟩
theorem Wd.drop{r:B6}(h:Wd Γ (r::S) w):Wd Γ S w:=by
 obtain⟨bss,h1,h2,h3⟩:=h.own;cases bss with
 | nil=>exact h1.elim
 | cons b bss=>
  simp only[List.flatten_cons,List.nodup_append]at h2
  exact⟨h.os,h.tape,h.out,h.dr,h.imm,bss,h1.2,h2.2.1,fun x hx=>h3 x (by simp at hx ⊢;exact .inr hx)⟩
theorem perm_pull:∀ {S:List B6} {i:Nat} {r:B6},S[i]? = some r→S.Perm (r::S.eraseIdx i)
 | [],_,_,h=>by simp at h
 | x::S,0,r,h=>by simp at h;subst h;exact .refl _
 | x::S,i+1,r,h=>by
  have:=perm_pull (S:=S) (i:=i) (r:=r) (by simpa using h)
  exact(this.cons x).trans (.swap _ _ _)
theorem Wd.pull{i:Nat}{r:B6}(h:Wd Γ S w)(hi:S[i]? = some r):Wd Γ (r::S.eraseIdx i) w:=h.perm (perm_pull hi)
theorem Wd.dropAt(h:Wd Γ S w)(i:Nat):Wd Γ (S.eraseIdx i) w:=by
 cases hi:S[i]? with
 | none=>rw[List.eraseIdx_of_length_le (by simpa using hi)];exact h
 | some r=>exact(h.pull hi).drop
def B6.ex{α:Type}(X:α→List B6):B6 where
 holds m bs h:=∃x bss,bs=bss.flatten∧Holds m (X x) bss h
 loc m m' bs h h' hm hb:=by
  rintro⟨x,bss,rfl,hx⟩;exact⟨x,bss,rfl,Holds.loc hm _ _ hb hx⟩
theorem Holds.append{m h}:∀(S S':List B6) (a b:List (List Nat)),Holds m S a h→Holds m S' b h→Holds m (S++S') (a++b) h
 | [],_,[],_,_,hb=>hb
 | _::S,S',_::a,b,ha,hb=>⟨ha.1,Holds.append S S' a b ha.2 hb⟩
 | [],_,_::_,_,ha,_=>ha.elim
 | _::_,_,[],_,ha,_=>ha.elim
theorem Holds.split{m h}:∀(S S':List B6) (c:List (List Nat)),Holds m (S++S') c h→∃a b,c=a++b∧Holds m S a h∧Holds m S' b h
 | [],_,c,hc=>⟨[],c,rfl,trivial,hc⟩
 | _::S,S',x::c,hc=>by
  obtain⟨a,b,rfl,h1,h2⟩:=Holds.split S S' c hc.2
  exact⟨x::a,b,rfl,⟨hc.1,h1⟩,h2⟩
 | _::_,_,[],hc=>hc.elim
theorem Wd.openEx{α:Type}{X:α→List B6}(h:Wd Γ (B6.ex X::S) w):∃x,Wd Γ (X x++S) w:=by
 obtain⟨bss,h1,h2,h3⟩:=h.own;cases bss with
 | nil=>exact h1.elim
 | cons b bss=>
  obtain⟨⟨x,b',rfl,hx⟩,h1⟩:=h1;exact⟨x,h.os,h.tape,h.out,h.dr,h.imm,b'++bss,Holds.append _ _ _ _ hx h1,by simpa using h2,fun y hy=>h3 y (by simpa using hy)⟩
theorem Wd.closeEx{α:Type}{X:α→List B6}(x:α)(h:Wd Γ (X x++S) w):Wd Γ (B6.ex X::S) w:=by
 obtain⟨bss,h1,h2,h3⟩:=h.own;obtain⟨a,b,rfl,g1,g2⟩:=Holds.split _ _ _ h1
 exact⟨h.os,h.tape,h.out,h.dr,h.imm,a.flatten::b,⟨⟨x,a,rfl,g1⟩,g2⟩,by simpa using h2,fun y hy=>h3 y (by simpa using hy)⟩
def B6.blk(b:Nat)(o:Obj):B6 where
 holds _ bs h:=bs=[b]∧h b=some o
 loc _ _ bs h h' _ hb:=by rintro⟨rfl,hx⟩;exact⟨rfl,(hb b (by simp)).trans hx⟩
theorem Wd.at_blk{i b:Nat}{o:Obj}(h:Wd Γ S w)(hi:S[i]? = some (.blk b o)):w.heap[b]? = some o:=by
 obtain⟨bss,h1,_,_⟩:=h.own;obtain⟨bs,_,hr⟩:=Holds.get S bss i _ h1 hi
 exact hr.2
theorem Wd.set_blk{i b:Nat}{o o':Obj}(h:Wd Γ S w)(hi:S[i]? = some (.blk b o))(hs:Ew w w')(hb:w'.heap[b]? = some o')(hk:∀k,k<w.heap.size→k≠b→w'.heap[k]? = w.heap[k]?) :
  Wd Γ (S.set i (.blk b o')) w':=
 h.upd hi hs fun bs hr _ hlt=>by
  obtain⟨rfl,hx⟩:=hr;exact⟨[b],⟨rfl,hb⟩,by simp,fun x hx'=>⟨Nat.lt_of_lt_of_le (hlt x hx') hs.size,.inl hx'⟩,fun k hk1 hk2=>hk k hk1 (by simpa using hk2)⟩
theorem Wd.alloc(h:Wd Γ S w)(o:Obj):Wd Γ (.blk w.heap.size o::S) (w.alloc o):=
 h.add (bs:=[w.heap.size]) ⟨rfl,rfl,rfl,(by first|exact Nat.le_refl _|exact Nat.le_succ _),by simp⟩ ⟨rfl,heap_alloc_new w o⟩ (by simp) (by simp) fun k hk=>heap_alloc_old w o hk
end
attribute [irreducible] B6.blk B6.ex
def zeroOf(P:Program)(T:TypeId):Option (List Value):=((P.info? T).bind (·.zero)).map fun z=>z.cells.toList
def Fw(P:Program)(T:TypeId):Bool:=match P.underlying T with
 | some (.struct _)|some (.array _ _)=>false
 | some _=>((P.info? T).map (·.size)) == some 1
 | none=>false
def JN(P:Program)(T:TypeId):Option Nat:=match P.underlying T with
 | some d=>if d.isRow then (P.info? T).map (·.size) else none
 | none=>none
def OC(P:Program)(T:TypeId)(f:Nat):Option Nat:=match P.underlying T with
 | some (.struct fs)=>match fs[f]? with
  | some x=>match (P.info? x.type).map (·.size) with
   | some 0=>none
   | some _=>some x.offset
   | none=>none
  | none=>none
 | _=>none
def HY(P:Program)(T:TypeId):Option (Nat×Nat):=(P.info? T).map fun i=>(i.size,i.bytes)
def Ps(P:Program)(f:Nat):Bool:=match P.funcs[f]? with|some fn=>fn.body.isSome&&fn.name != "runtime.NumGoroutine" | none=>false
class TZ(P:Program)(T:TypeId)(cs:outParam (List Value)):Prop where h:zeroOf P T=some cs
class TS(P:Program)(T:TypeId):Prop where h:Fw P T=true
class TA(P:Program)(T:TypeId)(n:outParam Nat):Prop where h:JN P T=some n
class TF(P:Program)(T:TypeId)(f:Nat)(k:outParam Nat):Prop where h:OC P T f=some k
class TL(P:Program)(T:TypeId)(E:outParam TypeId)(sz by':outParam Nat)(zs:outParam (List Value)):Prop where
 h:P.underlying T=some (.slice E)
 s:HY P E=some (sz,by')
 z:zeroOf P E=some zs
 n:zs.length=sz∧0<sz
class Ro(P:Program)(T:TypeId)(n:outParam Nat)(E:outParam TypeId)(sz:outParam Nat):Prop where
 h:P.underlying T=some (.array n E)
 s:(P.info? E).map (·.size)=some sz
class En(P:Program)(T:TypeId):Prop where h:P.underlying T=some .string
class MP(P:Program)(T:TypeId)(k:outParam IntKind):Prop where h:P.underlying T=some (.int k)
class BJ(P:Program)(T:TypeId)(K E:outParam TypeId):Prop where h:P.underlying T=some (.map K E)
class Ma(P:Program)(T:TypeId)(E:outParam TypeId):Prop where h:P.underlying T=some (.pointer E)
class C7(P:Program)(f:Nat):Prop where h:Ps P f=true
section
variable {P:Program}{Γ:C8}{S:List B6}{w:World}{ρ:Fr}{K:Value→World→Prop}
variable {d:Option Tmp}{T U ty:TypeId}{pos:String}{es:Array Edge}{g:Option (Nat×Bool)}{x y z:Operand}
theorem Tj{b o f k:Nat}[hf:TF P T f k](hx:ev ρ x=.pointer (some ⟨b,o,none⟩)):Yields P ⟨d,.fieldAddr T x f,ty,pos,es,g⟩ ρ w (.pointer (some ⟨b,o+k,none⟩)):=by
 have h:=hf.h
 unfold OC at h;unfold Yields;cases hu:P.underlying T with
 | none=>simp[hu]at h
 | some t=>
  cases t <;> simp[hu]at h
  rename_i fs
  cases hfs:fs[f]? with
  | none=>simp[hfs]at h
  | some fl=>
   simp[hfs]at h
   cases hi:P.info? fl.type with
   | none=>simp[hi]at h
   | some i=>
    simp[hi]at h
    split at h
    ·simp at h
    ·rename_i n hn
     simp at h
     subst h;have hne:i.size≠0:=fun e=>by simp_all
     have ha:(⟨b,o,none⟩:Addr).add fl.offset=⟨b,o+fl.offset,none⟩:=Addr.add_mid b o fl.offset
     simp[execOp,go_sem,hx,Instr.fieldAt,run_underlying hu,hfs,Instr.sureAddr,fieldPlace,Go.sizeOf,typeInfo,hi,hne,ha]
    ·simp at h
theorem w4(h:Fw P T=true):(isAgg T).run P w=.ok false w:=by
 unfold Fw at h;cases hu:P.underlying T with
 | none=>simp[hu]at h
 | some t=>
  unfold isAgg;rw[Sem.run_bind,run_underlying hu w];cases t <;> simp_all
theorem Ks(h:Fw P T=true):(Go.sizeOf T).run P w=.ok 1 w:=by
 unfold Fw at h;cases hi:P.info? T with
 | none=>cases hu:P.underlying T with
  | none=>simp[hu]at h
  | some t=>cases t <;> simp_all
 | some i=>
  have:i.size=1:=by
   cases hu:P.underlying T with
   | none=>simp[hu]at h
   | some t=>cases t <;> simp_all
  simp[Go.sizeOf,typeInfo,hi,this]
theorem Gl{A:Addr}{v:Value}[hs:TS P T](hx:ev ρ x=.pointer (some A))(hc:w.cell? A=some v):Yields P ⟨d,.load T x,ty,pos,es,g⟩ ρ w v:=by
 unfold Yields;simp[execOp,go_sem,hx,Instr.loadAt,Instr.sureAddr,loadVar,w4 hs.h,hc]
theorem Ih{b o n:Nat}{cs:List Value}[ha:TA P T n](hx:ev ρ x=.pointer (some ⟨b,o,none⟩))(hl:cs.length=n)(hc:w.rangeAt b o cs):Yields P ⟨d,.load T x,ty,pos,es,g⟩ ρ w (.agg cs.toArray):=by
 have h:=ha.h
 unfold JN at h;cases hu:P.underlying T with
 | none=>simp[hu]at h
 | some t=>
  simp[hu]at h
  have h1:=run_loadAt_mid (P:=P) w b o T cs t hc hu h.1 (by simp[h.2,hl])
  unfold Yields;simp only[execOp,hx,Sem.run_bind,h1]
  rfl
theorem cell_of{b o:Nat}{cs:Array Value}{E:TypeId}{fr:Nat×Nat}{v:Value}(h:w.heap[b]? = some (.cells cs E fr))(hv:cs[o]? = some v):w.cell? ⟨b,o,none⟩=some v:=by
 simp[World.cell?,h,hv]
theorem JX{b o n:Nat}{cs:Array Value}{E:TypeId}{fr:Nat×Nat}(h:w.heap[b]? = some (.cells cs E fr)):w.rangeAt b o (cs.extract o (o+n)).toList:=World.rangeAt_of_block h o n
def putCells(cs:Array Value)(o:Nat)(vs:List Value):Array Value:=(cs.toList.take o++vs++cs.toList.drop (o+vs.length)).toArray
theorem NE(w:World)(b:Nat)(c:Array Value):Ew w (w.setRow b c):=⟨rfl,rfl,rfl,(by first|exact Nat.le_refl _|exact Nat.le_succ _),by simp⟩
theorem AR{b o i n:Nat}{v:Value}{vs:List Value}{cs:Array Value}{E:TypeId}(hn:(P.info? T).map (·.size)=some n)(hw:Wd Γ S w)(hx:ev ρ x=.pointer (some ⟨b,o,none⟩))(hy:ev ρ y=v)(hv:v.cells.toList=vs)(hl:vs.length=n)
  (h1:∀u∈vs,u.oneCell'=true) (hi:S[i]? = some (.blk b (.cells cs E))) (ho:o+n≤cs.size) (hk:∀w',Wd Γ (S.set i (.blk b (.cells (putCells cs o vs) E))) w'→K undef w'):Step P ⟨d,.store T x y,ty,pos,es,g⟩ ρ w K:=by
 have hb:=hw.at_blk hi
 have hst:=run_storeCells_at P b o E vs 0 cs w hb (by omega) h1
 simp only[Nat.add_zero]at hst
 have hsz:v.cells.size=n:=by rw[←hl,←hv];simp
 have hr:(execOp (ev ρ) ⟨d,.store T x y,ty,pos,es,g⟩).run P w=.ok .skip (w.setRow b (putCells cs o vs)):=by
  cases hq:P.info? T with
  | none=>simp[hq]at hn
  | some q=>
   have hs:q.size=n:=by simpa[hq] using hn
   have hz:(Go.sizeOf T).run P w=.ok n w:=by simp[Go.sizeOf,typeInfo,hq,hs]
   have hsv:(storeVar T ⟨b,o,none⟩ v).run P w=.ok () (w.setRow b (putCells cs o vs)):=by
    unfold storeVar;rw[Sem.run_bind,hz];simp only[Result.andThen_ok,hsz,ne_eq,not_true_eq_false,if_false,hv]
    exact hst
   simp only[execOp,hx,hy,Instr.storeAt,Instr.sureAddr,Sem.run_bind,Sem.run_pure,Result.andThen_ok,hsv]
 have hfin:K undef (w.setRow b (putCells cs o vs)):=hk _ (hw.set_blk hi (NE w _ _) (setRow_heap w b cs _ E (0,0) hb) fun k _ hne=>setRow_other w b k _ hne)
 unfold Step;rw[hr];exact hfin
end
theorem W8{P:Program}{T s b:Nat}(h:HY P T=some (s,b)):∃i,P.info? T=some i∧i.size=s∧i.bytes=b:=by
 unfold HY at h;cases hi:P.info? T with
 | none=>simp[hi]at h
 | some i=>simp[hi]at h;exact⟨i,rfl,h.1,h.2⟩
theorem W6{P:Program}{T:Nat}{zs:List Value}(h:zeroOf P T=some zs):∃i z,P.info? T=some i∧i.zero=some z∧z.cells=zs.toArray:=by
 unfold zeroOf at h;cases hi:P.info? T with
 | none=>simp[hi]at h
 | some i=>
  cases hz:i.zero with
  | none=>simp[hi,hz]at h
  | some z=>simp[hi,hz]at h;exact⟨i,z,rfl,hz,by rw[←h]⟩
def WC(cells:List Value)(off:Nat):List Value→List Value
 | []=>cells
 | v::vs=>WC (cells.set off v) (off+1) vs
theorem Jk(off:Nat):∀(vs:List Value) (k:Nat) (arr:Array Value),(vs.zipIdx k).foldl (fun cs (p:Value×Nat)=>cs.setIfInBounds (off+p.2) p.1) arr=(WC arr.toList (off+k) vs).toArray
 | [],k,arr=>by simp[WC]
 | v::vs,k,arr=>by
  simp only[List.zipIdx_cons,List.foldl_cons]
  rw[Jk off vs (k+1)];simp[WC,Nat.add_assoc]
def r8(place:Nat→Option (Nat×Nat))(cells:List Value):List (Nat×Value)→Option (List Value)
 | []=>some cells
 | (i,v)::rest=>match place i with
  | none=>none
  | some (off,size)=>bif Nat.beq v.cells.toList.length size&&Nat.ble (off+size) cells.length then r8 place (WC cells off v.cells.toList) rest else none
theorem Cm(place:Nat→Option (Nat×Nat)):∀(parts:List (Nat×Value)) (cells out:List Value),r8 place cells parts=some out→Instr.fill place cells.toArray parts=some out.toArray
 | [],cells,out,h=>by simp[r8]at h;subst h;rfl
 | (i,v)::rest,cells,out,h=>by
  unfold r8 at h;unfold Instr.fill;cases hp:place i with
  | none=>simp[hp]at h
  | some q=>
   obtain⟨off,size⟩:=q;simp only[hp]at h ⊢
   cases hb:(Nat.beq v.cells.toList.length size&&Nat.ble (off+size) cells.length) with
   | false=>rw[hb]at h;simp at h
   | true=>
    simp only[hb,cond_true]at h
    simp only[Bool.and_eq_true]at hb
    have h1:v.cells.size=size:=by have:=Nat.eq_of_beq_eq_true hb.1;simpa using this
    have h2:=Nat.le_of_ble_eq_true hb.2
    rw[if_neg (by simp[h1];omega)]
    have:=Cm place rest _ out h
    rw[←Array.foldl_toList,Array.toList_zipIdx];rw[Jk off v.cells.toList 0];simpa using this
def placesOf(P:Program)(T:TypeId):Option (List (Nat×Nat)):=match P.underlying T with
 | some (.struct fs)=>fs.toList.mapM fun f=>(P.info? f.type).map fun i=>(f.offset,i.size)
 | _=>none
class TB(P:Program)(T:TypeId)(pl:outParam (List (Nat×Nat)))(zs:outParam (List Value)):Prop where
 h:placesOf P T=some pl
 z:zeroOf P T=some zs
section
variable {P:Program}{Γ:C8}{S:List B6}{w:World}{ρ:Fr}{K:Value→World→Prop}
variable {d:Option Tmp}{T U ty:TypeId}{pos:String}{es:Array Edge}{g:Option (Nat×Bool)}{x y z:Operand}
theorem JB(parts:Array (Nat×Operand)):(parts.map fun (i,x)=>(i,ev ρ x)).toList=parts.toList.map fun p=>(p.1,ev ρ p.2):=by simp
theorem V8{pl:List (Nat×Nat)}{zs cells:List Value}{parts:Array (Nat×Operand)}[hb:TB P T pl zs](h:r8 (pl[·]?) zs (parts.toList.map fun p=>(p.1,ev ρ p.2))=some cells) :
  Yields P ⟨d,.build T parts,ty,pos,es,g⟩ ρ w (.agg cells.toArray):=by
 obtain⟨i,z,hi,hz,hc⟩:=W6 hb.z
 have hp:=hb.h
 unfold placesOf at hp;cases hu:P.underlying T with
 | none=>simp[hu]at hp
 | some t=>
  cases t <;> simp only[hu]at hp <;> try (cases hp;done)
  rename_i fs
  have hbu:P.built T (parts.map fun (i,x)=>(i,ev ρ x)).toList=some cells.toArray:=by
   unfold Program.built;simp only[hi,hu,hz,hp]
   rw[JB,hc];have:=Cm (pl[·]?) _ zs cells h
   simpa using this
  unfold Yields;simp only[execOp,Sem.run_bind,run_build w T _ _ hbu]
  rfl
class TBA(P:Program)(T:TypeId)(sz:outParam Nat)(zs:outParam (List Value)):Prop where
 h:(match P.underlying T with|some (.array _ e)=>(P.info? e).map (·.size)|_=>none)=some sz
 z:zeroOf P T=some zs
theorem Oq{sz:Nat}{zs cells:List Value}{parts:Array (Nat×Operand)}[hb:TBA P T sz zs](h:r8 (fun i=>some (i*sz,sz)) zs (parts.toList.map fun p=>(p.1,ev ρ p.2))=some cells) :
  Yields P ⟨d,.build T parts,ty,pos,es,g⟩ ρ w (.agg cells.toArray):=by
 obtain⟨i,z,hi,hz,hc⟩:=W6 hb.z
 have hp:=hb.h
 cases hu:P.underlying T with
 | none=>simp[hu]at hp
 | some t=>
  cases t <;> simp only[hu]at hp <;> try (cases hp;done)
  rename_i n e
  cases he:P.info? e with
  | none=>simp[he]at hp
  | some ie=>
   simp[he]at hp
   have hbu:P.built T (parts.map fun (i,x)=>(i,ev ρ x)).toList=some cells.toArray:=by
    unfold Program.built;simp only[hi,hu,hz,he,hp]
    rw[JB,hc];exact Cm _ _ zs cells h
   unfold Yields;simp only[execOp,Sem.run_bind,run_build w T _ _ hbu]
   rfl
theorem TE{cs:List Value}[hz:TZ P T cs](hw:Wd Γ S w)(hk:∀b w',Wd Γ (.blk b (.cells cs.toArray T)::S) w'→K (.pointer (some ⟨b,0,none⟩)) w'):Step P ⟨d,.alloc T,ty,pos,es,g⟩ ρ w K:=by
 obtain⟨i,z,hi,hzz,hc⟩:=W6 hz.h
 have hr:(execOp (ev ρ) ⟨d,.alloc T,ty,pos,es,g⟩).run P w=.ok (.value (.pointer (some ⟨w.heap.size,0,none⟩))) (w.alloc (.cells cs.toArray T)):=by
  simp[execOp,go_sem,Instr.alloc,zeroValue,typeInfo,hi,hzz,newVar,newRow]
  rw[←hc];rfl
 have hfin:=hk _ _ (hw.alloc (.cells cs.toArray T))
 unfold Step;rw[hr];exact hfin
theorem fe{v:Value}(hw:Wd Γ S w)(hx:ev ρ x=v)(hk:∀b w',Wd Γ (.blk b (.cells v.cells T)::S) w'→K (.pointer (some ⟨b,0,none⟩)) w'):Step P ⟨d,.box T x,ty,pos,es,g⟩ ρ w K:=by
 have hr:(execOp (ev ρ) ⟨d,.box T x,ty,pos,es,g⟩).run P w=.ok (.value (.pointer (some ⟨w.heap.size,0,none⟩))) (w.alloc (.cells v.cells T)):=by
  simp[execOp,go_sem,Instr.box,newVar,newRow,hx]
 have hfin:=hk _ _ (hw.alloc (.cells v.cells T))
 unfold Step;rw[hr];exact hfin
theorem R3{f:Nat}[h:C7 P f](vs:Array Value):(callFunc f vs).run P w=.ok (.enter f vs) w:=by
 have hc:=h.h
 unfold Ps at hc;cases hf:P.funcs[f]? with
 | none=>simp[hf]at hc
 | some fn=>
  simp[hf]at hc
  obtain⟨h1,h2⟩:=hc;cases hb:fn.body with
  | none=>simp[hb]at h1
  | some c=>simp[callFunc,hf,h2,hb]
theorem Ba{f:Nat}{args:Array Operand}{tys:Array TypeId}{vs:Array Value}[C7 P f](ha:args.map (ev ρ)=vs)(hc:Calls P f vs w fun e w'=>∃v,e=.returned v∧K v w') :
  Step P ⟨d,.call { callee:=.value (.func f),args:=args,argTypes:=tys },ty,pos,es,g⟩ ρ w K:=by
 have hr:(execOp (ev ρ) ⟨d,.call { callee:=.value (.func f),args:=args,argTypes:=tys },ty,pos,es,g⟩).run P w=.ok (.enter f vs) w:=by
  simp only[execOp,resolve,ha,ev,Deferred.ofValue,Sem.run_bind,Sem.run_pure,Result.andThen_ok,invoke]
  simp[R3]
 unfold Step;rw[hr];exact hc
theorem Ic{f:Nat}{t:Tmp}{args:Array Operand}{tys:Array TypeId}{vs fst cap:Array Value}[C7 P f](ht:ρ t=.func (.func f) fst cap)(ha:args.map (ev ρ)=vs)(hc:Calls P f (fst++vs++cap) w fun e w'=>∃v,e=.returned v∧K v w') :
  Step P ⟨d,.call { callee:=.value (.tmp t),args:=args,argTypes:=tys },ty,pos,es,g⟩ ρ w K:=by
 have hr:(execOp (ev ρ) ⟨d,.call { callee:=.value (.tmp t),args:=args,argTypes:=tys },ty,pos,es,g⟩).run P w=.ok (.enter f (fst++vs++cap)) w:=by
  simp only[execOp,resolve,ha,ev,ht,Deferred.ofValue,Sem.run_bind,Sem.run_pure,Result.andThen_ok,invoke]
  simp[R3]
 unfold Step;rw[hr];exact hc
theorem Qt{fn:Fn}{first cap:Array Operand}:Yields P ⟨d,.makeFunc fn first cap,ty,pos,es,g⟩ ρ w (.func fn (first.map (ev ρ)) (cap.map (ev ρ))):=by
 unfold Yields;simp[execOp,go_sem,Instr.makeFunc]
end
def aB(a:Option Addr):Nat:=(a.getD ⟨0,0,none⟩).block
def aO(a:Option Addr):Nat:=(a.getD ⟨0,0,none⟩).off
structure Rd(w:World)(a:Option Addr)(sz:Nat)(rows:List (List Value)):Prop where
 len:∀r∈rows,r.length=sz
 at_:0<rows.length→a=some ⟨aB a,aO a,none⟩
 range:w.rangeAt (aB a) (aO a) rows.flatten
def D7(Γ:C8)(v:Value)(sz:Nat)(rows:List (List Value)):Prop:=
 (∀r∈rows,r.length=sz)∧∃a n c,v=.slice a n c∧n=rows.length∧n≤c∧c≤maxLen ∧
  (0<rows.length→∃g o cur e fr,a=some ⟨g,o,none⟩∧Γ.imm g=some (.cells cur e fr)∧∀j u,rows.flatten[j]? = some u→cur[o+j]? = some u)
def B6.own(v:Value)(e sz:Nat)(rows:List (List Value)):B6 where
 holds _ bs h:=(∀r∈rows,r.length=sz)∧∃a n c,v=.slice a n c∧n=rows.length∧n≤c∧c≤maxLen ∧
  ((c=0∧bs=[])∨∃g cur,a=some ⟨g,0,none⟩∧bs=[g]∧h g=some (.cells cur e (0,0))∧cur.size=c*sz∧cur.toList.take (n*sz)=rows.flatten)
 loc m m' bs h h' _ hb:=by
  rintro⟨h1,a,n,c,h2,h3,h4,h5,h6⟩;refine⟨h1,a,n,c,h2,h3,h4,h5,h6.imp id ?_⟩
  rintro⟨g,cur,g1,rfl,g3,g4⟩;exact⟨g,cur,g1,rfl,(hb g (by simp)).trans g3,g4⟩
theorem T5{sz:Nat}:∀ {rows:List (List Value)},(∀r∈rows,r.length=sz)→rows.flatten.length=rows.length*sz
 | [],_=>by simp
 | r::rows,h=>by
  have h1:=h r (by simp)
  have h2:=T5 (rows:=rows) fun x hx=>h x (by simp[hx])
  simp only[List.flatten_cons,List.length_append,h1,h2,List.length_cons,Nat.add_mul,Nat.one_mul];omega
theorem EL{sz:Nat}:∀ {rows:List (List Value)} {i:Nat} {r:List Value},(∀r∈rows,r.length=sz)→rows[i]? = some r→∀j u,r[j]? = some u→rows.flatten[i*sz+j]? = some u
 | [],i,r,_,hi=>by simp at hi
 | r0::rows,0,r,h,hi=>by
  simp at hi;subst hi
  intro j u hj;rw[Nat.zero_mul,Nat.zero_add,List.flatten_cons,List.getElem?_append_left]
  ·exact hj
  ·exact(List.getElem?_eq_some_iff.1 hj).1
 | r0::rows,i+1,r,h,hi=>by
  intro j u hj;have h1:=h r0 (by simp)
  have h2:=EL (rows:=rows) (i:=i) (fun x hx=>h x (by simp[hx])) (by simpa using hi) j u hj
  rw[List.flatten_cons,List.getElem?_append_right (by rw[h1,Nat.add_mul];omega)]
  rw[h1,show (i+1)*sz+j-sz=i*sz+j from by rw[Nat.add_mul];omega]
  exact h2
section
variable {P:Program}{Γ Γ':C8}{S:List B6}{w:World}{ρ:Fr}{K:Value→World→Prop}{sz e:Nat}{rows:List (List Value)}{v:Value}
theorem D7.shape(h:D7 Γ v sz rows):∃a n c,v=.slice a n c∧n=rows.length∧n≤c∧c≤9223372036854775807:=by
 obtain⟨_,a,n,c,h1,h2,h3,h4,_⟩:=h;exact⟨a,n,c,h1,h2,h3,by simpa[maxLen] using h4⟩
theorem D7.mono(h:D7 Γ v sz rows)(hl:Γ.le Γ'):D7 Γ' v sz rows:=by
 obtain⟨h0,a,n,c,h1,h2,h3,h4,h5⟩:=h;refine⟨h0,a,n,c,h1,h2,h3,h4,fun hp=>?_⟩
 obtain⟨g,o,cur,e,fr,g1,g2,g3⟩:=h5 hp
 exact⟨g,o,cur,e,fr,g1,hl.imm _ _ g2,g3⟩
theorem D7.rd{a:Option Addr}{n c:Nat}(h:D7 Γ (.slice a n c) sz rows)(hw:Wd Γ S w):Rd w a sz rows:=by
 obtain⟨h0,a',n',c',h1,h2,h3,h4,h5⟩:=h;cases h1
 refine⟨h0,fun hp=>?_,fun j u hj=>?_⟩
 ·obtain⟨g,o,cur,e,fr,g1,_,_⟩:=h5 hp
  subst g1;rfl
 ·have hp:0<rows.length:=by
   cases rows with
   | nil=>simp at hj
   | cons r rows=>simp
  obtain⟨g,o,cur,e,fr,g1,g2,g3⟩:=h5 hp
  subst g1;have:=hw.imm _ _ g2
  exact cell_of this (g3 j u hj)
theorem D7.nil:D7 Γ (.slice none 0 0) sz []:=⟨by simp,none,0,0,rfl,rfl,Nat.le_refl _,by simp,by simp⟩
theorem Wd.own_holds{i:Nat}(hw:Wd Γ S w)(hi:S[i]? = some (.own v e sz rows)):∃bs,(B6.own v e sz rows).holds Γ.imm bs (hp w):=by
 obtain⟨bss,h1,_,_⟩:=hw.own;obtain⟨bs,_,hr⟩:=Holds.get S bss i _ h1 hi
 exact⟨bs,hr⟩
theorem Wd.own_shape{i:Nat}(hw:Wd Γ S w)(hi:S[i]? = some (.own v e sz rows)):∃a n c,v=.slice a n c∧n=rows.length∧n≤c∧c≤9223372036854775807:=by
 obtain⟨bs,_,a,n,c,h1,h2,h3,h4,_⟩:=hw.own_holds hi
 exact⟨a,n,c,h1,h2,h3,by simpa[maxLen] using h4⟩
theorem LY{bs:List Nat}{a:Option Addr}{n c:Nat}{m:Hp}(h:(B6.own (.slice a n c) e sz rows).holds m bs (hp w)):Rd w a sz rows:=by
 obtain⟨h0,a',n',c',h1,h2,h3,h4,h5⟩:=h;cases h1
 subst h2;rcases h5 with⟨hc,_⟩|⟨g,cur,g1,_,g3,g4,g5⟩
 ·have:rows=[]:=List.eq_nil_of_length_eq_zero (by omega)
  subst this;exact⟨by simp,by simp,fun j u hj=>by simp at hj⟩
 ·subst g1;refine⟨h0,fun _=>rfl,fun j u hj=>cell_of (E:=e) (fr:=(0,0)) g3 ?_⟩
  rw[←g5]at hj;have hlt:j<rows.length*sz:=by
   have:=(List.getElem?_eq_some_iff.1 hj).1
   simp at this;omega
  rw[List.getElem?_take_of_lt hlt]at hj;show cur[0+j]? = some u
  simpa using hj
theorem Wd.own_rd{i:Nat}{a:Option Addr}{n c:Nat}(hw:Wd Γ S w)(hi:S[i]? = some (.own (.slice a n c) e sz rows)):Rd w a sz rows:=by
 obtain⟨bs,h⟩:=hw.own_holds hi
 exact LY h
theorem Rd.elem{a:Option Addr}{i:Nat}{r:List Value}(h:Rd w a sz rows)(hi:rows[i]? = some r):w.rangeAt (aB a) (aO a+i*sz) r:=fun j u hj=>by
 have:=h.range (i*sz+j) u (EL h.len hi j u hj)
 rwa [←Nat.add_assoc]at this
theorem B8{α:Type}{enc:α→List Value}{xs:List α}{i:Nat}{x:α}(h:xs[i]? = some x):(xs.map enc)[i]? = some (enc x):=by simp[h]
variable {d:Option Tmp}{T U ty:TypeId}{pos:String}{es:Array Edge}{g:Option (Nat×Bool)}{x y z:Operand}
theorem Dk{E by':Nat}{zs:List Value}{a:Option Addr}{n c:Nat}{k:IntKind}{i:Int}[hT:TL P T E sz by' zs](hx:ev ρ x=.slice a n c)(hy:ev ρ y=.int k i)(h0:0≤i)(h1:i<n)(ha:a=some ⟨aB a,aO a,none⟩) :
  Yields P ⟨d,.indexAddr T x y,ty,pos,es,g⟩ ρ w (.pointer (some ⟨aB a,aO a+i.toNat*sz,none⟩)):=by
 obtain⟨q,hq,hs,_⟩:=W8 hT.s
 have he:P.elem T=E:=by simp[Program.elem,hT.h]
 have hE:P.underlying T=some (.slice (P.elem T)):=by rw[he];exact hT.h
 have hr:=run_indexAt_slice (P:=P) w T ⟨aB a,aO a,none⟩ n c k i hE
 rw[if_pos ⟨h0,h1⟩,he]at hr;have hz:(Go.sizeOf E).run P w=.ok sz w:=by simp[Go.sizeOf,typeInfo,hq,hs]
 rw[hz,Result.andThen_ok,Addr.add_mid]at hr;unfold Yields;rw[ha]at hx;simp only[execOp,hx,hy,Sem.run_bind,hr,Result.andThen_ok]
 rfl
theorem P0{a:Option Addr}{k:Nat}{r:List Value}[ha:TA P T sz](hx:ev ρ x=.pointer (some ⟨aB a,aO a+k*sz,none⟩))(hr:Rd w a sz rows)(hk:rows[k]? = some r) :
  Yields P ⟨d,.load T x,ty,pos,es,g⟩ ρ w (.agg r.toArray):=
 Ih hx (hr.len r (List.mem_of_getElem? hk)) (hr.elem hk)
theorem G6{a:Option Addr}{k:Nat}{u:Value}[ha:TS P T](hx:ev ρ x=.pointer (some ⟨aB a,aO a+k*1,none⟩))(hr:Rd w a 1 rows)(hk:rows[k]? = some [u]) :
  Yields P ⟨d,.load T x,ty,pos,es,g⟩ ρ w u:=
 Gl hx (by have:=hr.elem hk 0 u rfl;simpa using this)
theorem V9{α:Type}{f:α→Value}{xs:List α}{a:Option Addr}{k:Nat}{u:α}[ha:TS P T](hx:ev ρ x=.pointer (some ⟨aB a,aO a+k*1,none⟩))(hr:Rd w a 1 (xs.map fun x=>[f x]))(hk:xs[k]? = some u) :
  Yields P ⟨d,.load T x,ty,pos,es,g⟩ ρ w (f u):=G6 hx hr (by simp[hk])
theorem J9{a:Option Addr}{k f:Nat}{r:List Value}{u:Value}[ha:TS P T](hx:ev ρ x=.pointer (some ⟨aB a,aO a+k*sz+f,none⟩))(hr:Rd w a sz rows)(hk:rows[k]? = some r)(hf:r[f]? = some u) :
  Yields P ⟨d,.load T x,ty,pos,es,g⟩ ρ w u:=
 Gl hx (hr.elem hk f u hf)
theorem L6{a:Option Addr}{k f m:Nat}{r vs:List Value}[ha:TA P T m](hx:ev ρ x=.pointer (some ⟨aB a,aO a+k*sz+f,none⟩))(hr:Rd w a sz rows)(hk:rows[k]? = some r)(hf:(r.drop f).take m=vs)(hl:vs.length=m) :
  Yields P ⟨d,.load T x,ty,pos,es,g⟩ ρ w (.agg vs.toArray):=by
 refine Ih hx hl fun j u hj=>?_
 have h1:=hr.elem hk
 rw[←hf]at hj;have hj2:r[f+j]? = some u:=by
  have hjm:j<m:=by
   have:=(List.getElem?_eq_some_iff.1 hj).1
   simp only[List.length_take,List.length_drop]at this;omega
  rw[List.getElem?_take_of_lt hjm,List.getElem?_drop]at hj;exact hj
 have:=h1 (f+j) u hj2
 rwa [←Nat.add_assoc]at this
theorem IK(t ty e:TypeId)(q:TypeInfo)(ht:P.underlying t=some (.slice e))(hi:P.info? e=some q)(a:Option Addr)(n c:Nat)(h:n≤c)(a2:Option Addr)(c2:Nat) :
  (Builtin.append_ #[t,t] ty #[.slice a n c,.slice a2 0 c2]).run P w=.ok (.slice a n c) w:=by
 cases a <;> cases a2 <;> simp[Builtin.append_,run_underlying ht,Go.sizeOf,typeInfo,hi,Builtin.lenOf,h,Builtin.firstCells,loadCells,loadCellsFrom,storeCells]
theorem EG{E by':Nat}{zs:List Value}{a a2:Option Addr}{n c m c2:Nat}{rows2:List (List Value)}{bs:List Nat}{mm:Hp}[hT:TL P T E sz by' zs]
  (hown:(B6.own (.slice a n c) E sz rows).holds mm bs (hp w)) (hr2:Rd w a2 sz rows2) (hm:m=rows2.length) (h1:∀u∈rows2.flatten,u.oneCell'=true) (hb:(n+m)*by'≤140737488355328) (h63:n+m≤9223372036854775807) :
  ∃v' w' bs',(Builtin.append_ #[T,T] ty #[.slice a n c,.slice a2 m c2]).run P w=.ok v' w'∧Ew w w'∧(B6.own v' E sz (rows++rows2)).holds mm bs' (hp w')∧bs'.Nodup∧(∀b∈bs',b<w'.heap.size∧(b∈bs∨w.heap.size≤b))∧(∀k,k<w.heap.size→k∉bs→w'.heap[k]? = w.heap[k]?)∧(n+m≤c→v'=.slice a (n+m) c):=by
 obtain⟨q,hq,hs,hby⟩:=W8 hT.s
 obtain⟨q',z,hq',hz,hzc⟩:=W6 hT.z
 rw[hq]at hq';cases hq'
 obtain⟨hzl,hsz⟩:=hT.n;have hrd:=LY hown
 obtain⟨h0,a',n',c',e1,e2,e3,e4,e5⟩:=hown;cases e1
 subst e2;subst hs;subst hby;have hzs:z.cells.size=q.size:=by rw[hzc];simpa using hzl
 have hlen:∀r∈rows++rows2,r.length=q.size:=fun r hr=>by
  rcases List.mem_append.1 hr with h|h
  ·exact h0 r h
  ·exact hr2.len r h
 have f1:=T5 h0
 have f2:=T5 hr2.len
 by_cases hm0:m=0
 ·subst hm0;have:rows2=[]:=List.eq_nil_of_length_eq_zero hm.symm
  subst this;refine⟨_,w,bs,IK T ty E q hT.h hq _ _ _ e3 _ _,⟨rfl,rfl,rfl,(by first|exact Nat.le_refl _|exact Nat.le_succ _),Nat.le_refl _⟩,?_,?_,?_,fun _ _ _=>rfl,fun _=>rfl⟩
  ·rw[List.append_nil];exact⟨h0,_,_,_,rfl,rfl,e3,e4,e5⟩
  ·rcases e5 with⟨_,rfl⟩|⟨g,cur,_,rfl,_⟩ <;> simp
  ·rcases e5 with⟨_,rfl⟩|⟨g,cur,_,rfl,g3,_⟩
   ·simp
   ·intro b hb';simp at hb'
    subst hb';exact⟨(Array.getElem?_eq_some_iff.1 g3).1,.inl (by simp)⟩
 ·have hpos:0<rows2.length:=by omega
  have ha2:=hr2.at_ hpos
  have hnews:∀j u,rows2.flatten[j]? = some u→w.cell? ((⟨aB a2,aO a2,none⟩:Addr).add j)=some u:=fun j u hj=>by rw[Addr.add_mid];exact hr2.range j u hj
  have hl2:rows2.flatten.length=m*q.size:=by rw[f2,hm]
  have h63':((rows.length+m:Nat):Int)≤9223372036854775807:=by omega
  have grown:∀old,old<rows.length+m→∃bs',(B6.own (.slice (some ⟨w.heap.size,0,none⟩) (rows.length+m) (grownCap w (rows.length+m) old E)) E q.size (rows++rows2)).holds mm bs' (hp (w.drew.alloc (.cells (rows.flatten.toArray++rows2.flatten.toArray++Builtin.zeroCells z.cells (grownCap w (rows.length+m) old E-(rows.length+m))) E))) ∧
    bs'.Nodup∧(∀b∈bs',b<(w.drew.alloc (.cells (rows.flatten.toArray++rows2.flatten.toArray++Builtin.zeroCells z.cells (grownCap w (rows.length+m) old E-(rows.length+m))) E)).heap.size∧(b∈bs∨w.heap.size≤b)):=by
   intro old ho;have hge:=grownCap_ge w (rows.length+m) old E
   have hcm:grownCap w (rows.length+m) old E≤maxLen:=grownCap_le_maxLen w (rows.length+m) old E (by simp[maxLen];omega)
   refine⟨[w.heap.size],⟨hlen,_,_,_,rfl,by simp[hm],hge,hcm,.inr ⟨w.heap.size,_,rfl,rfl,heap_alloc_new w.drew _,?_,?_⟩⟩,by simp,by simp⟩
   ·simp only[Array.size_append,List.size_toArray,size_zeroCells,hzs,f1,hl2,←Nat.add_mul]
    congr 1;omega
   ·simp only[Array.toList_append,List.append_assoc,List.flatten_append]
    rw[←List.append_assoc,show (rows.length+m)*q.size=(rows.flatten++rows2.flatten).length from by simp[f1,hl2,Nat.add_mul]]
    exact List.take_left
  have same:∀o,Ew w (w.drew.alloc o):=fun o=>⟨rfl,rfl,rfl,(by first|exact Nat.le_refl _|exact Nat.le_succ _),by simp⟩
  have old_:∀o k,k<w.heap.size→(w.drew.alloc o).heap[k]? = w.heap[k]?:=fun o k hk=>heap_alloc_old w.drew o hk
  by_cases hroom:rows.length+m≤c
  ·rcases e5 with⟨hc0,_⟩|⟨g,cur,rfl,rfl,g3,g4,g5⟩
   ·omega
   ·have hfit:rows.length*q.size+rows2.flatten.length≤cur.size:=by rw[hl2,g4,←Nat.add_mul];exact Nat.mul_le_mul_right _ hroom
    have hr:=run_append_room (P:=P) w T ty E q hT.h hq g rows.length c cur g3 ⟨aB a2,aO a2,none⟩ m c2 rows2.flatten hl2 hnews h1 hroom hfit
    rw[ha2];refine⟨_,_,[g],hr,⟨rfl,rfl,rfl,(by first|exact Nat.le_refl _|exact Nat.le_succ _),by simp⟩,⟨hlen,_,_,_,rfl,by simp[hm],hroom,e4,.inr ⟨g,_,rfl,rfl,setRow_heap w g cur _ E _ g3,?_,?_⟩⟩,by simp,?_,fun k hk hne=>setRow_other w g k _ (by simpa using hne),fun _=>rfl⟩
    ·simp only[List.size_toArray,List.length_append,List.length_take,List.length_drop,Array.length_toList];omega
    ·show List.take _ (List.toArray _).toList=_
     rw[g5,show (rows.length+m)*q.size=(rows.flatten++rows2.flatten).length from by simp[f1,hl2,Nat.add_mul]]
     simp only[List.flatten_append]
     exact List.take_left
    ·intro b hb';simp at hb';subst hb'
     exact⟨by have:=(Array.getElem?_eq_some_iff.1 g3).1;simpa using this,.inl (by simp)⟩
  ·have hold:∀b0,a=some b0→∀j u,rows.flatten[j]? = some u→w.cell? (b0.add j)=some u:=fun b0 hb0 j u hj=>by
    have hp0:0<rows.length:=by cases rows with|nil=>simp at hj|cons=>simp
    have h2:=hrd.at_ hp0
    rw[h2]at hb0;cases hb0
    rw[Addr.add_mid];exact hrd.range j u hj
   obtain⟨bs',hb1,hb2,hb3⟩:=grown c (by omega)
   rw[ha2];cases ha:a with
   | none=>
    have hn0:rows.length=0:=by
     rcases Nat.eq_zero_or_pos rows.length with h|h
     ·exact h
     ·have:=hrd.at_ h;rw[ha]at this;cases this
    have hc0:c=0:=by
     rcases e5 with⟨hc0,_⟩|⟨g,cur,h',_⟩
     ·exact hc0
     ·rw[ha]at h';cases h'
    have hrn:rows=[]:=List.eq_nil_of_length_eq_zero hn0
    subst hrn;subst hc0;have hr:=run_append_nil (P:=P) w T ty E q z hT.h hq hz ⟨aB a2,aO a2,none⟩ m c2 rows2.flatten hl2 hnews (by omega) (by omega) (by simp at hb;omega)
    simp only[List.length_nil,Nat.zero_add,List.flatten_nil,Array.empty_append]at hb1 hb3 ⊢
    exact⟨_,_,bs',hr,same _,hb1,hb2,hb3,fun k hk _=>old_ _ k hk,fun hh=>absurd hh (by first|exact hroom|(simp at hroom ⊢;omega))⟩
   | some b0=>
    have hr:=run_append_grow (P:=P) w T ty E q z hT.h hq hz b0 rows.length c rows.flatten f1 (hold b0 ha) ⟨aB a2,aO a2,none⟩ m c2 rows2.flatten hl2 hnews (by omega) h63' (growslice_fits (by omega) hb)
    exact⟨_,_,bs',hr,same _,hb1,hb2,hb3,fun k hk _=>old_ _ k hk,fun hh=>absurd hh (by first|exact hroom|(simp at hroom ⊢;omega))⟩
theorem Ul{E by' i:Nat}{zs:List Value}{a a2:Option Addr}{n c m c2:Nat}{rows2:List (List Value)}[hT:TL P T E sz by' zs](hw:Wd Γ S w)(hx:ev ρ x=.slice a n c)(hy:ev ρ y=.slice a2 m c2)
  (hi:S[i]? = some (.own (.slice a n c) E sz rows)) (hr2:Rd w a2 sz rows2) (hm:m=rows2.length) (h1:∀u∈rows2.flatten,u.oneCell'=true) (hb:(n+m)*by'≤140737488355328) (h63:n+m≤9223372036854775807)
  (hk:∀v' w',(n+m≤c→v'=.slice a (n+m) c)→Wd Γ (S.set i (.own v' E sz (rows++rows2))) w'→K v' w'):Step P ⟨d,.call { callee:=.builtin .append,args:=#[x,y],argTypes:=#[T,T] },ty,pos,es,g⟩ ρ w K:=by
 obtain⟨bss,h2,h3,h4⟩:=hw.own;obtain⟨bs,hbs,hown⟩:=Holds.get S bss i _ h2 hi
 obtain⟨v',w',bs',hr,hs,hh,hnd,hbb,hkk,hfit⟩:=EG (P:=P) (T:=T) (ty:=ty) (c2:=c2) hown hr2 hm h1 hb h63
 have hfin:K v' w':=hk v' w' hfit (hw.upd hi hs fun bs2 hr2' hnd2 hlt2=>by
  obtain⟨v2,w2,bs2',q1,q2,q3,q4,q5,q6,-⟩:=EG (P:=P) (T:=T) (ty:=ty) (c2:=c2) hr2' hr2 hm h1 hb h63
  rw[hr]at q1;cases q1
  exact⟨bs2',q3,q4,q5,q6⟩)
 have hrr:(execOp (ev ρ) ⟨d,.call { callee:=.builtin .append,args:=#[x,y],argTypes:=#[T,T] },ty,pos,es,g⟩).run P w=.ok (.value v') w':=by
  simp only[execOp,resolve,invoke,builtin,Sem.run_bind,Sem.run_pure,Result.andThen_ok,List.map_toArray,List.map_cons,List.map_nil,hx,hy,hr]
 unfold Step;rw[hrr];exact hfin
theorem EH{E by' i:Nat}{zs:List Value}{a a2:Option Addr}{n c m c2:Nat}{rows2:List (List Value)}[hT:TL P T E sz by' zs](hw:Wd Γ S w)(hx:ev ρ x=.slice a n c)(hy:ev ρ y=.slice a2 m c2)
  (hi:S[i]? = some (.own (.slice a n c) E sz rows)) (hr2:Rd w a2 sz rows2) (hm:m=rows2.length) (h1:∀u∈rows2.flatten,u.oneCell'=true) (hb:(n+m)*by'≤140737488355328) (h63:n+m≤9223372036854775807)
  (hk:∀v' w',Wd Γ (S.set i (.own v' E sz (rows++rows2))) w'→K v' w'):Step P ⟨d,.call { callee:=.builtin .append,args:=#[x,y],argTypes:=#[T,T] },ty,pos,es,g⟩ ρ w K:=
 Ul hw hx hy hi hr2 hm h1 hb h63 fun v' w' _=>hk v' w'
theorem Wd.addNil{a:Option Addr}{E:Nat}(hw:Wd Γ S w):Wd Γ (.own (.slice a 0 0) E sz []::S) w:=by
 obtain⟨bss,h1,h2,h3⟩:=hw.own;exact⟨hw.os,hw.tape,hw.out,hw.dr,hw.imm,[]::bss,⟨⟨by simp,a,0,0,rfl,rfl,Nat.le_refl _,by simp,.inl ⟨rfl,rfl⟩⟩,h1⟩,by simpa using h2,fun b hb=>h3 b (by simpa using hb)⟩
end
attribute [irreducible] B6.own D7
structure VU where
 e:Value→C8→Prop
 r:Value→List B6
 m:Option (List B6)
 x:Option Value
 p:Bool
structure St where
 ρ:Fr
 E:List (Nat×(Value→C8→Prop))
 M:List B6
 R:List (Nat×(Value→List B6))
def IH(E:List (Nat×(Value→C8→Prop)))(d:Option Tmp):List (Nat×(Value→C8→Prop)):=match d with
 | some d=>E.filter fun p=>!(Nat.beq p.1 d)
 | none=>E
def St.next(st:St)(o:Oper)(c:VU):St:=
 {ρ:=match c.x with|some v=>D6 st.ρ o.dst v|none=>st.ρ
  E:=match c.x,o.dst with
   | some _,d=>IH st.E d
   | none,some d=>(d,c.e)::IH st.E (some d)
   | none,none=>st.E
  M:=match c.m with|some M=>M|none=>st.M
  R:=match c.p,o.dst with|true,some d=>(d,c.r)::st.R|_,_=>st.R }
def sat(st:St)(ρ:Fr)(Γ:C8)(t:Nat):Prop:=match st.E.find? (fun p=>Nat.beq p.1 t) with
 | some p=>p.2 (ρ t) Γ
 | none=>ρ t=st.ρ t
def looks(ops:List Oper)(o:Oper):List Nat:=o.looksAt ops.toArray
def Y6(ops:List Oper)(o:Oper)(ρ:Fr):Bool:=match o.guard with
 | none=>true
 | some (j,want)=>match (ops[j]?).bind (·.dst) with
  | some d=>Hw (ρ d) == some want
  | none=>false
structure Env where
 P:Program
 n:Nat
 ops:List Oper
 Γ:C8
 K:List B6
 muts:List Nat
 prods:List Nat
 fixed:Bool
def Env.rl(V:Env)(Γ Γ':C8):Prop:=match V.fixed with|true=>Γ'=Γ|false=>Γ.le Γ'
theorem Env.rl.refl(V:Env)(Γ:C8):V.rl Γ Γ:=by unfold Env.rl;cases V.fixed <;> first|rfl|exact C8.le.refl _
theorem Env.rl.trans{V:Env}{a b c:C8}(h:V.rl a b)(k:V.rl b c):V.rl a c:=by
 unfold Env.rl at *;cases hf:V.fixed <;> simp only[hf] at * <;> first|exact k.trans h|exact C8.le.trans h k
theorem Env.rl.le{V:Env}{a b:C8}(h:V.rl a b):a.le b:=by
 unfold Env.rl at *;cases hf:V.fixed <;> simp only[hf] at * <;> first|exact h|(subst h;exact C8.le.refl _)
structure Good(V:Env)(i:Nat)(o:Oper)(st:St)(c:VU):Prop where
 mono:∀v Γ' Γ'',C8.le Γ' Γ''→c.e v Γ'→c.e v Γ''
 det:∀v X Γ',c.x=some X→c.e v Γ'→v=X
 pr:c.p=true→V.prods.contains i=true∧o.dst.isSome=true
 np:c.p=false→∀v,c.r v=[]
 mt:c.m.isSome=true→V.muts.contains i=true
 run:∀Γ' Y w ρ,V.rl V.Γ Γ'→Wd Γ' (V.K++((match c.m with|some _=>st.M|none=>[])++Y)) w→(∀t∈looks V.ops o,sat st ρ Γ' t) →
  (Y6 V.ops o ρ=true→Step V.P o ρ w fun v w'=>∃Γ'',V.rl Γ' Γ''∧Wd Γ'' (V.K++((match c.m with|some M=>M|none=>[])++(c.r v++Y))) w'∧c.e v Γ'') ∧
  (Y6 V.ops o ρ=false→c.e undef Γ'∧c.r undef=[]∧c.m=none)
def OL(R:List (Nat×(Value→List B6)))(ρ:Fr):List B6:=R.flatMap fun p=>p.2 (ρ p.1)
def NG(V:Env)(Q:Fr→World→Prop)(st:St):Prop:=
 ∀Γ' w ρ,V.rl V.Γ Γ'→(∀t,sat st ρ Γ' t)→Wd Γ' (V.K++(st.M++OL st.R ρ)) w→Q ρ w
def Sw(V:Env)(Q:Fr→World→Prop):Nat→List Oper→St→Prop
 | _,[],st=>NG V Q st
 | i,o::l,st=>∃c,Good V i o st c∧Sw V Q (i+1) l (st.next o c)
def Wm(done:List (List Nat))(o:Oper):List Nat:=
 o.after.toList.flatMap fun e=>if Region.binds .any e then e.on::(done.getD e.on []) else []
def Gx:List (List Nat)→List Oper→List (List Nat)
 | done,[]=>done
 | done,o::l=>Gx (done++[Wm done o]) l
def HM(ops:List Oper)(x y:Oper):Bool:=
 (match x.dst with|some d=>!(looks ops y).contains d && !(y.dst == some d)|none=>true) &&
 (match y.dst with|some d=>!(looks ops x).contains d|none=>true)
def BE(ops:List Oper)(muts prods:List Nat):Bool:=
  let A:=Gx [] ops
  (List.range ops.length).all fun j=>match ops[j]? with
    | none=>true
    | some oj=>(oj.after.toList.all fun e=>!Region.binds .any e||Nat.blt e.on j)&&okNoSel oj&&(match oj.guard with|some (g,_)=>((ops[g]?).bind (·.dst)).isSome|none=>true) &&
      ((List.range j).all fun i=>match ops[i]? with
        | none=>true
        | some oi=>((HM ops oi oj && !(muts.contains i&&muts.contains j))||(A.getD j []).contains i)&&(oi.dst.isNone || !(oi.dst == oj.dst) || !prods.contains i))
where okNoSel (o:Oper):Bool:=match o.op with|.select _ _=>false|_=>true
def r9(V:Env)(Q:Fr→World→Prop):Nat→List Oper→List VU→St→Prop
 | _,[],[],st=>NG V Q st
 | i,o::l,c::cs,st=>Good V i o st c∧r9 V Q (i+1) l cs (st.next o c)
 | _,_,_,_=>False
theorem Sw.chain{V:Env}{Q:Fr→World→Prop}:∀(l:List Oper) (i:Nat) (st:St),Sw V Q i l st→∃cs,r9 V Q i l cs st
 | [],_,_,h=>⟨[],h⟩
 | _::l,i,st,⟨c,hg,h⟩=>by
  obtain⟨cs,hc⟩:=Sw.chain l (i+1) _ h
  exact⟨c::cs,hg,hc⟩
def Gq:List Oper→List VU→St→Nat→St
 | o::l,c::cs,st,k+1=>Gq l cs (st.next o c) k
 | _,_,st,_=>st
section
variable {V:Env}{Q:Fr→World→Prop}
theorem r9.length:∀ {l:List Oper} {i:Nat} {cs:List VU} {st:St},r9 V Q i l cs st→cs.length=l.length
 | [],_,[],_,_=>rfl
 | _::l,_,_::cs,_,h=>by simp[r9.length h.2]
 | [],_,_::_,_,h=>h.elim
 | _::_,_,[],_,h=>h.elim
theorem r9.good:∀ {l:List Oper} {i:Nat} {cs:List VU} {st:St} (k:Nat) {o:Oper},r9 V Q i l cs st→l[k]? = some o→∃c,cs[k]? = some c∧Good V (i+k) o (Gq l cs st k) c
 | o'::l,i,c::cs,st,0,o,h,ho=>by
  simp at ho;subst ho
  exact⟨c,rfl,h.1⟩
 | o'::l,i,c::cs,st,k+1,o,h,ho=>by
  obtain⟨c',h1,h2⟩:=r9.good k h.2 (by simpa using ho)
  refine⟨c',by simpa using h1,?_⟩
  rw[show i+(k+1)=i+1+k from by omega]
  exact h2
 | [],_,_,_,_,_,_,ho=>by simp at ho
 | _::_,_,[],_,_,_,h,_=>h.elim
theorem r9.final:∀ {l:List Oper} {i:Nat} {cs:List VU} {st:St},r9 V Q i l cs st→NG V Q (Gq l cs st l.length)
 | [],_,[],_,h=>h
 | o::l,i,c::cs,st,h=>by
  have:=r9.final (l:=l) (cs:=cs) h.2
  simpa[Gq] using this
 | [],_,_::_,_,h=>h.elim
 | _::_,_,[],_,h=>h.elim
theorem CG:∀ {l:List Oper} {cs:List VU} {st:St} {k:Nat} {o:Oper} {c:VU},l[k]? = some o→cs[k]? = some c→Gq l cs st (k+1)=(Gq l cs st k).next o c
 | o'::l,c'::cs,st,0,o,c,ho,hc=>by
  simp at ho hc;subst ho;subst hc
  cases l <;> cases cs <;> rfl
 | o'::l,c'::cs,st,k+1,o,c,ho,hc=>CG (l:=l) (cs:=cs) (by simpa using ho) (by simpa using hc)
 | [],_,_,_,_,_,ho,_=>by simp at ho
 | _::_,[],_,_,_,_,_,hc=>by simp at hc
theorem Ib{a b:Nat}:Nat.beq a b=true↔a=b:=⟨Nat.eq_of_beq_eq_true,fun h=>by subst h;simp⟩
theorem Js{E:List (Nat×(Value→C8→Prop))}{d t:Nat}(h:t≠d):(IH E (some d)).find? (fun p=>Nat.beq p.1 t)=E.find? (fun p=>Nat.beq p.1 t):=by
 simp only[IH]
 induction E with
 | nil=>rfl
 | cons p E ih=>
  by_cases hp:Nat.beq p.1 d=true
  ·have h1:Nat.beq p.1 t=false:=by
    cases hb:Nat.beq p.1 t with
    | false=>rfl
    | true=>exact absurd ((Ib.1 hb).symm.trans (Ib.1 hp)) h
   simp[List.filter_cons,hp,List.find?_cons,h1]
   simpa using ih
  ·simp only[List.filter_cons,hp,Bool.not_false,if_true,List.find?_cons]
   cases Nat.beq p.1 t with
   | true=>simp
   | false=>simpa using ih
theorem IN{E:List (Nat×(Value→C8→Prop))}{d:Nat}:(IH E (some d)).find? (fun p=>Nat.beq p.1 d)=none:=by
 simp only[IH]
 rw[List.find?_eq_none];intro p hp hb;have:=(List.mem_filter.1 hp).2
 rw[hb]at this;cases this
theorem eV{st:St}{o:Oper}{c:VU}{ρ:Fr}{Γ:C8}{t:Nat}(h:o.dst≠some t)(hs:sat st ρ Γ t):sat (st.next o c) ρ Γ t:=by
 unfold sat at *
 cases hd:o.dst with
 | none=>
  cases hx:c.x <;> simpa[St.next,hd,hx,IH,D6] using hs
 | some d=>
  have hne:t≠d:=fun e=>h (by rw[hd,e])
  have hb:Nat.beq d t=false:=by
   cases hb:Nat.beq d t with
   | false=>rfl
   | true=>exact absurd (Ib.1 hb).symm hne
  cases hx:c.x with
  | none=>
   simp only[St.next,hd,hx,List.find?_cons,hb]
   rw[Js hne];exact hs
  | some X=>
   simp only[St.next,hd,hx]
   rw[Js hne];have:D6 st.ρ (some d) X t=st.ρ t:=upd_ne _ _ hne
   rw[this];exact hs
theorem eH{i:Nat}{st:St}{o:Oper}{c:VU}{ρ:Fr}{Γ:C8}{t:Nat}(hg:Good V i o st c)(h:o.dst=some t)(he:c.e (ρ t) Γ):sat (st.next o c) ρ Γ t:=by
 unfold sat;cases hx:c.x with
 | none=>
  have hb:Nat.beq t t=true:=Ib.2 rfl
  simp only[St.next,h,hx,List.find?_cons,hb]
  exact he
 | some X=>
  simp only[St.next,h,hx,IN]
  have:D6 st.ρ (some t) X t=X:=upd_same _ _ _
  rw[this];exact hg.det _ X _ hx he
def Closed(ops:List Oper)(D:Nat→Prop):Prop:=∀i o e,D i→ops[i]? = some o→e∈o.after→Region.binds .any e=true→D e.on
theorem VG{done:List (List Nat)}{o:Oper}{j:Nat}(h:j∈Wm done o):∃e∈o.after,Region.binds .any e=true∧(j=e.on∨j∈done.getD e.on []):=by
 unfold Wm at h;rw[List.mem_flatMap]at h;obtain⟨e,he,hj⟩:=h;refine⟨e,by simpa using he,?_⟩
 split at hj
 ·rename_i hb;simp at hj;exact⟨hb,by simpa using hj⟩
 ·simp at hj
theorem f8{ops:List Oper}{D:Nat→Prop}(hD:Closed ops D):∀(l:List Oper) (done:List (List Nat)),(∀k,l[k]? = ops[done.length+k]?)→(∀i j,j∈done.getD i []→D i→D j)→∀i j,j∈(Gx done l).getD i []→D i→D j
 | [],done,_,h=>h
 | o::l,done,hl,h=>by
  unfold Gx;refine f8 hD l _ (fun k=>?_) ?_
  ·have:=hl (k+1)
   simp only[List.getElem?_cons_succ]at this
   rw[this];simp only[List.length_append,List.length_cons,List.length_nil]
   congr 1;omega
  ·intro i j hj hi;have ho:ops[done.length]? = some o:=by have:=hl 0;simpa using this.symm
   by_cases h1:i<done.length
   ·rw[List.getD_eq_getElem?_getD,List.getElem?_append_left h1,←List.getD_eq_getElem?_getD]at hj;exact h i j hj hi
   ·by_cases h2:i=done.length
    ·subst h2;rw[List.getD_eq_getElem?_getD,List.getElem?_append_right (Nat.le_refl _)]at hj;simp at hj
     obtain⟨e,he,hb,h3⟩:=VG hj
     have hon:=hD _ o e hi ho he hb
     rcases h3 with rfl|h3
     ·exact hon
     ·exact h _ j h3 hon
    ·rw[List.getD_eq_getElem?_getD,List.getElem?_eq_none (by simp;omega)]at hj
     simp at hj
structure Inv(V:Env)(st0:St)(cs:List VU)(listed:Array Bool)(a:Act)(w:World)(done:List Nat)(vals:Nat→Value)(Γ':C8):Prop where
 defers:a.defers=[]
 size:a.tmps.size=V.n
 lsz:listed.size=V.ops.length
 nd:done.Nodup
 lt:∀i∈done,i<V.ops.length
 ls:∀i,i<V.ops.length→(listed.getD i true=true↔i∈done)
 cl:Closed V.ops (·∈done)
 le:V.rl V.Γ Γ'
 ep:∀i∈done,∀c,cs[i]? = some c→c.e (vals i) Γ'
 init:∀t,(∀i∈done,∀o,V.ops[i]? = some o→o.dst≠some t)→E0 a t=st0.ρ t
 last:∀i∈done,∀o t,V.ops[i]? = some o→o.dst=some t→(∀j∈done,∀o',V.ops[j]? = some o'→o'.dst=some t→j≤i)→E0 a t=vals i
 wd:∃p,p≤V.ops.length∧(∀i,V.muts.contains i=true→i<V.ops.length→(i∈done↔i<p)) ∧
  Wd Γ' (V.K++((Gq V.ops cs st0 p).M++done.flatMap fun i=>match cs[i]? with|some c=>c.r (vals i)|none=>[])) w
theorem CV{ops:List Oper}{muts prods:List Nat}(h:BE ops muts prods=true){j:Nat}{oj:Oper}(hj:ops[j]? = some oj) :
  (∀e∈oj.after,Region.binds .any e=true→e.on<j)∧(∀cs b,oj.op≠.select cs b)∧(∀g want,oj.guard=some (g,want)→∃d,(ops[g]?).bind (·.dst)=some d) ∧
  ∀i oi,i<j→ops[i]? = some oi→((HM ops oi oj=true∧¬(muts.contains i=true∧muts.contains j=true))∨i∈(Gx [] ops).getD j [])∧(oi.dst=none∨oi.dst≠oj.dst∨prods.contains i=false):=by
 have hlt:j<ops.length:=(List.getElem?_eq_some_iff.1 hj).1
 unfold BE at h;simp only[List.all_eq_true,List.mem_range]at h
 have h1:=h j hlt
 simp only[hj,Bool.and_eq_true]at h1
 obtain⟨⟨⟨h2,h3⟩,h4⟩,h5⟩:=h1;refine⟨fun e he hb=>?_,fun c b hs=>?_,fun g want hg=>?_,fun i oi hi ho=>?_⟩
 ·have:=(List.all_eq_true.1 h2) e (by simpa using he)
  rw[hb]at this;simp at this;omega
 ·unfold BE.okNoSel at h3;rw[hs]at h3;simp at h3
 ·rw[hg]at h4;exact Option.isSome_iff_exists.1 h4
 ·have:=(List.all_eq_true.1 h5) i (List.mem_range.2 hi)
  simp only[ho,Bool.and_eq_true,Bool.or_eq_true]at this
  obtain⟨h6,h7⟩:=this;refine⟨h6.imp (fun h=>⟨h.1,fun⟨x,y⟩=>?_⟩) (fun h=>by simpa using h),?_⟩
  ·have h8:=h.2
   simp[x,y]at h8
   rcases h8 with h8|h8
   ·exact h8 (by simpa using x)
   ·exact h8 (by simpa using y)
  ·rcases h7 with (h7|h7)|h7
   ·exact .inl (by simpa using h7)
   ·exact .inr (.inl (by simpa using h7))
   ·exact .inr (.inr (by simpa using h7))
theorem R0{ops:List Oper}{x y:Oper}(h:HM ops x y=true):(∀d,x.dst=some d→d∉looks ops y∧y.dst≠some d)∧(∀d,y.dst=some d→d∉looks ops x):=by
 unfold HM at h;simp only[Bool.and_eq_true]at h
 refine⟨fun d hd=>?_,fun d hd=>?_⟩
 ·have:=h.1;rw[hd]at this;simp at this;exact⟨this.1,fun e=>this.2 e⟩
 ·have:=h.2;rw[hd]at this;simpa using this
section
variable {st0:St}{cs:List VU}{listed:Array Bool}{a:Act}{w:World}{done:List Nat}{vals:Nat→Value}{Γ':C8}
theorem AS(p:Nat→Prop):∀k,(∀j,j<k→¬p j)∨∃j,j<k∧p j∧∀i,j<i→i<k→¬p i
 | 0=>.inl fun j h=>by omega
 | k+1=>by
  by_cases hk:p k
  ·exact .inr ⟨k,by omega,hk,fun i h1 h2=>by omega⟩
  ·rcases AS p k with h|⟨j,h1,h2,h3⟩
   ·refine .inl fun j hj=>?_
    by_cases e:j=k
    ·subst e;exact hk
    ·exact h j (by omega)
   ·refine .inr ⟨j,by omega,h2,fun i h4 h5=>?_⟩
    by_cases e:i=k
    ·subst e;exact hk
    ·exact h3 i h4 (by omega)
theorem Jn(hc:r9 V Q 0 V.ops cs st0){ρ:Fr}{t j:Nat}:∀(m:Nat),j+m≤V.ops.length→(∀i,j≤i→i<j+m→∀o,V.ops[i]? = some o→o.dst≠some t)→sat (Gq V.ops cs st0 j) ρ Γ' t→sat (Gq V.ops cs st0 (j+m)) ρ Γ' t
 | 0,_,_,h=>h
 | m+1,hl,hn,h=>by
  have ih:=Jn hc m (by omega) (fun i h1 h2=>hn i h1 (by omega)) h
  have ho:V.ops[j+m]? = some V.ops[j+m]:=List.getElem?_eq_getElem (by omega)
  obtain⟨c,h1,_⟩:=hc.good (j+m) ho
  rw[←Nat.add_assoc,CG ho h1];exact eV (hn (j+m) (by omega) (by omega) _ ho) ih
theorem Inv.sat_at(hc:r9 V Q 0 V.ops cs st0)(hE:st0.E=[])(inv:Inv V st0 cs listed a w done vals Γ'){k t:Nat}(hk:k≤V.ops.length)(h1:∀j,j<k→∀o,V.ops[j]? = some o→o.dst=some t→j∈done)
  (h2:∀j∈done,∀o,V.ops[j]? = some o→o.dst=some t→j<k):sat (Gq V.ops cs st0 k) (E0 a) Γ' t:=by
 rcases AS (fun j=>∃o,V.ops[j]? = some o∧o.dst=some t) k with hn|⟨j,hj,⟨o,ho,hd⟩,hlast⟩
 ·have h0:sat (Gq V.ops cs st0 0) (E0 a) Γ' t:=by
   have:Gq V.ops cs st0 0=st0:=by cases V.ops <;> cases cs <;> rfl
   rw[this];unfold sat;rw[hE];exact inv.init t fun i hi o ho hd=>hn i (h2 i hi o ho hd) ⟨o,ho,hd⟩
  have:=Jn (j:=0) hc k (by omega) (fun i _ hi o ho hd=>hn i (by omega) ⟨o,ho,hd⟩) h0
  simpa using this
 ·have hin:=h1 j hj o ho hd
  obtain⟨c,hcj,hg⟩:=hc.good j ho
  have hval:=inv.last j hin o t ho hd fun i hi o' ho' hd'=>by
   have:=h2 i hi o' ho' hd'
   rcases Nat.lt_or_ge j i with h|h
   ·exact absurd ⟨o',ho',hd'⟩ (hlast i h this)
   ·exact h
  have hs:sat (Gq V.ops cs st0 (j+1)) (E0 a) Γ' t:=by
   rw[CG ho hcj];exact eH hg hd (by rw[hval];exact inv.ep j hin c hcj)
  have:=Jn (j:=j+1) hc (k-(j+1)) (by omega) (fun i h3 h4 o' ho' hd'=>hlast i (by omega) (by omega) ⟨o',ho',hd'⟩) hs
  rwa [show j+1+(k-(j+1))=k from by omega]at this
theorem NB(hc:r9 V Q 0 V.ops cs st0){p:Nat}:∀(m:Nat),p+m≤V.ops.length→(∀j,p≤j→j<p+m→V.muts.contains j=false)→(Gq V.ops cs st0 (p+m)).M=(Gq V.ops cs st0 p).M
 | 0,_,_=>rfl
 | m+1,hl,hn=>by
  have ih:=NB hc m (by omega) (fun i h1 h2=>hn i h1 (by omega))
  have ho:V.ops[p+m]? = some V.ops[p+m]:=List.getElem?_eq_getElem (by omega)
  obtain⟨c,h1,hg⟩:=hc.good (p+m) ho
  rw[←Nat.add_assoc,CG ho h1,←ih];cases hm:c.m with
  | none=>simp[St.next,hm]
  | some M=>
   have:=hg.mt (by simp[hm])
   rw[Nat.zero_add,hn (p+m) (by omega) (by omega)]at this;cases this
theorem H7{f g:Nat→List B6}:∀ {l:List Nat},(∀x∈l,f x=g x)→l.flatMap f=l.flatMap g
 | [],_=>rfl
 | x::l,h=>by
  simp only[List.flatMap_cons]
  rw[h x (by simp),H7 fun y hy=>h y (by simp[hy])]
theorem Inv.step{i:Nat}{QQ:Exit→Act→World→Prop}(hc:r9 V Q 0 V.ops cs st0)(hE:st0.E=[])(hk:BE V.ops V.muts V.prods=true)(hD:V.ops.all (fun o=>G7 V.n o.dst)=true)(inv:Inv V st0 cs listed a w done vals Γ')
  (hr:i∈Region.ready .any V.ops.toArray listed):wpOp V.P V.ops.toArray QQ i (fun a' w'=>∃done' vals' Γ'',Inv V st0 cs (listed.setIfInBounds i true) a' w' done' vals' Γ''∧done'.length=done.length+1) a w∧i∉done:=by
 obtain⟨hun,o,hoa,hall⟩:=mem_ready.1 hr
 have ho:V.ops[i]? = some o:=by simpa using hoa
 have hil:i<V.ops.length:=(List.getElem?_eq_some_iff.1 ho).1
 have hni:i∉done:=fun h=>by rw[(inv.ls i hil).2 h]at hun;cases hun
 refine⟨?_,hni⟩
 obtain⟨c,hci,hg⟩:=hc.good i ho
 rw[Nat.zero_add]at hg;obtain⟨k1,k2,k3,k4⟩:=CV hk ho
 have hedges:∀e∈o.after,Region.binds .any e=true→e.on∈done:=fun e he hb=>by
  have h1:=hall e he hb
  have h2:=k1 e he hb
  have h3:e.on<listed.size:=by rw[inv.lsz];omega
  refine(inv.ls e.on (by omega)).1 ?_
  simp only[Array.getD_eq_getD_getElem?,Array.getElem?_eq_getElem h3,Option.getD_some]at h1 ⊢
  exact h1
 have hcl':Closed V.ops (·∈i::done):=fun j o' e hj ho' he hb=>by
  rcases List.mem_cons.1 hj with rfl|hj
  ·rw[ho]at ho';cases ho';exact List.mem_cons_of_mem _ (hedges e he hb)
  ·exact List.mem_cons_of_mem _ (inv.cl j o' e hj ho' he hb)
 have hanc:∀j,j∈(Gx [] V.ops).getD i []→j∈i::done:=fun j hj=>f8 hcl' V.ops [] (by simp) (by simp) i j hj (by simp)
 have hanc2:∀j k,j∈(Gx [] V.ops).getD k []→k∈done→j∈done:=fun j k hj hk=>f8 inv.cl V.ops [] (by simp) (by simp) k j hj hk
 have hsat:∀t∈looks V.ops o,sat (Gq V.ops cs st0 i) (E0 a) Γ' t:=fun t ht=>inv.sat_at hc hE (Nat.le_of_lt hil) (fun j hj oj hoj hdj=>by
   rcases (k4 j oj hj hoj).1 with h|h
   ·exact absurd ht ((R0 h.1).1 t hdj).1
   ·rcases List.mem_cons.1 (hanc j h) with h|h
    ·omega
    ·exact h) (fun j hj oj hoj hdj=>by
   rcases Nat.lt_or_ge j i with h|h
   ·exact h
   ·rcases Nat.eq_or_lt_of_le h with h|h
    ·subst h;exact absurd hj hni
    ·obtain⟨_,_,_,q4⟩:=CV hk hoj
     rcases (q4 i o h ho).1 with h'|h'
     ·exact absurd ht ((R0 h'.1).2 t hdj)
     ·exact absurd (hanc2 i j h' hj) hni)
 obtain⟨p,hp,hpm,hwd⟩:=inv.wd;have himut:V.muts.contains i=true→(Gq V.ops cs st0 i).M=(Gq V.ops cs st0 p).M:=fun hmi=>by
  have hpi:p≤i:=Nat.le_of_not_lt fun h=>hni ((hpm i hmi hil).2 h)
  have:=NB hc (p:=p) (i-p) (by omega) (fun j h1 h2=>by
   cases hb:V.muts.contains j with
   | false=>rfl
   | true=>
    have hj:V.ops[j]? = some V.ops[j]:=List.getElem?_eq_getElem (by omega)
    rcases (k4 j _ (by omega) hj).1 with h|h
    ·exact absurd ⟨hb,hmi⟩ h.2
    ·rcases List.mem_cons.1 (hanc j h) with h|h
     ·omega
     ·have:=(hpm j hb (by omega)).1 h;omega)
  rwa [show p+(i-p)=i from by omega]at this
 have S3:Wd Γ' (V.K++((match c.m with|some _=>(Gq V.ops cs st0 i).M|none=>[])++(match c.m with|some _=>done.flatMap (fun i=>match cs[i]? with|some c=>c.r (vals i)|none=>[])|none=>(Gq V.ops cs st0 p).M++done.flatMap fun i=>match cs[i]? with|some c=>c.r (vals i)|none=>[]))) w:=by
  cases hm:c.m with
  | none=>simpa using hwd
  | some M=>
   have hmi:=hg.mt (by simp[hm])
   simp only[himut hmi]
   exact hwd
 have hrun:=hg.run Γ' _ w (E0 a) inv.le S3 hsat
 have next:∀v w' Γ'',V.rl Γ' Γ''→c.e v Γ''→Wd Γ'' (V.K++((match c.m with|some M=>M|none=>[])++(c.r v++(match c.m with|some _=>done.flatMap (fun i=>match cs[i]? with|some c=>c.r (vals i)|none=>[])|none=>(Gq V.ops cs st0 p).M++done.flatMap fun i=>match cs[i]? with|some c=>c.r (vals i)|none=>[])))) w' →
   Inv V st0 cs (listed.setIfInBounds i true) (a.put o.dst v) w' (i::done) (fun j=>if j=i then v else vals j) Γ'':=by
  intro v w' Γ'' hle he hwd';have hdn:G7 V.n o.dst=true:=(List.all_eq_true.1 hD) o (List.mem_of_getElem? ho)
  have hput:E0 (a.put o.dst v)=D6 (E0 a) o.dst v:=X5 a _ v (by rw[inv.size];exact K8 hdn)
  have hfm:done.flatMap (fun j=>match cs[j]? with|some c=>c.r (if j=i then v else vals j)|none=>[])=done.flatMap fun i=>match cs[i]? with|some c=>c.r (vals i)|none=>[]:=
   H7 fun j hj=>by
    have:j≠i:=fun e=>hni (e ▸ hj)
    simp[this]
  have hcons:(i::done).flatMap (fun j=>match cs[j]? with|some c=>c.r (if j=i then v else vals j)|none=>[])=c.r v++done.flatMap fun i=>match cs[i]? with|some c=>c.r (vals i)|none=>[]:=by
   rw[List.flatMap_cons,hfm];simp[hci]
  refine⟨(K9 a _ v).trans inv.defers,(size_put a _ v).trans inv.size,by simpa using inv.lsz,List.nodup_cons.2 ⟨hni,inv.nd⟩,?_,?_,hcl',inv.le.trans hle,?_,?_,?_,?_⟩
  ·intro j hj;rcases List.mem_cons.1 hj with rfl|hj
   ·exact hil
   ·exact inv.lt j hj
  ·intro j hj;by_cases hji:j=i
   ·subst hji;simp[inv.lsz,hil]
   ·rw[getD_set_ne true (Ne.symm hji),inv.ls j hj];simp[hji]
  ·intro j hj c' hc';rcases List.mem_cons.1 hj with rfl|hj
   ·rw[hci]at hc';cases hc';simpa using he
   ·have hji:j≠i:=fun e=>hni (e ▸ hj)
    simp only[hji,if_false]
    have hjl:=inv.lt j hj
    have hoj:V.ops[j]? = some V.ops[j]:=List.getElem?_eq_getElem hjl
    obtain⟨c2,hc2,hg2⟩:=hc.good j hoj
    rw[hc']at hc2;cases hc2
    exact hg2.mono _ _ _ hle.le (inv.ep j hj c' hc')
  ·intro t hn;rw[hput];have h1:o.dst≠some t:=hn i (by simp) o ho
   have:D6 (E0 a) o.dst v t=E0 a t:=by
    cases hd:o.dst with
    | none=>rfl
    | some d=>exact upd_ne _ _ (fun e=>h1 (by rw[hd,e]))
   rw[this];exact inv.init t fun j hj=>hn j (List.mem_cons_of_mem _ hj)
  ·intro j hj o' t ho' hd' hmax;rw[hput];rcases List.mem_cons.1 hj with rfl|hj
   ·rw[ho]at ho';cases ho'
    simp only[if_true]
    rw[hd'];exact upd_same _ _ _
   ·have hji:j≠i:=fun e=>hni (e ▸ hj)
    simp only[hji,if_false]
    have h1:o.dst≠some t:=fun e=>by
     have hle':=hmax i (by simp) o ho e
     have hlt:i<j:=by omega
     obtain⟨_,_,_,q4⟩:=CV hk ho'
     rcases (q4 i o hlt ho).1 with h|h
     ·exact((R0 h.1).1 t e).2 hd'
     ·exact hni (hanc2 i j h hj)
    have:D6 (E0 a) o.dst v t=E0 a t:=by
     cases hd:o.dst with
     | none=>rfl
     | some d=>exact upd_ne _ _ (fun e=>h1 (by rw[hd,e]))
    rw[this];exact inv.last j hj o' t ho' hd' fun k hk'=>hmax k (List.mem_cons_of_mem _ hk')
  ·cases hmi:V.muts.contains i with
   | true=>
    refine⟨i+1,by omega,fun j hj hjl=>?_,?_⟩
    ·by_cases hji:j=i
     ·subst hji;simp
     ·simp only[List.mem_cons,hji,false_or]
      rw[hpm j hj hjl];have hpi:p≤i:=Nat.le_of_not_lt fun h=>hni ((hpm i hmi hil).2 h)
      constructor
      ·intro h;omega
      ·intro h;refine(hpm j hj hjl).1 ?_
       have hoj:V.ops[j]? = some V.ops[j]:=List.getElem?_eq_getElem hjl
       rcases (k4 j _ (by omega) hoj).1 with h'|h'
       ·exact absurd ⟨hj,hmi⟩ h'.2
       ·rcases List.mem_cons.1 (hanc j h') with h'|h'
        ·omega
        ·exact h'
    ·rw[hcons,CG ho hci];cases hm:c.m with
     | some M=>simp only[hm]at hwd';simpa[St.next,hm] using hwd'
     | none=>
      simp only[hm,List.nil_append]at hwd'
      simp only[St.next,hm]
      rw[himut hmi];refine hwd'.perm (List.Perm.append_left _ ?_)
      rw[←List.append_assoc,←List.append_assoc];exact(List.perm_append_comm).append_right _
   | false=>
    have hm:c.m=none:=by
     cases hm:c.m with
     | none=>rfl
     | some M=>have:=hg.mt (by simp[hm]);rw[hmi]at this;cases this
    refine⟨p,hp,fun j hj hjl=>?_,?_⟩
    ·have hji:j≠i:=fun e=>by rw[e,hmi]at hj;cases hj
     simp only[List.mem_cons,hji,false_or]
     exact hpm j hj hjl
    ·rw[hcons];simp only[hm,List.nil_append]at hwd'
     refine hwd'.perm (List.Perm.append_left _ ?_)
     rw[←List.append_assoc,←List.append_assoc];exact(List.perm_append_comm).append_right _
 have hwant:Region.wanted o (yielded V.ops.toArray a.tmps)=Y6 V.ops o (E0 a):=by
  unfold Y6;cases hgd:o.guard with
  | none=>simp[Region.wanted,hgd]
  | some q=>
   obtain⟨j,want⟩:=q;obtain⟨dj,hdj⟩:=k3 j want hgd
   have hdn:dj<V.n:=by
    cases hoj:V.ops[j]? with
    | none=>simp[hoj]at hdj
    | some oj=>simp[hoj]at hdj;exact K8 ((List.all_eq_true.1 hD) oj (List.mem_of_getElem? hoj)) dj hdj
   simp only[hdj]
   exact Aa o V.ops.toArray a j want hgd dj (by simpa using hdj) (by rw[inv.size];exact hdn)
 unfold wpOp;simp only[hoa,hwant]
 cases hwt:Y6 V.ops o (E0 a) with
 | true=>
  simp only[if_true]
  exact .inl (Step.wp (hrun.1 hwt) fun v w' ⟨Γ'',h1,h2,h3⟩=>⟨_,_,_,next v w' Γ'' h1 h3 h2,by simp⟩)
 | false=>
  obtain⟨h1,h2,h3⟩:=hrun.2 hwt
  refine⟨_,_,_,next undef w Γ' (Env.rl.refl V _) h1 ?_,by simp⟩
  rw[h2];simpa[h3] using S3
theorem YD(hc:r9 V Q 0 V.ops cs st0)(hR:st0.R=[]){ρ:Fr}(hv:∀i o d c,V.ops[i]? = some o→cs[i]? = some c→c.p=true→o.dst=some d→vals i=ρ d):∀k,k≤V.ops.length →
  (OL (Gq V.ops cs st0 k).R ρ).Perm ((List.range k).flatMap fun i=>match cs[i]? with|some c=>c.r (vals i)|none=>[])
 | 0,_=>by
  have:Gq V.ops cs st0 0=st0:=by cases V.ops <;> cases cs <;> rfl
  rw[this,hR];simp[OL]
 | k+1,hk=>by
  have ih:=YD hc hR hv k (by omega)
  have ho:V.ops[k]? = some V.ops[k]:=List.getElem?_eq_getElem (by omega)
  obtain⟨c,h1,hg⟩:=hc.good k ho
  rw[CG ho h1,List.range_succ,List.flatMap_append];simp only[List.flatMap_cons,List.flatMap_nil,List.append_nil,h1]
  cases hp:c.p with
  | false=>
   rw[hg.np hp,List.append_nil];simpa[St.next,hp] using ih
  | true=>
   obtain⟨d,hd⟩:=Option.isSome_iff_exists.1 (hg.pr hp).2
   simp only[St.next,hp,hd,OL,List.flatMap_cons]
   rw[←hv k _ d c ho h1 hp hd];exact(List.perm_append_comm).trans (List.Perm.append_right _ ih)
theorem Inv.fin(hc:r9 V Q 0 V.ops cs st0)(hE:st0.E=[])(hR:st0.R=[])(hk:BE V.ops V.muts V.prods=true)(inv:Inv V st0 cs listed a w done vals Γ')(hall:∀i,i<V.ops.length→i∈done):Q (E0 a) w:=by
 have hfin:=hc.final
 obtain⟨p,hp,hpm,hwd⟩:=inv.wd;refine hfin Γ' w (E0 a) inv.le (fun t=>inv.sat_at hc hE (Nat.le_refl _) (fun j hj _ _ _=>hall j hj) (fun j hj _ _ _=>inv.lt j hj)) ?_
 have hM:(Gq V.ops cs st0 V.ops.length).M=(Gq V.ops cs st0 p).M:=by
  have:=NB hc (p:=p) (V.ops.length-p) (by omega) (fun j h1 h2=>by
   cases hb:V.muts.contains j with
   | false=>rfl
   | true=>have:=(hpm j hb (by omega)).1 (hall j (by omega));omega)
  rwa [show p+(V.ops.length-p)=V.ops.length from by omega]at this
 rw[hM];have hperm:done.Perm (List.range V.ops.length):=(List.perm_ext_iff_of_nodup inv.nd List.nodup_range).2 fun x=>by
  rw[List.mem_range];exact⟨inv.lt x,hall x⟩
 have hv:∀i o d c,V.ops[i]? = some o→cs[i]? = some c→c.p=true→o.dst=some d→vals i=E0 a d:=fun i o d c ho hci hpp hd=>by
  have hil:i<V.ops.length:=(List.getElem?_eq_some_iff.1 ho).1
  refine(inv.last i (hall i hil) o d ho hd fun j hj o' ho' hd'=>?_).symm
  rcases Nat.lt_or_ge i j with h|h
  ·obtain⟨_,_,_,q4⟩:=CV hk ho'
   obtain⟨c2,hc2,hg⟩:=hc.good i ho
   rw[hci]at hc2;cases hc2
   rw[Nat.zero_add]at hg;rcases (q4 i o h ho).2 with h'|h'|h'
   ·rw[hd]at h';cases h'
   ·exact absurd (hd.trans hd'.symm) h'
   ·rw[(hg.pr hpp).1]at h';cases h'
  ·exact h
 refine hwd.perm (List.Perm.append_left _ (List.Perm.append_left _ ?_))
 exact(List.Perm.flatMap_right _ hperm).trans (YD hc hR hv _ (Nat.le_refl _)).symm
theorem HU(hk:BE V.ops V.muts V.prods=true)(inv:Inv V st0 cs listed a w done vals Γ')(h:Region.ready .any V.ops.toArray listed=[]):∀i,i<V.ops.length→i∈done:=by
 intro i;induction i using Nat.strongRecOn with
 | _ i ih=>
  intro hi;refine Classical.byContradiction fun hn=>?_
  have hmem:i∈Region.ready .any V.ops.toArray listed:=mem_ready.2 ⟨?_,V.ops[i],by simp[hi],fun e he hb=>?_⟩
  ·rw[h]at hmem;cases hmem
  ·cases hb:listed.getD i true with
   | false=>rfl
   | true=>exact absurd ((inv.ls i hi).1 hb) hn
  ·have h1:=(CV hk (List.getElem?_eq_getElem hi)).1 e he hb
   have h2:=(inv.ls e.on (by omega)).2 (ih e.on h1 (by omega))
   have h3:e.on<listed.size:=by rw[inv.lsz];omega
   simp only[Array.getD_eq_getD_getElem?,Array.getElem?_eq_getElem h3,Option.getD_some]at h2 ⊢
   exact h2
theorem nodup_le:∀(m:Nat) (l:List Nat),l.Nodup→(∀x∈l,x<m)→l.length≤m
 | 0,l,_,h=>by
  cases l with
  | nil=>simp
  | cons x l=>have:=h x (by simp);omega
 | m+1,l,hn,h=>by
  have h1:=nodup_le m (l.erase m) (hn.erase m) (fun x hx=>by
   have h2:=h x (List.mem_of_mem_erase hx)
   have h3:x≠m:=fun e=>by subst e;exact absurd hx (hn.not_mem_erase)
   omega)
  by_cases hm:m∈l
  ·have:=List.length_erase_of_mem hm;omega
  ·rw[List.erase_of_not_mem hm]at h1;omega
theorem Inv.any{QQ:Exit→Fr→World→Prop}(hc:r9 V (fun ρ w=>QQ .normal ρ w) 0 V.ops cs st0)(hE:st0.E=[])(hR:st0.R=[])(hk:BE V.ops V.muts V.prods=true)(hD:V.ops.all (fun o=>G7 V.n o.dst)=true) :
  ∀(fuel:Nat) (listed:Array Bool) (a:Act) (w:World) (done:List Nat) (vals:Nat→Value) (Γ':C8),Inv V st0 cs listed a w done vals Γ'→fuel+done.length=V.ops.length→wpAny V.P .any V.ops.toArray (lift V.n QQ) fuel listed a w
 | 0,listed,a,w,done,vals,Γ',inv,hf=>by
  have hall:∀i,i<V.ops.length→i∈done:=by
   intro i hi;refine Classical.byContradiction fun hn=>?_
   have:=nodup_le V.ops.length (i::done) (List.nodup_cons.2 ⟨hn,inv.nd⟩) (fun x hx=>by
    rcases List.mem_cons.1 hx with rfl|hx
    ·exact hi
    ·exact inv.lt x hx)
   simp at this;omega
  refine⟨?_,inv.defers,inv.size,inv.fin hc hE hR hk hall⟩
  refine List.eq_nil_iff_forall_not_mem.2 fun i hi=>?_
  obtain⟨hun,o,ho,_⟩:=mem_ready.1 hi
  have hil:i<V.ops.length:=by have:=(Array.getElem?_eq_some_iff.1 ho).1;simpa using this
  rw[(inv.ls i hil).2 (hall i hil)]at hun;cases hun
 | fuel+1,listed,a,w,done,vals,Γ',inv,hf=>by
  refine⟨fun h=>⟨inv.defers,inv.size,inv.fin hc hE hR hk (HU hk inv h)⟩,fun i hi=>?_⟩
  refine wpOp_mono ?_ (inv.step hc hE hk hD hi).1
  rintro a' w' ⟨done',vals',Γ'',inv',hl⟩
  exact Inv.any hc hE hR hk hD fuel _ a' w' done' vals' Γ'' inv' (by omega)
end
end
theorem eU{P:Program}{n id:Nat}{l:List Oper}{Q:Exit→Fr→World→Prop}{ρ:Fr}{w:World}{Γ:C8}{K M:List B6}(muts prods:List Nat)(fixed:Bool)(hm:P.follows .mixedOrders=true)(hw:Wd Γ (K++M) w)
  (hk:BE l muts prods=true) (hD:l.all (fun o=>G7 n o.dst)=true) (h:Sw ⟨P,n,l,Γ,K,muts,prods,fixed⟩ (fun ρ w=>Q .normal ρ w) 0 l ⟨ρ,[],M,[]⟩):W P n (.region id l.toArray true) Q ρ w:=by
 unfold W;intro a hda hs hf;refine wp_region_any hm ?_
 obtain⟨cs,hc⟩:=h.chain;have inv:Inv ⟨P,n,l,Γ,K,muts,prods,fixed⟩ ⟨ρ,[],M,[]⟩ cs (Array.replicate l.toArray.size false) a { w with drawn:=w.drawn+1 } [] (fun _=>undef) Γ:=by
  refine⟨hda,hs,by simp,by simp,by simp,fun i hi=>?_,fun _ _ _ h=>by simp at h,Env.rl.refl _ _,by simp,fun t _=>by rw[hf],by simp,0,Nat.zero_le _,by simp,?_⟩
  ·have:i<l.length:=hi
   simp[this]
  ·have:Gq l cs ⟨ρ,[],M,[]⟩ 0=⟨ρ,[],M,[]⟩:=by cases l <;> cases cs <;> rfl
   simp only[this]
   simpa using hw.drawn
 exact Inv.any hc rfl rfl hk hD _ _ a _ [] _ Γ inv (by simp)
abbrev qV(P:Program)(n:Nat)(ops:List Oper)(Γ:C8)(S:List B6):Env:=⟨P,n,ops,Γ,S,[],[],true⟩
def Qw(P:Program)(n:Nat)(ops:List Oper)(Γ:C8)(S:List B6)(Q:Fr→World→Prop)(l:List Oper)(ρ:Fr):Prop:=
 ∀i,Sw (qV P n ops Γ S) Q i l ⟨ρ,[],[],[]⟩
def Ie(n:Nat)(l:List Oper):Bool:=BE l [] []&&l.all fun o=>G7 n o.dst
section
variable {P:Program}{n:Nat}{ops:List Oper}{Γ:C8}{S:List B6}{Q:Fr→World→Prop}{ρ:Fr}{w:World}{rest:List Oper}{o:Oper}
theorem G9{id:Nat}{l:List Oper}{QQ:Exit→Fr→World→Prop}(hm:P.follows .mixedOrders=true)(hk:Ie n l=true)(hw:Wd Γ S w)(h:Qw P n l Γ S (fun ρ w=>QQ .normal ρ w) l ρ) :
  W P n (.region id l.toArray true) QQ ρ w:=by
 simp only[Ie,Bool.and_eq_true]at hk
 exact eU (K:=S) (M:=[]) [] [] true hm (by simpa using hw) hk.1 hk.2 (h 0)
theorem Bs(h:∀w,Wd Γ S w→Q ρ w):Qw P n ops Γ S Q [] ρ:=fun i=>by
 intro Γ' w ρ' hΓ hs hw;have hΓ':Γ'=Γ:=hΓ
 subst hΓ';have:ρ'=ρ:=funext fun t=>by have:=hs t;unfold sat at this;simpa using this
 subst this;exact h w (by simpa[OL] using hw)
theorem Wd.left{S':List B6}(h:Wd Γ (S++S') w):Wd Γ S w:=by
 obtain⟨bss,h1,h2,h3⟩:=h.own;obtain⟨a,b,rfl,g1,_⟩:=Holds.split S S' bss h1
 simp only[List.flatten_append,List.nodup_append]at h2
 exact⟨h.os,h.tape,h.out,h.dr,h.imm,a,g1,h2.1,fun x hx=>h3 x (by simp at hx ⊢;exact .inl hx)⟩
theorem Qw.cons{v:Value}(hn:∀Y w,Wd Γ (S++Y) w→∀ρ',(∀t∈looks ops o,ρ' t=ρ t)→(Y6 ops o ρ'=true→Step P o ρ' w fun u w'=>u=v∧Wd Γ (S++Y) w')∧(Y6 ops o ρ'=false→v=undef))(h:Qw P n ops Γ S Q rest (D6 ρ o.dst v)) :
  Qw P n ops Γ S Q (o::rest) ρ:=fun i=>by
 refine⟨⟨fun u _=>u=v,fun _=>[],none,some v,false⟩,⟨fun _ _ _ _ h=>h,fun u X _ hX hu=>(by cases hX;exact hu),fun h=>(by cases h),fun _ _=>rfl,fun h=>(by cases h),?_⟩,?_⟩
 ·intro Γ' Y w ρ' hΓ hw hs;have hΓ':Γ'=Γ:=hΓ
  subst hΓ';have hs':∀t∈looks ops o,ρ' t=ρ t:=fun t ht=>by have:=hs t ht;unfold sat at this;simpa using this
  obtain⟨h1,h2⟩:=hn Y w (by simpa using hw) ρ' hs'
  refine⟨fun hwt=>(h1 hwt).mono fun u w' ⟨hu,hw'⟩=>⟨Γ',rfl,by simpa using hw',hu⟩,fun hwt=>⟨(h2 hwt).symm,rfl,rfl⟩⟩
 ·have:St.next ⟨ρ,[],[],[]⟩ o ⟨fun u _=>u=v,fun _=>[],none,some v,false⟩=⟨D6 ρ o.dst v,[],[],[]⟩:=by
   cases hd:o.dst <;> simp[St.next,hd,IH]
  rw[this];exact h (i+1)
def AJ(o:Oper):Bool:=match o.op with|.select _ _=>false|_=>true
theorem cP{ρ ρ':Fr}(hs:∀t∈looks ops o,ρ' t=ρ t):∀x∈o.op.operands,ev ρ' x=ev ρ x:=fun x hx=>by
 cases x with
 | tmp t=>exact hs t (List.mem_append_left _ (List.mem_filterMap.2 ⟨.tmp t,by simpa using hx,rfl⟩))
 | _=>rfl
theorem Step.congr{ρ':Fr}{K:Value→World→Prop}(hsel:AJ o=true)(hs:∀t∈looks ops o,ρ' t=ρ t)(h:Step P o ρ w K):Step P o ρ' w K:=by
 have:=execOp_congr o (fun cs b e=>by simp[AJ,e]at hsel) (cP hs)
 unfold Step at *
 rw[this];exact h
theorem g7{ρ:Fr}(hg:o.guard=none):Y6 ops o ρ=true:=by simp[Y6,hg]
theorem fA{v:Value}(hg:o.guard=none)(hsel:AJ o=true)(hy:∀Y w,Wd Γ (S++Y) w→Step P o ρ w fun u w'=>u=v∧Wd Γ (S++Y) w')(h:Qw P n ops Γ S Q rest (D6 ρ o.dst v)):Qw P n ops Γ S Q (o::rest) ρ:=
 Qw.cons (fun Y w hw ρ' hs=>⟨fun _=>(hy Y w hw).congr hsel hs,fun hf=>by rw[g7 hg]at hf;cases hf⟩) h
theorem Q_y{v:Value}(hg:o.guard=none)(hsel:AJ o=true)(hy:∀w,Wd Γ S w→Yields P o ρ w v)(h:Qw P n ops Γ S Q rest (D6 ρ o.dst v)):Qw P n ops Γ S Q (o::rest) ρ:=
 fA hg hsel (fun _ _ hw=>(hy _ hw.left).step ⟨rfl,hw⟩) h
theorem bQ{j dj:Nat}{want c:Bool}{v:Value}(hg:o.guard=some (j,want))(hj:(ops[j]?).bind (·.dst)=some dj)(hc:F5 (ρ dj) want c)(hsel:AJ o=true)
  (hy:c=true→∀Y w,Wd Γ (S++Y) w→Step P o ρ w fun u w'=>u=v∧Wd Γ (S++Y) w') (h:Qw P n ops Γ S Q rest (D6 ρ o.dst (gv c v))):Qw P n ops Γ S Q (o::rest) ρ:=by
 refine Qw.cons (v:=gv c v) (fun Y w hw ρ' hs=>?_) h
 have hdj:ρ' dj=ρ dj:=hs dj (List.mem_append_right _ (by simp only[hg];simpa using hj))
 have hwt:Y6 ops o ρ'=c:=by
  have h2:(Hw (ρ dj) == some want)=c:=by have:=hc;unfold F5 at this;exact this
  simp only[Y6,hg,hj,hdj]
  exact h2
 rw[hwt];refine⟨fun hct=>?_,fun hcf=>?_⟩
 ·exact((hy hct Y w hw).congr hsel hs).mono fun u w' ⟨hu,hw'⟩=>⟨by rw[hu,hct];unfold gv;rfl,hw'⟩
 ·rw[hcf];unfold gv;rfl
theorem fx{j dj:Nat}{want c:Bool}{v:Value}(hg:o.guard=some (j,want))(hj:(ops[j]?).bind (·.dst)=some dj)(hc:F5 (ρ dj) want c)(hsel:AJ o=true)
  (hy:c=true→∀w,Wd Γ S w→Yields P o ρ w v) (h:Qw P n ops Γ S Q rest (D6 ρ o.dst (gv c v))):Qw P n ops Γ S Q (o::rest) ρ:=
 bQ hg hj hc hsel (fun hct _ _ hw=>(hy hct _ hw.left).step ⟨rfl,hw⟩) h
variable {d:Option Tmp}{T U ty:TypeId}{pos:String}{es:Array Edge}{g:Option (Nat×Bool)}{x y z:Operand}
theorem ce{op:BinOp}{v:Value}(h:Yields P ⟨d,.binOp op T x y U,ty,pos,es,g⟩ ρ w v):Yields P ⟨d,.binOp op T x y U,ty,pos,es,g⟩ ρ w v:=h
theorem cy{v:Value}(h:Yields P ⟨d,.indexAddr T x y,ty,pos,es,g⟩ ρ w v):Yields P ⟨d,.indexAddr T x y,ty,pos,es,g⟩ ρ w v:=h
theorem ZK{bi:Builtin}{as:Array Operand}{ts:Array TypeId}{v:Value}(h:Yields P ⟨d,.call { callee:=.builtin bi,args:=as,argTypes:=ts },ty,pos,es,g⟩ ρ w v):Yields P ⟨d,.call { callee:=.builtin bi,args:=as,argTypes:=ts },ty,pos,es,g⟩ ρ w v:=h
theorem X7(op:BinOp){v:Value}(h:Yields P ⟨d,.binOp op T x y U,ty,pos,es,g⟩ ρ w v):Yields P ⟨d,.binOp op T x y U,ty,pos,es,g⟩ ρ w v:=h
theorem TH[TS P T]{v:Value}(h:Yields P ⟨d,.load T x,ty,pos,es,g⟩ ρ w v):Yields P ⟨d,.load T x,ty,pos,es,g⟩ ρ w v:=h
theorem Sy{k:Nat}[TA P T k]{v:Value}(h:Yields P ⟨d,.load T x,ty,pos,es,g⟩ ρ w v):Yields P ⟨d,.load T x,ty,pos,es,g⟩ ρ w v:=h
theorem Yb{v:Value}(h:Yields P ⟨d,.move x,ty,pos,es,g⟩ ρ w v):Yields P ⟨d,.move x,ty,pos,es,g⟩ ρ w v:=h
theorem Nh{v:Value}(h:Yields P ⟨d,.assign x,ty,pos,es,g⟩ ρ w v):Yields P ⟨d,.assign x,ty,pos,es,g⟩ ρ w v:=h
theorem PI{ok:Bool}{v:Value}(h:Yields P ⟨d,.lookup T x y ok,ty,pos,es,g⟩ ρ w v):Yields P ⟨d,.lookup T x y ok,ty,pos,es,g⟩ ρ w v:=h
theorem Sl{l h' mx:Option Operand}{v:Value}(h:Yields P ⟨d,.slice T x l h' mx,ty,pos,es,g⟩ ρ w v):Yields P ⟨d,.slice T x l h' mx,ty,pos,es,g⟩ ρ w v:=h
theorem Yr{v:Value}(h:Yields P ⟨d,.pick x y z,ty,pos,es,g⟩ ρ w v):Yields P ⟨d,.pick x y z,ty,pos,es,g⟩ ρ w v:=h
theorem cx{v:Value}(h:Yields P ⟨d,.unOp .not T x,ty,pos,es,g⟩ ρ w v):Yields P ⟨d,.unOp .not T x,ty,pos,es,g⟩ ρ w v:=h
theorem Wr{v:Value}(h:Yields P ⟨d,.convert T U x,ty,pos,es,g⟩ ρ w v):Yields P ⟨d,.convert T U x,ty,pos,es,g⟩ ρ w v:=h
theorem dH{v:Value}(h:Yields P ⟨d,.unOp .neg T x,ty,pos,es,g⟩ ρ w v):Yields P ⟨d,.unOp .neg T x,ty,pos,es,g⟩ ρ w v:=h
theorem UJ{f:Nat}{v:Value}(h:Yields P ⟨d,.fieldAddr T x f,ty,pos,es,g⟩ ρ w v):Yields P ⟨d,.fieldAddr T x f,ty,pos,es,g⟩ ρ w v:=h
theorem Lt{i:Nat}{v:Value}(h:Yields P ⟨d,.extract x i,ty,pos,es,g⟩ ρ w v):Yields P ⟨d,.extract x i,ty,pos,es,g⟩ ρ w v:=h
theorem cd{v:Value}(h:Yields P ⟨d,.nilCheck x,ty,pos,es,g⟩ ρ w v):Yields P ⟨d,.nilCheck x,ty,pos,es,g⟩ ρ w v:=h
theorem Ts{ps:Array (Nat×Operand)}{v:Value}(h:Yields P ⟨d,.build T ps,ty,pos,es,g⟩ ρ w v):Yields P ⟨d,.build T ps,ty,pos,es,g⟩ ρ w v:=h
theorem Tp{v:Value}(h:Yields P ⟨d,.index T x y,ty,pos,es,g⟩ ρ w v):Yields P ⟨d,.index T x y,ty,pos,es,g⟩ ρ w v:=h
theorem AN{n:Nat}{opa:Array Oper}{QQ:Exit→Fr→World→Prop}{rest:List Oper}{op:Op}(h:L P n opa QQ (⟨d,op,ty,pos,es,none⟩::rest) ρ w):L P n opa QQ (⟨d,op,ty,pos,es,none⟩::rest) ρ w:=h
theorem V2{n:Nat}{opa:Array Oper}{QQ:Exit→Fr→World→Prop}{rest:List Oper}{op:Op}{q:Nat×Bool}(h:L P n opa QQ (⟨d,op,ty,pos,es,some q⟩::rest) ρ w):L P n opa QQ (⟨d,op,ty,pos,es,some q⟩::rest) ρ w:=h
theorem Dd{n:Nat}{opa:Array Oper}{QQ:Exit→Fr→World→Prop}{rest:List Oper}{f:Nat}{as:Array Operand}{ts:Array TypeId}(h:L P n opa QQ (⟨d,.call { callee:=.value (.func f),args:=as,argTypes:=ts },ty,pos,es,g⟩::rest) ρ w):L P n opa QQ (⟨d,.call { callee:=.value (.func f),args:=as,argTypes:=ts },ty,pos,es,g⟩::rest) ρ w:=h
theorem OE{n:Nat}{opa:Array Oper}{QQ:Exit→Fr→World→Prop}{rest:List Oper}{f:Fn}{as cs:Array Operand}(h:L P n opa QQ (⟨d,.makeFunc f as cs,ty,pos,es,g⟩::rest) ρ w):L P n opa QQ (⟨d,.makeFunc f as cs,ty,pos,es,g⟩::rest) ρ w:=h
theorem U3{n:Nat}{ops:List Oper}{Q:Fr→World→Prop}{rest:List Oper}{op:Op}(h:Qw P n ops Γ S Q (⟨d,op,ty,pos,es,none⟩::rest) ρ):Qw P n ops Γ S Q (⟨d,op,ty,pos,es,none⟩::rest) ρ:=h
theorem M9{n:Nat}{ops:List Oper}{Q:Fr→World→Prop}{rest:List Oper}{op:Op}{q:Nat×Bool}(h:Qw P n ops Γ S Q (⟨d,op,ty,pos,es,some q⟩::rest) ρ):Qw P n ops Γ S Q (⟨d,op,ty,pos,es,some q⟩::rest) ρ:=h
theorem i9{n:Nat}{ops:List Oper}{Q:Fr→World→Prop}{rest:List Oper}{f:Nat}{as:Array Operand}{ts:Array TypeId}(h:Qw P n ops Γ S Q (⟨d,.call { callee:=.value (.func f),args:=as,argTypes:=ts },ty,pos,es,g⟩::rest) ρ):Qw P n ops Γ S Q (⟨d,.call { callee:=.value (.func f),args:=as,argTypes:=ts },ty,pos,es,g⟩::rest) ρ:=h
theorem Xb[h:En P T]{s:ByteArray}(hx:ev ρ x=.string s):Yields P ⟨d,.call { callee:=.builtin .len,args:=#[x],argTypes:=#[T] },ty,pos,es,g⟩ ρ w (.int .i64 s.size):=dq hx h.h
theorem Ys{E sz by':Nat}{zs:List Value}[h:TL P T E sz by' zs]{a:Option Addr}{m c:Nat}(hx:ev ρ x=.slice a m c):Yields P ⟨d,.call { callee:=.builtin .len,args:=#[x],argTypes:=#[T] },ty,pos,es,g⟩ ρ w (.int .i64 m):=bf hx h.h
theorem JM[h:En P T]{s:ByteArray}{i:Int}{k:IntKind}(hx:ev ρ x=.string s)(hy:ev ρ y=.int k i)(h0:0≤i)(h1:i<s.size):Yields P ⟨d,.index T x y,ty,pos,es,g⟩ ρ w (.int .u8 (s.data.toList.getD i.toNat 0).toNat):=aV h.h hx hy h0 h1
theorem M7{i b k:Nat}{v:Value}{cs:Array Value}{E:TypeId}{fr:Nat×Nat}[TS P T](hw:Wd Γ S w)(hx:ev ρ x=.pointer (some ⟨b,k,none⟩))(hi:S[i]? = some (.blk b (.cells cs E fr)))(hv:cs[k]? = some v) :
  Yields P ⟨d,.load T x,ty,pos,es,g⟩ ρ w v:=Gl hx (cell_of (hw.at_blk hi) hv)
theorem Au{i b m:Nat}{cs:Array Value}{E:TypeId}{fr:Nat×Nat}[TA P T m](hw:Wd Γ S w)(hx:ev ρ x=.pointer (some ⟨b,0,none⟩))(hi:S[i]? = some (.blk b (.cells cs E fr)))(hm:cs.size=m) :
  Yields P ⟨d,.load T x,ty,pos,es,g⟩ ρ w (.agg cs):=by
 have h:=Ih (P:=P) (w:=w) (T:=T) (d:=d) (ty:=ty) (pos:=pos) (es:=es) (g:=g) (cs:=cs.toList) hx (by simpa using hm) (by have:=JX (o:=0) (n:=cs.size) (hw.at_blk hi);simpa using this)
 simpa using h
theorem BO{i b k m:Nat}{cs:Array Value}{vs:List Value}{E:TypeId}{fr:Nat×Nat}[TA P T m](hw:Wd Γ S w)(hx:ev ρ x=.pointer (some ⟨b,k,none⟩))(hi:S[i]? = some (.blk b (.cells cs E fr)))(hm:(cs.toList.drop k).take m=vs)(hl:vs.length=m) :
  Yields P ⟨d,.load T x,ty,pos,es,g⟩ ρ w (.agg vs.toArray):=by
 refine Ih hx hl ?_
 have:=JX (o:=k) (n:=m) (hw.at_blk hi)
 have he:(cs.extract k (k+m)).toList=vs:=by rw[←hm];simp
 rwa [he]at this
theorem SC{E sz by':Nat}{zs:List Value}{a:Option Addr}{m c:Nat}{k:IntKind}{i:Int}{rows:List (List Value)}[hT:TL P T E sz by' zs](hw:Wd Γ S w)(hr:D7 Γ (.slice a m c) sz rows)(hx:ev ρ x=.slice a m c)(hy:ev ρ y=.int k i)(h0:0≤i)(h1:i<m) :
  Yields P ⟨d,.indexAddr T x y,ty,pos,es,g⟩ ρ w (.pointer (some ⟨aB a,aO a+i.toNat*sz,none⟩)):=by
 refine Dk hx hy h0 h1 ((hr.rd hw).at_ ?_)
 obtain⟨_,_,_,e1,e2,_⟩:=hr.shape;cases e1;omega
theorem Dj{E sz by' j:Nat}{e:Nat}{zs:List Value}{a:Option Addr}{m c:Nat}{k:IntKind}{i:Int}{rows:List (List Value)}[hT:TL P T E sz by' zs](hw:Wd Γ S w)(hr:S[j]? = some (.own (.slice a m c) e sz rows))(hx:ev ρ x=.slice a m c)(hy:ev ρ y=.int k i)(h0:0≤i)(h1:i<m) :
  Yields P ⟨d,.indexAddr T x y,ty,pos,es,g⟩ ρ w (.pointer (some ⟨aB a,aO a+i.toNat*sz,none⟩)):=by
 refine Dk hx hy h0 h1 ((hw.own_rd hr).at_ ?_)
 obtain⟨_,_,_,e1,e2,_⟩:=hw.own_shape hr
 cases e1;omega
end
def cw:IntKind→Nat
 | .i8=>2|.i16=>3|.i32=>4|.i64=>5|.u8=>6|.u16=>7|.u32=>8|.u64=>9
def KU:Value→Option Nat
 | .bool _=>some 0
 | .string _=>some 1
 | .int k _=>some (cw k)
 | _=>none
def kT:TypeDesc→Option Nat
 | .bool=>some 0
 | .string=>some 1
 | .int k=>some (cw k)
 | _=>none
def Ur(P:Program)(f:TypeId→Option (List Nat)):List Field→Nat→Option (List Nat)
 | [],_=>some []
 | x::xs,o=>if x.name = "_" then none else if x.offset≠o then none else
  match f x.type,(P.info? x.type).map (·.size),Ur P f xs (o+((P.info? x.type).map (·.size)).getD 0) with
  | some ks,some n,some rest=>if ks.length=n then some (ks++rest) else none
  | _,_,_=>none
def YZ(P:Program):Nat→TypeId→Option (List Nat)
 | 0,_=>none
 | d+1,t=>match P.underlying t with
  | some (.struct fs)=>if P.stoodInHeld t then none else Ur P (YZ P d) fs.toList 0
  | some u=>match kT u with
   | some k=>if ((P.info? t).map (·.size))=some 1 then some [k] else none
   | none=>none
  | none=>none
class gA(P:Program)(T:TypeId)(ks:outParam (List Nat)):Prop where
 h:YZ P 5 T=some ks
 g:P.eqGuardType P.depth T=false
 s:(match P.underlying T with|some (.struct _)=>true|_=>false)=true
attribute [irreducible] Qw
end Mk
end
section
open Go
namespace Mk
def Xd(P:Program)(t:TypeId)(xs:List Value):Value:=match P.underlying t with
 | some (.struct _)=>.agg xs.toArray
 | _=>xs.headD undef
section
variable {P:Program}{w:World}
open Classical in
theorem OU{d D : Nat}(ih : ∀ t ks, YZ P d t = some ks → ∀ xs ys : List Value, xs.map KU = ks.map some → ys.map KU = ks.map some → (Op.equalIn D t (Xd P t xs) (Xd P t ys)).run P w = .ok (decide (xs = ys)) w)
    (XS YS:Array Value):∀(fs:List Field) (o:Nat) (ks:List Nat),Ur P (YZ P d) fs o=some ks→(XS.toList.drop o).map KU=ks.map some→(YS.toList.drop o).map KU=ks.map some →
    (Op.eqFields D XS YS fs).run P w=.ok (decide (XS.toList.drop o=YS.toList.drop o)) w
  | [],o,ks,h,hx,hy=>by
    simp[Ur]at h;subst h
    simp only[List.map_nil,List.map_eq_nil_iff]at hx hy
    simp[Op.eqFields,hx,hy]
  | f::fs,o,ks,h,hx,hy=>by
    unfold Ur at h;split at h
    · cases h
    · rename_i hname
      split at h
      · cases h
      · rename_i hoff
        have hoff':f.offset=o:=Classical.byContradiction fun e=>hoff e
        cases hk:YZ P d f.type with
        | none=>simp[hk]at h
        | some k1=>
          cases hi:P.info? f.type with
          | none=>simp[hi,hk]at h
          | some q=>
            simp only[hi,Option.map_some,Option.getD_some,hk]at h
            cases hr:Ur P (YZ P d) fs (o+q.size) with
            | none=>simp[hr]at h
            | some rest=>
              simp only[hr]at h
              split at h
              · rename_i hlen
                simp at h;subst h
                have split_:∀ZS:Array Value,(ZS.toList.drop o).map KU=(k1++rest).map some→((ZS.toList.drop o).take q.size).map KU=k1.map some∧(ZS.toList.drop (o+q.size)).map KU=rest.map some∧ZS.toList.drop o=(ZS.toList.drop o).take q.size++ZS.toList.drop (o+q.size):=fun ZS hz=>by
                  rw[List.map_append]at hz;have h1:(ZS.toList.drop o)=(ZS.toList.drop o).take q.size++ZS.toList.drop (o+q.size):=by rw[←List.drop_drop,List.take_append_drop]
                  rw[h1,List.map_append]at hz;have hl:(((ZS.toList.drop o).take q.size).map KU).length=(k1.map some).length:=by
                    have hz':=congrArg List.length hz
                    simp only[List.length_append,List.length_map,List.length_take,List.length_drop]at hz' ⊢
                    omega
                  obtain⟨p1,p2⟩:=List.append_inj hz hl
                  exact⟨p1,p2,h1⟩
                obtain⟨x1,x2,x3⟩:=split_ XS hx
                obtain⟨y1,y2,y3⟩:=split_ YS hy
                have hpart:∀ZS:Array Value,((ZS.toList.drop o).take q.size).map KU=k1.map some→(part f.type ZS f.offset).run P w=.ok (Xd P f.type ((ZS.toList.drop o).take q.size)) w:=fun ZS hz=>by
                  subst hoff';cases d with
                  | zero=>simp[YZ]at hk
                  | succ d=>
                    unfold YZ at hk;cases hu:P.underlying f.type with
                    | none=>simp[hu]at hk
                    | some u=>
                      have hagg:(isAgg f.type).run P w=.ok (match u with|.struct _|.array _ _=>true|_=>false) w:=by
                        unfold isAgg;rw[Sem.run_bind,run_underlying hu w];cases u <;> simp
                      unfold part;rw[Sem.run_bind,hagg];cases u with
                      | struct fs'=>
                        have hz2:(Go.sizeOf f.type).run P w=.ok q.size w:=by simp[Go.sizeOf,typeInfo,hi]
                        simp only[Xd,hu,Sem.run_bind,hz2,if_true,Result.andThen_ok,Sem.run_pure]
                        congr 2
                        exact Array.toList_inj.1 (by simp)
                      | _=>
                        simp only[hu]at hk
                        split at hk
                        · rename_i k hkk
                          split at hk
                          · rename_i hsz
                            simp[hi]at hsz
                            simp at hk
                            first
                              | (simp[kT]at hkk;done)
                              | (subst hk
                                 have hex:∃v rest',ZS.toList.drop f.offset=v::rest':=by
                                   cases hzd:ZS.toList.drop f.offset with
                                   | nil=>rw[hzd]at hz;simp at hz
                                   | cons v rest'=>exact⟨v,rest',rfl⟩
                                 obtain⟨v,rest',hv⟩:=hex;have hget:ZS[f.offset]? = some v:=by
                                   have:(ZS.toList.drop f.offset)[0]? = some v:=by rw[hv];rfl
                                   simpa using this
                                 simp[Xd,hu,hget,hsz,hv])
                          · cases hk
                        · cases hk
                have hnm:f.name ≠ "_" :=hname
                have hA:=hpart XS x1
                have hB:=hpart YS y1
                have hE:=ih f.type k1 hk _ _ x1 y1
                have hR:=OU ih XS YS fs (o+q.size) rest hr x2 y2
                simp only[Op.eqFields,ne_eq,hnm,not_false_eq_true,if_true,Sem.run_bind,hA,hB,hE,Result.andThen_ok]
                by_cases he:(XS.toList.drop o).take q.size=(YS.toList.drop o).take q.size
                · simp only[he,decide_true,Bool.not_true,Bool.false_eq_true,if_false,hR]
                  congr 1
                  rw[decide_eq_decide,x3,y3,he];exact⟨fun h=>by rw[h],fun h=>List.append_cancel_left h⟩
                · have hne:¬XS.toList.drop o=YS.toList.drop o:=fun h=>he (by rw[h])
                  simp[he,hne]
              · cases h
theorem ay{a b:IntKind}(h:cw a=cw b):a=b:=by cases a <;> cases b <;> simp[cw]at h <;> rfl
theorem Ri(a:IntKind):2≤cw a:=by cases a <;> simp[cw]
theorem fT{x:Value}(h:KU x=some 0):∃b,x=.bool b:=by
 cases x <;> simp[KU]at h
 ·exact⟨_,rfl⟩
 ·rename_i k _;have:=Ri k;omega
theorem fq{x:Value}(h:KU x=some 1):∃b,x=.string b:=by
 cases x <;> simp[KU]at h
 ·rename_i k _;have:=Ri k;omega
 ·exact⟨_,rfl⟩
theorem fZ{x:Value}{k:IntKind}(h:KU x=some (cw k)):∃n,x=.int k n:=by
 have h2:=Ri k
 cases x <;> simp[KU]at h <;> try omega
 have:=ay h
 subst this;exact⟨_,rfl⟩
open Classical in
theorem Xg(D:Nat){t k:Nat}{u:TypeDesc}{x y:Value}(hu:P.underlying t=some u)(hk:kT u=some k)(hx:KU x=some k)(hy:KU y=some k):(Op.equalIn (D+1) t x y).run P w=.ok (decide (x=y)) w:=by
 cases u <;> simp only[kT]at hk <;> try (cases hk;done)
 ·cases hk
  obtain⟨a,rfl⟩:=fT hx;obtain⟨b,rfl⟩:=fT hy
  simp[Op.equalIn,run_underlying hu];cases a <;> cases b <;> simp
 ·cases hk
  obtain⟨a,rfl⟩:=fZ hx;obtain⟨b,rfl⟩:=fZ hy
  simp[Op.equalIn,run_underlying hu];by_cases h:a=b <;> simp[h]
 ·cases hk
  obtain⟨a,rfl⟩:=fq hx;obtain⟨b,rfl⟩:=fq hy
  have:=beq_toListBytes a b
  simp only[Op.equalIn,Sem.run_bind,run_underlying hu,Result.andThen_ok,this,Ej,Sem.run_pure]
  by_cases h:a=b <;> simp[h]
open Classical in
theorem Tc:∀(d D:Nat),d≤D→∀t ks,YZ P d t=some ks→∀xs ys:List Value,xs.map KU=ks.map some→ys.map KU=ks.map some→(Op.equalIn D t (Xd P t xs) (Xd P t ys)).run P w=.ok (decide (xs=ys)) w
 | 0,_,_,_,_,h,_,_,_,_=>by simp[YZ]at h
 | d+1,D,hD,t,ks,h,xs,ys,hx,hy=>by
  obtain⟨D',rfl⟩:∃D',D=D'+1:=⟨D-1,by omega⟩
  unfold YZ at h;cases hu:P.underlying t with
  | none=>simp[hu]at h
  | some u=>
   cases u with
   | struct fs=>
    simp only[hu]at h
    split at h
    ·cases h
    ·rename_i hst
     have hf:P.fieldsOf t=fs:=by simp[Program.fieldsOf,hu]
     have:=run_equalIn_struct (P:=P) w D' t xs.toArray ys.toArray (by rw[hf];exact hu) (by simpa using hst)
     simp only[Xd,hu,this,hf]
     have h2:=OU (w:=w) (fun t ks=>Tc d D' (by omega) t ks) xs.toArray ys.toArray fs.toList 0 ks h (by simpa using hx) (by simpa using hy)
     simpa using h2
   | _=>
    simp only[hu]at h
    split at h
    ·rename_i k hk
     split at h
     ·simp at h;subst h
      match xs,ys,hx,hy with
      | [v],[u],hx,hy=>
       simp at hx hy
       simp only[Xd,hu,List.headD_cons]
       rw[Xg D' hu hk hx hy];congr 1
       simp
      | [],_,hx,_=>simp at hx
      | _::_::_,_,hx,_=>simp at hx
      | [_],[],_,hy=>simp at hy
      | [_],_::_::_,_,hy=>simp at hy
     ·cases h
    ·cases h
end
class KV(α:Type) where
 enc:α→List Value
 inj:∀a b,enc a=enc b→a=b
 ks:List Nat
 kinds:∀a,(enc a).map KU=ks.map some
abbrev enc{α:Type}[KV α](a:α):List Value:=KV.enc a
section
variable {P:Program}{w:World}{ρ:Fr}{d:Option Tmp}{T U ty:TypeId}{pos:String}{es:Array Edge}{g:Option (Nat×Bool)}{x y:Operand}{α:Type}[KV α][DecidableEq α]{a b:α}{ks:List Nat}[ht:gA P T ks]
theorem Iq(h:(match P.underlying T with|some (.struct _)=>true|_=>false)=true)(xs:List Value):Xd P T xs=.agg xs.toArray:=by
 unfold Xd;cases hu:P.underlying T with
 | none=>simp[hu]at h
 | some u=>cases u <;> simp[hu]at h ⊢
open Classical in
theorem TM(hk:(KV.ks α)=ks):(Op.equalIn 10000 T (.agg (enc a).toArray) (.agg (enc b).toArray)).run P w=.ok (decide (a=b)) w:=by
 have h1:=Tc (P:=P) (w:=w) 5 10000 (by omega) T ks ht.h (enc a) (enc b) (by rw[←hk];exact KV.kinds a) (by rw[←hk];exact KV.kinds b)
 rw[Iq ht.s,Iq ht.s]at h1;rw[h1];congr 1
 rw[decide_eq_decide];exact⟨KV.inj a b,fun h=>by rw[h]⟩
theorem Fl(hx:ev ρ x=.agg (enc a).toArray)(hy:ev ρ y=.agg (enc b).toArray)(hk:(KV.ks α)=ks):Yields P ⟨d,.binOp .eql T x y U,ty,pos,es,g⟩ ρ w (.bool (decide (a=b))):=by
 have h1:=TM (P:=P) (w:=w) (T:=T) (a:=a) (b:=b) hk
 have h2:=run_eqGuard_agg (P:=P) (w:=w) .eql T x y (enc a).toArray (enc b).toArray ht.g
 have h3:=run_eql_struct (P:=P) (w:=w) T (enc a).toArray (enc b).toArray
 unfold Yields;simp only[execOp,hx,hy,Sem.run_bind,h2,h3,h1,Result.andThen_ok,Sem.run_pure]
 try congr 3
theorem Mu(hx:ev ρ x=.agg (enc a).toArray)(hy:ev ρ y=.agg (enc b).toArray)(hk:(KV.ks α)=ks):Yields P ⟨d,.binOp .neq T x y U,ty,pos,es,g⟩ ρ w (.bool (decide (a≠b))):=by
 have h1:=TM (P:=P) (w:=w) (T:=T) (a:=a) (b:=b) hk
 have h2:=run_eqGuard_agg (P:=P) (w:=w) .neq T x y (enc a).toArray (enc b).toArray ht.g
 have h3:=run_neq_struct (P:=P) (w:=w) T (enc a).toArray (enc b).toArray
 unfold Yields;simp only[execOp,hx,hy,Sem.run_bind,h2,h3,h1,Result.andThen_ok,Sem.run_pure]
 congr 3
 by_cases h:a=b <;> simp[h]
end
end Mk
namespace Mk
theorem F2{v:Value}{a b:Bool}(h:v=.bool a)(hab:a=b):Ending.returned v=.returned (.bool b):=by rw[h,hab]
theorem G4{v:Value}{k:IntKind}{a b:Int}(h:v=.int k a)(hab:a=b):Ending.returned v=.returned (.int k b):=by rw[h,hab]
theorem B2{α:Type}{l:List α}{k:Nat}(h:k<l.length):∃x,l[k]? = some x:=⟨l[k],List.getElem?_eq_getElem h⟩
end Mk
end
section
open Go
namespace Mk
def HE(a b:ByteArray):Bool:=Op.bytesLess a.data.toList b.data.toList
theorem Bw:∀l:List UInt8,Op.bytesLess l l=false
 | []=>rfl
 | a::l=>by simp[Op.bytesLess,Bw l]
theorem DU:∀a b c:List UInt8,Op.bytesLess a b=true→Op.bytesLess b c=true→Op.bytesLess a c=true
 | _,_,[],_,h=>by simp[Op.bytesLess]at h
 | [],b,c::cs,_,_=>rfl
 | a::as,[],_::_,h,_=>by simp[Op.bytesLess]at h
 | a::as,b::bs,c::cs,h,k=>by
  simp only[Op.bytesLess,Bool.or_eq_true,Bool.and_eq_true,decide_eq_true_eq,beq_iff_eq] at *
  rcases h with h|⟨rfl,h⟩
  ·rcases k with k|⟨rfl,_⟩
   ·exact .inl (UInt8.lt_trans h k)
   ·exact .inl h
  ·rcases k with k|⟨rfl,k⟩
   ·exact .inl k
   ·exact .inr ⟨rfl,DU _ _ _ h k⟩
theorem DX:∀a b:List UInt8,Op.bytesLess a b=false→Op.bytesLess b a=false→a=b
 | [],[],_,_=>rfl
 | [],b::bs,h,_=>by simp[Op.bytesLess]at h
 | a::as,[],_,h=>by simp[Op.bytesLess]at h
 | a::as,b::bs,h,k=>by
  simp only[Op.bytesLess,Bool.or_eq_false_iff,Bool.and_eq_false_iff,decide_eq_false_iff_not,beq_eq_false_iff_ne]at h k
  have hab:a=b:=by
   rcases UInt8.lt_or_lt_of_ne (a:=a) (b:=b) with h0
   by_cases e:a=b
   ·exact e
   ·rcases UInt8.lt_or_lt_of_ne e with h1|h1
    ·exact absurd h1 h.1
    ·exact absurd h1 k.1
  subst hab;rw[DX as bs (h.2.resolve_left (by simp)) (k.2.resolve_left (by simp))]
theorem Fe(a:ByteArray):HE a a=false:=Bw _
theorem Kv{a b c:ByteArray}(h:HE a b=true)(k:HE b c=true):HE a c=true:=DU _ _ _ h k
theorem LF{a b:ByteArray}(h:HE a b=false)(k:HE b a=false):a=b:=by
 have:=DX _ _ h k
 cases a with|mk a=>cases b with|mk b=>congr 1;exact Array.toList_inj.1 this
theorem Lf{a b:ByteArray}(h:HE a b=true):HE b a=false:=by
 cases hb:HE b a with
 | false=>rfl
 | true=>have:=Kv h hb;rw[Fe]at this;cases this
theorem TR(a b:ByteArray):Op.bytesLess a.toList b.toList=HE a b:=by rw[ByteArray.toList_eq,ByteArray.toList_eq];rfl
theorem Vd(a b:ByteArray):(HE a b||decide (a=b)) = !HE b a:=by
 cases h:HE a b with
 | true=>rw[Lf h];rfl
 | false=>
  cases k:HE b a with
  | true=>simp only[Bool.false_or,Bool.not_true,decide_eq_false_iff_not];intro e;subst e;rw[Fe]at k;cases k
  | false=>simp[LF h k]
section
variable {P:Program}{Γ:C8}{S:List B6}{w:World}{ρ:Fr}
variable {d:Option Tmp}{T U ty:TypeId}{pos:String}{es:Array Edge}{g:Option (Nat×Bool)}{x y z:Operand}
attribute [local semireducible] Yields
theorem YY{a b:ByteArray}(hx:ev ρ x=.string a)(hy:ev ρ y=.string b):Yields P ⟨d,.binOp .lss T x y U,ty,pos,es,g⟩ ρ w (.bool (HE a b)):=by
 unfold Yields;simp[execOp,go_sem,hx,hy,binOp,Op.stringOp,TR]
theorem ZT{a b:ByteArray}(hx:ev ρ x=.string a)(hy:ev ρ y=.string b):Yields P ⟨d,.binOp .gtr T x y U,ty,pos,es,g⟩ ρ w (.bool (HE b a)):=by
 have:=Vd a b
 unfold Yields;simp[execOp,go_sem,hx,hy,binOp,Op.stringOp,TR,Ej]
 rw[←Bool.not_or,this];simp
theorem AG{a b:ByteArray}(hx:ev ρ x=.string a)(hy:ev ρ y=.string b)(h:(a.size:Int)+b.size≤9223372036854775807):Yields P ⟨d,.binOp .add T x y U,ty,pos,es,g⟩ ρ w (.string (a++b)):=by
 have h':¬((a.size:Int)+(b.size:Int) > IntKind.i64.max):=by
  have:IntKind.i64.max=9223372036854775807:=by decide
  omega
 unfold Yields;simp[execOp,go_sem,hx,hy,binOp,Op.stringOp]
 exact h
def G2(s:ByteArray)(l h:Nat):ByteArray:=s.extract l h
theorem d9{s:ByteArray}{lo hi:Operand}{k1 k2:IntKind}{l h:Int}[hT:En P T](hx:ev ρ x=.string s)(hl:ev ρ lo=.int k1 l)(hh:ev ρ hi=.int k2 h)(h0:0≤l)(h1:l≤h)(h2:h≤s.size) :
  Yields P ⟨d,.slice T x (some lo) (some hi) none,ty,pos,es,g⟩ ρ w (.string (G2 s l.toNat h.toNat)):=by
 have e1:(0≤h∧h≤(s.size:Int)):=⟨by omega,h2⟩
 have e2:(0≤l∧l≤(h.toNat:Int)):=⟨h0,by omega⟩
 unfold Yields;simp[execOp,go_sem,hx,hl,hh,run_sliceAt_string (P:=P) (w:=w) T _ _ _ _ hT.h,Instr.slice,run_underlying hT.h,Instr.sliceBounds,Instr.sliceBound,asIntOf,e1,e2,G2]
 intro hh';omega
theorem La{s:ByteArray}{lo:Operand}{k1:IntKind}{l:Int}[hT:En P T](hx:ev ρ x=.string s)(hl:ev ρ lo=.int k1 l)(h0:0≤l)(h1:l≤s.size) :
  Yields P ⟨d,.slice T x (some lo) none none,ty,pos,es,g⟩ ρ w (.string (G2 s l.toNat s.size)):=by
 unfold Yields;simp[execOp,go_sem,hx,hl,run_sliceAt_string (P:=P) (w:=w) T _ _ _ _ hT.h,Instr.slice,run_underlying hT.h,Instr.sliceBounds,Instr.sliceBound,asIntOf,h0,h1,G2]
theorem LH{s:ByteArray}{hi:Operand}{k2:IntKind}{h:Int}[hT:En P T](hx:ev ρ x=.string s)(hh:ev ρ hi=.int k2 h)(h1:0≤h)(h2:h≤s.size) :
  Yields P ⟨d,.slice T x none (some hi) none,ty,pos,es,g⟩ ρ w (.string (G2 s 0 h.toNat)):=by
 unfold Yields;simp[execOp,go_sem,hx,hh,run_sliceAt_string (P:=P) (w:=w) T _ _ _ _ hT.h,Instr.slice,run_underlying hT.h,Instr.sliceBounds,Instr.sliceBound,asIntOf,h1,h2,G2]
theorem NA{k1 k2:IntKind}{a:Int}[h1:MP P T k1][h2:MP P U k2](hx:ev ρ x=.int k1 a):Yields P ⟨d,.convert T U x,ty,pos,es,g⟩ ρ w (.int k2 (k2.wrap a)):=by
 have hk:P.intKind U=k2:=by simp[Program.intKind,h2.h]
 have:=run_convert_int (P:=P) (w:=w) T U k1 a (by rw[h1.h];rfl) (by rw[hk];exact h2.h)
 rw[hk]at this;unfold Yields;simp only[execOp,hx,Sem.run_bind,this,Result.andThen_ok];rfl
theorem UE{a:Int}(hx:ev ρ x=.int .i64 a)(h1:-9223372036854775807≤a)(h2:a≤9223372036854775808):Yields P ⟨d,.unOp .neg T x,ty,pos,es,g⟩ ρ w (.int .i64 (-a)):=by
 have:=wrap_i64 (a:=0-a) (by omega) (by omega)
 unfold Yields;simp[execOp,go_sem,hx,Op.unary,Op.intArith]at this ⊢
 simpa using this
theorem Ww{k k2:IntKind}{a b:Int}(hx:ev ρ x=.int k a)(hy:ev ρ y=.int k2 b)(h0:0≤b):Yields P ⟨d,.binOp .shl T x y U,ty,pos,es,g⟩ ρ w (.int k (k.wrap (a*2 ^ (min b.toNat k.bits)))):=by
 unfold Yields;simp[execOp,go_sem,hx,hy,Op.shift,show ¬b<0 from by omega]
theorem XR{k k2:IntKind}{a b:Int}(hx:ev ρ x=.int k a)(hy:ev ρ y=.int k2 b)(h0:0≤b):Yields P ⟨d,.binOp .shr T x y U,ty,pos,es,g⟩ ρ w (.int k (a.fdiv (2 ^ (min b.toNat k.bits)))):=by
 unfold Yields;simp[execOp,go_sem,hx,hy,Op.shift,show ¬b<0 from by omega]
def Z1(op:BinOp)(k:IntKind)(x y:Int):Int:=
 let a:=BitVec.ofInt k.bits x
 let b:=BitVec.ofInt k.bits y
 k.wrap (match op with|.and=>a &&& b|.or=>a ||| b|.xor=>a ^^^ b|_=>a &&& ~~~b).toNat
theorem Yf{k:IntKind}{a b:Int}(hx:ev ρ x=.int k a)(hy:ev ρ y=.int k b):Yields P ⟨d,.binOp .and T x y U,ty,pos,es,g⟩ ρ w (.int k (Z1 .and k a b)):=by
 unfold Yields;simp[execOp,go_sem,hx,hy,Op.intBits,Z1]
theorem Yl{k:IntKind}{a b:Int}{tys:Array TypeId}(hx:ev ρ x=.int k a)(hy:ev ρ y=.int k b):Yields P ⟨d,.call { callee:=.builtin .min,args:=#[x,y],argTypes:=tys },ty,pos,es,g⟩ ρ w (.int k (if b<a then b else a)):=by
 unfold Yields;simp[execOp,go_sem,resolve,invoke,builtin,hx,hy,Builtin.min_,Builtin.min2]
theorem Sd{k:IntKind}{a b:Int}{tys:Array TypeId}(hx:ev ρ x=.int k a)(hy:ev ρ y=.int k b):Yields P ⟨d,.call { callee:=.builtin .max,args:=#[x,y],argTypes:=tys },ty,pos,es,g⟩ ρ w (.int k (if a<b then b else a)):=by
 unfold Yields;simp[execOp,go_sem,resolve,invoke,builtin,hx,hy,Builtin.max_,Builtin.max2]
theorem ZJ{E sz by':Nat}{zs:List Value}{a:Option Addr}{n c:Nat}[hT:TL P T E sz by' zs](hx:ev ρ x=.slice a n c)(hy:ev ρ y=.slice none 0 0):Yields P ⟨d,.binOp .eql T x y U,ty,pos,es,g⟩ ρ w (.bool a.isNone):=by
 have h:=run_equal_slice_nil (P:=P) w T E a n c hT.h
 unfold Yields;simp[execOp,go_sem,hx,hy,binOp,h]
end
def B6.mp(b:Nat)(l:List (Value×Value)):B6 where
 holds _ bs h:=bs=[b]∧∃es clock,h b=some (.map es clock)∧es.toList.map (fun e=>(e.key,e.val))=l∧(es.toList.map (·.born)).Nodup∧∀e∈es.toList,e.born<clock
 loc m m' bs h h' _ hb:=by
  rintro⟨rfl,es,clock,h1,h2⟩;exact⟨rfl,es,clock,(hb b (by simp)).trans h1,h2⟩
class M3(P:Program)(K:TypeId)(α:Type) where
 key:α→Value
 inj:∀a b,key a=key b→a=b
 dec:DecidableEq α
 check:∀empty a w,(Instr.checkKey empty 10000 K (key a)).run P w=.ok () w
 find:∀a (es:List MapEntry) (ks:List α) w,es.map (·.key)=ks.map key→(Instr.findKey K (key a) es).run P w=.ok ((ks.findIdx? (fun k=>decide (k=a))).bind fun i=>(es[i]?).map fun e=>(i,e.val)) w
 stays:∀a w,(Instr.keyThatStays (key a) (key a)).run P w=.ok (key a) w
theorem Dl{kind:TypeDesc}{α:Type}[DecidableEq α]{key:α→Value}(h:∀a b,Instr.sameNow kind (key a) (key b)=some (decide (b=a)))(a:α):∀(es:List MapEntry) (ks:List α) (i:Nat),es.map (·.key)=ks.map key →
  Instr.findNow kind (key a) es i=some (((ks.findIdx? (fun k=>decide (k=a))).bind fun j=>(es[j]?).map fun e=>(i+j,e.val)))
 | [],[],i,_=>by simp[Instr.findNow]
 | [],_::_,_,h0=>by simp at h0
 | _::_,[],_,h0=>by simp at h0
 | e::es,k::ks,i,h0=>by
  simp only[List.map_cons,List.cons.injEq]at h0
  unfold Instr.findNow;rw[h0.1,h a k];by_cases hk:k=a
  ·simp[hk,List.findIdx?_cons]
  ·simp only[hk,decide_false]
   rw[Dl h a es ks (i+1) h0.2];simp only[List.findIdx?_cons,hk,decide_false,Bool.false_eq_true,if_false]
   cases ks.findIdx? (fun k=>decide (k=a)) with
   | none=>rfl
   | some j=>simp[Nat.add_comm,Nat.add_left_comm]
theorem VC{P:Program}{K:TypeId}(hT:P.underlying K=some .string)(empty:Bool)(a:ByteArray)(w:World)(n:Nat):(Instr.checkKey empty (n+1) K (.string a)).run P w=.ok () w:=by
 unfold Instr.checkKey;rw[Sem.run_bind,run_underlying hT];rfl
theorem HI{P:Program}{K:TypeId}{k:IntKind}(hT:P.underlying K=some (.int k))(empty:Bool)(a:Int)(w:World)(n:Nat):(Instr.checkKey empty (n+1) K (.int k a)).run P w=.ok () w:=by
 unfold Instr.checkKey;rw[Sem.run_bind,run_underlying hT];rfl
theorem Xt(a:ByteArray):Instr.sameBits 10000 (.string a) (.string a)=true:=by
 have:(a == a)=true:=by rw[beq_toListBytes,Ej];simp
 unfold Instr.sameBits;exact this
theorem YB(k:IntKind)(a:Int):Instr.sameBits 10000 (.int k a) (.int k a)=true:=by
 unfold Instr.sameBits;simp
instance cO{P:Program}{K:TypeId}[hT:En P K]:M3 P K ByteArray where
 key s:=.string s
 inj a b h:=by simpa using h
 dec:=inferInstance
 check empty a w:=VC hT.h empty a w 9999
 find a es ks w h:=by
  have:=Dl (kind:=.string) (key:=fun s:ByteArray=>Value.string s) (fun a b=>by
   show some (a == b)=_
   rw[beq_toListBytes,Ej];by_cases h:a=b
   ·simp[h]
   ·simp[h,Ne.symm h]) a es ks 0 h
  simp[Instr.findKey,run_underlying hT.h,this]
 stays a w:=by unfold Instr.keyThatStays;rw[Xt];rfl
instance dK{P:Program}{K:TypeId}{k:IntKind}[hT:MP P K k]:M3 P K Int where
 key n:=.int k n
 inj a b h:=by simpa using h
 dec:=inferInstance
 check empty a w:=HI hT.h empty a w 9999
 find a es ks w h:=by
  have:=Dl (kind:=.int k) (key:=fun n:Int=>Value.int k n) (fun a b=>by
   show (if k=k then some (a == b) else none)=_
   by_cases h:a=b
   ·simp[h]
   ·simp[h,Ne.symm h]) a es ks 0 h
  simp[Instr.findKey,run_underlying hT.h,this]
 stays a w:=by unfold Instr.keyThatStays;rw[YB];rfl
section
variable {α β:Type}[DecidableEq α]
def Dc(l:List (α×β))(a:α):Option Nat:=l.findIdx? fun p=>decide (p.1=a)
def G3(l:List (α×β))(a:α):Option β:=(Dc l a).bind fun i=>(l[i]?).map (·.2)
def j6(l:List (α×β))(a:α)(v:β):List (α×β):=match Dc l a with|some i=>l.set i (a,v)|none=>l++[(a,v)]
def Es(l:List (α×β))(a:α):List (α×β):=match Dc l a with|some i=>l.eraseIdx i|none=>l
end
section
variable {P:Program}{Γ:C8}{S:List B6}{w:World}{ρ:Fr}{KK:Value→World→Prop}{α β:Type}
variable {d:Option Tmp}{T U ty:TypeId}{pos:String}{es:Array Edge}{g:Option (Nat×Bool)}{x y z:Operand}{K E:TypeId}
abbrev B6.mpT(P:Program)(K:TypeId)[M3 P K α](f:β→Value)(b:Nat)(l:List (α×β)):B6:=B6.mp b (l.map fun p=>(M3.key P K p.1,f p.2))
theorem Wd.at_mp{i b:Nat}{l:List (Value×Value)}(h:Wd Γ S w)(hi:S[i]? = some (.mp b l)):∃es clock,w.heap[b]? = some (.map es clock)∧es.toList.map (fun e=>(e.key,e.val))=l∧(es.toList.map (·.born)).Nodup∧∀e∈es.toList,e.born<clock:=by
 obtain⟨bss,h1,_,_⟩:=h.own;obtain⟨bs,_,hr⟩:=Holds.get S bss i _ h1 hi
 exact hr.2
theorem Wd.set_mp{i b:Nat}{l l':List (Value×Value)}{w':World}(h:Wd Γ S w)(hi:S[i]? = some (.mp b l))(hs:Ew w w')(es:Array MapEntry)(clock:Nat)(hb:w'.heap[b]? = some (.map es clock))(he:es.toList.map (fun e=>(e.key,e.val))=l')
  (hn:(es.toList.map (·.born)).Nodup) (hc:∀e∈es.toList,e.born<clock) (hk:∀k,k<w.heap.size→k≠b→w'.heap[k]? = w.heap[k]?):Wd Γ (S.set i (.mp b l')) w':=
 h.upd hi hs fun bs hr _ hlt=>by
  obtain⟨rfl,_⟩:=hr;exact⟨[b],⟨rfl,es,clock,hb,he,hn,hc⟩,by simp,fun x hx'=>⟨Nat.lt_of_lt_of_le (hlt x hx') hs.size,.inl hx'⟩,fun k hk1 hk2=>hk k hk1 (by simpa using hk2)⟩
def Z8(w:World)(b:Nat)(o:Obj):World:={ w with heap:=w.heap.setIfInBounds b o }
theorem run_getObj_map{b:Nat}{es:Array MapEntry}{clock:Nat}(h:w.heap[b]? = some (.map es clock)):(getObj b).run P w=.ok (.map es clock) w:=by
 simp[getObj,Sem.run,h]
theorem run_setObj_map{b:Nat}{es:Array MapEntry}{clock:Nat}{o:Obj}(h:w.heap[b]? = some (.map es clock)):(setObj b o).run P w=.ok () (Z8 w b o):=by
 simp[setObj,Sem.run,h,Z8]
theorem Ck{b:Nat}{o:Obj}(h:b<w.heap.size):(Z8 w b o).heap[b]? = some o:=by simp[Z8,h]
theorem Cv{b k:Nat}{o:Obj}(h:k≠b):(Z8 w b o).heap[k]? = w.heap[k]?:=by simp[Z8,Array.getElem?_setIfInBounds,Ne.symm h]
theorem w9{b:Nat}{o:Obj}:Ew w (Z8 w b o):=⟨rfl,rfl,rfl,(by first|exact Nat.le_refl _|exact Nat.le_succ _),by simp[Z8]⟩
def zeroV(P:Program)(T:TypeId):Option Value:=(P.info? T).bind (·.zero)
class Zc(P:Program)(T:TypeId)(z:outParam Value):Prop where h:zeroV P T=some z
theorem FB{z:Value}(h:zeroV P T=some z):(zeroValue T).run P w=.ok z w:=by
 unfold zeroV at h;cases hi:P.info? T with
 | none=>simp[hi]at h
 | some q=>simp[hi]at h;simp[zeroValue,typeInfo,hi,h]
section
variable [MK:M3 P K α]{f:β→Value}{l:List (α×β)}{a:α}{b i:Nat}
theorem VD{es:Array MapEntry}(he:es.toList.map (fun e=>(e.key,e.val))=l.map fun p=>(M3.key P K p.1,f p.2)):es.toList.map (·.key)=(l.map (·.1)).map (M3.key P K):=by
 have:=congrArg (List.map Prod.fst) he
 simpa[Function.comp_def] using this
theorem PQ{es:Array MapEntry}(he:es.toList.map (fun e=>(e.key,e.val))=l.map fun p=>(M3.key P K p.1,f p.2)):es.size=l.length:=by
 have:=congrArg List.length he
 simpa using this
theorem QI{es:Array MapEntry}(he:es.toList.map (fun e=>(e.key,e.val))=l.map fun p=>(M3.key P K p.1,f p.2)){j:Nat}{p:α×β}(hj:l[j]? = some p):∃e,es.toList[j]? = some e∧e.key=M3.key P K p.1∧e.val=f p.2:=by
 have h1:=congrArg (fun l=>l[j]?) he
 simp only[List.getElem?_map,hj,Option.map_some]at h1
 cases hq:es.toList[j]? with
 | none=>rw[hq]at h1;simp at h1
 | some e=>rw[hq]at h1;simp at h1;exact⟨e,rfl,h1.1,h1.2⟩
theorem GI{es:Array MapEntry}(he:es.toList.map (fun e=>(e.key,e.val))=l.map fun p=>(M3.key P K p.1,f p.2))(a:α):(Instr.findKey K (M3.key P K a) es.toList).run P w=.ok ((@Dc α β (M3.dec P K) l a).bind fun i=>(l[i]?).map fun p=>(i,f p.2)) w:=by
 rw[M3.find a es.toList _ w (VD he)];congr 1
 rw[List.findIdx?_map];unfold Dc;have hcomp:(List.findIdx? ((fun k=>@decide (k=a) (M3.dec P K k a)) ∘ fun x:α×β=>x.1) l)=l.findIdx? (fun p=>@decide (p.1=a) (M3.dec P K _ _)):=rfl
 rw[hcomp];cases hq:l.findIdx? (fun p=>@decide (p.1=a) (M3.dec P K _ _)) with
 | none=>rfl
 | some j=>
  simp only[Option.bind_some]
  cases hj:l[j]? with
  | none=>
   have:es.toList[j]? = none:=by
    have h1:=PQ he
    have h2:=List.getElem?_eq_none_iff.1 hj
    exact List.getElem?_eq_none (by simp;omega)
   rw[this];rfl
  | some p=>
   obtain⟨e,h1,_,h3⟩:=QI he hj
   rw[h1];simp[h3]
theorem Ei[DecidableEq α]{i:Nat}(h:Dc l a=some i):∃v,l[i]? = some (a,v):=by
 unfold Dc at h;rw[List.findIdx?_eq_some_iff_getElem]at h;obtain⟨h1,h2,_⟩:=h;refine⟨l[i].2,?_⟩
 have:l[i].1=a:=by simpa using h2
 rw[List.getElem?_eq_getElem h1,←this]
theorem Y9{u:β}[hM:BJ P T K E](hw:Wd Γ S w)(hx:ev ρ x=.map (some b))(hy:ev ρ y=M3.key P K a)(hi:S[i]? = some (B6.mpT P K f b l))(hg:@G3 α β (M3.dec P K) l a=some u)(ok:Bool) :
  Yields P ⟨d,.lookup T x y ok,ty,pos,es,g⟩ ρ w (if ok then .tuple #[f u,.bool true] else f u):=by
 obtain⟨en,clock,h1,h2,_,_⟩:=hw.at_mp hi
 have h3:=GI (w:=w) h2 a
 have h4:((@Dc α β (M3.dec P K) l a).bind fun i=>(l[i]?).map fun p=>(i,f p.2))=((@Dc α β (M3.dec P K) l a).map fun i=>(i,f u)):=by
  unfold G3 at hg;cases hq:@Dc α β (M3.dec P K) l a with
  | none=>rw[hq]at hg;simp at hg
  | some j=>
   rw[hq]at hg;simp only[Option.bind_some]at hg ⊢
   cases hj:l[j]? with
   | none=>rw[hj]at hg;simp at hg
   | some p=>rw[hj]at hg;simp at hg;simp[hg]
 have h5:∃j,@Dc α β (M3.dec P K) l a=some j:=by
  unfold G3 at hg;cases hq:@Dc α β (M3.dec P K) l a with
  | none=>rw[hq]at hg;simp at hg
  | some j=>exact⟨j,rfl⟩
 obtain⟨j,h5⟩:=h5;rw[h4,h5]at h3;unfold Yields;simp only[execOp,hx,hy,Instr.lookup,Sem.run_bind,run_underlying hM.h,Result.andThen_ok,run_getObj_map h1,Sem.run_pure,M3.check,h3,Option.map_some]
theorem Z3{zz:Value}[hM:BJ P T K E][hz:Zc P E zz](hw:Wd Γ S w)(hx:ev ρ x=.map (some b))(hy:ev ρ y=M3.key P K a)(hi:S[i]? = some (B6.mpT P K f b l))(hg:@G3 α β (M3.dec P K) l a=none)(ok:Bool) :
  Yields P ⟨d,.lookup T x y ok,ty,pos,es,g⟩ ρ w (if ok then .tuple #[zz,.bool false] else zz):=by
 obtain⟨en,clock,h1,h2,_,_⟩:=hw.at_mp hi
 have h3:=GI (w:=w) h2 a
 have h4:@Dc α β (M3.dec P K) l a=none:=by
  unfold G3 at hg;cases hq:@Dc α β (M3.dec P K) l a with
  | none=>rfl
  | some j=>
   letI:=M3.dec (α:=α) P K
   obtain⟨v,hv⟩:=Ei hq
   rw[hq]at hg;simp[hv]at hg
 rw[h4]at h3;unfold Yields;simp only[execOp,hx,hy,Instr.lookup,Sem.run_bind,run_underlying hM.h,Result.andThen_ok,run_getObj_map h1,Sem.run_pure,M3.check,h3,Option.bind_none,FB hz.h]
theorem eW[hM:BJ P T K E](hw:Wd Γ S w)(hx:ev ρ x=.map (some b))(hi:S[i]? = some (B6.mpT P K f b l)):Yields P ⟨d,.call { callee:=.builtin .len,args:=#[x],argTypes:=#[T] },ty,pos,es,g⟩ ρ w (.int .i64 l.length):=by
 obtain⟨en,clock,h1,h2,_,_⟩:=hw.at_mp hi
 have h3:=PQ h2
 unfold Yields;simp[execOp,resolve,invoke,builtin,hx,Builtin.len_,run_underlying hM.h,run_getObj_map h1,h3,goInt]
theorem BP{v:β}[hM:BJ P T K E](hw:Wd Γ S w)(hx:ev ρ x=.map (some b))(hy:ev ρ y=M3.key P K a)(hz:ev ρ z=f v)(hi:S[i]? = some (B6.mpT P K f b l))
  (hk:∀w',Wd Γ (S.set i (B6.mpT P K f b (@j6 α β (M3.dec P K) l a v))) w'→KK undef w'):Step P ⟨d,.mapUpdate T x y z,ty,pos,es,g⟩ ρ w KK:=by
 obtain⟨en,clock,h1,h2,h6,h7⟩:=hw.at_mp hi
 have hblt:b<w.heap.size:=(Array.getElem?_eq_some_iff.1 h1).1
 have h3:=GI (w:=w) h2 a
 letI:=M3.dec (α:=α) P K
 cases hq:Dc l a with
 | none=>
  rw[hq]at h3;have hr:(execOp (ev ρ) ⟨d,.mapUpdate T x y z,ty,pos,es,g⟩).run P w=.ok .skip (Z8 w b (.map (en.push { key:=M3.key P K a,val:=f v,born:=clock }) (clock+1))):=by
   simp only[execOp,hx,hy,hz,Instr.mapUpdate,Sem.run_bind,run_underlying hM.h,Result.andThen_ok,run_getObj_map h1,Sem.run_pure,M3.check,h3,Option.bind_none,run_setObj_map h1]
  have hfin:=hk _ (hw.set_mp hi w9 (en.push { key:=M3.key P K a,val:=f v,born:=clock }) (clock+1) (Ck hblt) (l':=(j6 l a v).map fun p=>(M3.key P K p.1,f p.2)) (by simp only[j6,hq,Array.toList_push,List.map_append,h2];rfl) (by
    simp only[Array.toList_push,List.map_append,List.map_cons,List.map_nil,List.nodup_append]
    exact⟨h6,by simp,fun x hx y hy hxy=>by
     simp at hy;subst hy;subst hxy
     obtain⟨e,he,hb⟩:=List.mem_map.1 hx
     have:=h7 e he;omega⟩) (fun e he=>by
    simp only[Array.toList_push,List.mem_append,List.mem_singleton]at he
    rcases he with he|rfl
    ·have:=h7 e he;omega
    ·simp) fun k _ hne=>Cv hne)
  unfold Step;rw[hr];exact hfin
 | some j=>
  obtain⟨v0,hv0⟩:=Ei hq
  obtain⟨e,he1,he2,he3⟩:=QI h2 hv0
  rw[hq]at h3;simp only[Option.bind_some,hv0,Option.map_some]at h3
  have hej:en[j]? = some e:=by simpa using he1
  have hr:(execOp (ev ρ) ⟨d,.mapUpdate T x y z,ty,pos,es,g⟩).run P w=.ok .skip (Z8 w b (.map (en.modify j fun e=>{ e with key:=M3.key P K a,val:=f v }) clock)):=by
   simp only[execOp,hx,hy,hz,Instr.mapUpdate,Sem.run_bind,run_underlying hM.h,Result.andThen_ok,run_getObj_map h1,Sem.run_pure,M3.check,h3,hej,Option.map_some,Option.getD_some,he2,M3.stays,run_setObj_map h1]
  have hmod:∀(l0:List MapEntry) (j:Nat) (e0:MapEntry),l0[j]? = some e0→(l0.modify j fun e=>{ e with key:=M3.key P K a,val:=f v })=l0.set j { e0 with key:=M3.key P K a,val:=f v }:=by
   intro l0;induction l0 with
   | nil=>intro j e0 h;simp at h
   | cons x l0 ih=>
    intro j e0 h;cases j with
    | zero=>simp at h;subst h;rfl
    | succ j=>simp at h;simp[ih j e0 h]
  have hl:(en.modify j fun e=>{ e with key:=M3.key P K a,val:=f v }).toList=en.toList.set j { e with key:=M3.key P K a,val:=f v }:=by
   rw[Array.toList_modify];exact hmod en.toList j e he1
  have hborn:(en.toList.set j { e with key:=M3.key P K a,val:=f v }).map (·.born)=en.toList.map (·.born):=by
   rw[List.map_set];refine List.ext_getElem? fun k=>?_
   rw[List.getElem?_set];split
   ·rename_i hjk;subst hjk
    split
    ·simp[he1]
    ·rename_i hlt;rw[List.getElem?_eq_none (by simpa using hlt)]
   ·rfl
  have hfin:=hk _ (hw.set_mp hi w9 (en.modify j fun e=>{ e with key:=M3.key P K a,val:=f v }) clock (Ck hblt) (l':=(j6 l a v).map fun p=>(M3.key P K p.1,f p.2)) (by
    rw[hl,List.map_set,h2];simp only[j6,hq,List.map_set]) (by rw[hl,hborn];exact h6) (fun e' he'=>by
    have:e'.born∈(en.toList.set j { e with key:=M3.key P K a,val:=f v }).map (·.born):=by rw[hl]at he';exact List.mem_map.2 ⟨e',he',rfl⟩
    rw[hborn]at this;obtain⟨e2,h8,h9⟩:=List.mem_map.1 this
    rw[←h9];exact h7 e2 h8) fun k _ hne=>Cv hne)
  unfold Step;rw[hr];exact hfin
theorem Wy[hM:BJ P T K E](hw:Wd Γ S w)(hx:ev ρ x=.map (some b))(hy:ev ρ y=M3.key P K a)(hi:S[i]? = some (B6.mpT P K f b l))
  (hk:∀w',Wd Γ (S.set i (B6.mpT P K f b (@Es α β (M3.dec P K) l a))) w'→KK (.tuple #[]) w'):Step P ⟨d,.call { callee:=.builtin .delete,args:=#[x,y],argTypes:=#[T,U] },ty,pos,es,g⟩ ρ w KK:=by
 obtain⟨en,clock,h1,h2,h6,h7⟩:=hw.at_mp hi
 have hblt:b<w.heap.size:=(Array.getElem?_eq_some_iff.1 h1).1
 have h3:=GI (w:=w) h2 a
 letI:=M3.dec (α:=α) P K
 cases hq:Dc l a with
 | none=>
  rw[hq]at h3;have hr:(execOp (ev ρ) ⟨d,.call { callee:=.builtin .delete,args:=#[x,y],argTypes:=#[T,U] },ty,pos,es,g⟩).run P w=.ok (.value (.tuple #[])) (Z8 w b (.map en clock)):=by
   simp[execOp,resolve,invoke,builtin,hx,hy,Builtin.delete_,run_underlying hM.h,run_getObj_map h1,M3.check,h3,run_setObj_map h1]
  have hfin:=hk _ (hw.set_mp hi w9 en clock (Ck hblt) (l':=(Es l a).map fun p=>(M3.key P K p.1,f p.2)) (by simp only[Es,hq];exact h2) h6 h7 fun k _ hne=>Cv hne)
  unfold Step;rw[hr];exact hfin
 | some j=>
  obtain⟨v0,hv0⟩:=Ei hq
  rw[hq]at h3;simp only[Option.bind_some,hv0,Option.map_some]at h3
  have hr:(execOp (ev ρ) ⟨d,.call { callee:=.builtin .delete,args:=#[x,y],argTypes:=#[T,U] },ty,pos,es,g⟩).run P w=.ok (.value (.tuple #[])) (Z8 w b (.map (en.eraseIdxIfInBounds j) clock)):=by
   simp[execOp,resolve,invoke,builtin,hx,hy,Builtin.delete_,run_underlying hM.h,run_getObj_map h1,M3.check,h3,run_setObj_map h1]
  have hl:(en.eraseIdxIfInBounds j).toList=en.toList.eraseIdx j:=by
   unfold Array.eraseIdxIfInBounds;split
   ·simp
   ·rename_i h;rw[List.eraseIdx_of_length_le (by simpa using h)]
  have hmapE:∀ {A B:Type} (q:A→B) (l0:List A) (j:Nat),(l0.eraseIdx j).map q=(l0.map q).eraseIdx j:=by
   intro A B q l0;induction l0 with
   | nil=>intro j;rfl
   | cons x l0 ih=>intro j;cases j with|zero=>rfl|succ j=>simp[ih j]
  have hfin:=hk _ (hw.set_mp hi w9 (en.eraseIdxIfInBounds j) clock (Ck hblt) (l':=(Es l a).map fun p=>(M3.key P K p.1,f p.2)) (by
    rw[hl,hmapE,h2];simp only[Es,hq,hmapE]) (by rw[hl,hmapE];exact h6.sublist (List.eraseIdx_sublist ..)) (fun e he=>h7 e (by rw[hl]at he;exact List.mem_of_mem_eraseIdx he)) fun k _ hne=>Cv hne)
  unfold Step;rw[hr];exact hfin
end
theorem X8[hM:BJ P T K E][M3 P K α]{f:β→Value}(hw:Wd Γ S w)(hk:∀b w',Wd Γ (B6.mpT P K f b ([]:List (α×β))::S) w'→KK (.map (some b)) w'):Step P ⟨d,.makeMap T none,ty,pos,es,g⟩ ρ w KK:=by
 have hr:(execOp (ev ρ) ⟨d,.makeMap T none,ty,pos,es,g⟩).run P w=.ok (.value (.map (some w.heap.size))) (w.alloc (.map #[] 0)):=by
  simp[execOp,Instr.makeMap]
 have hfin:=hk _ _ (hw.add (r:=B6.mpT P K f w.heap.size ([]:List (α×β))) (bs:=[w.heap.size]) (w':=w.alloc (.map #[] 0)) ⟨rfl,rfl,rfl,(by first|exact Nat.le_refl _|exact Nat.le_succ _),by simp⟩ ⟨rfl,#[],0,heap_alloc_new w _,rfl,by simp,by simp⟩ (by simp) (by simp) fun k hk=>heap_alloc_old w _ hk)
 unfold Step;rw[hr];exact hfin
end
attribute [irreducible] B6.mp
def Bc(a:Option Addr)(l c sz:Nat):Option Addr:=if c=l then a else a.map (·.add (l*sz))
section
variable {P:Program}{Γ:C8}{S:List B6}{w:World}{ρ:Fr}{K:Value→World→Prop}{sz e:Nat}{rows:List (List Value)}
variable {d:Option Tmp}{T U ty:TypeId}{pos:String}{es:Array Edge}{g:Option (Nat×Bool)}{x y z:Operand}
theorem TL.elem{E by':Nat}{zs:List Value}(hT:TL P T E sz by' zs):P.underlying T=some (.slice (P.elem T))∧(Go.sizeOf (P.elem T)).run P w=.ok sz w:=by
 obtain⟨q,hq,hs,_⟩:=W8 hT.s
 have he:P.elem T=E:=by simp[Program.elem,hT.h]
 rw[he];exact⟨hT.h,by simp[Go.sizeOf,typeInfo,hq,hs]⟩
theorem Kx{E by' n c:Nat}{zs:List Value}{a:Option Addr}{lo hi:Operand}{k1 k2:IntKind}{l h:Int}[hT:TL P T E sz by' zs](hx:ev ρ x=.slice a n c)(hl:ev ρ lo=.int k1 l)(hh:ev ρ hi=.int k2 h)(h0:0≤l)(h1:l≤h)(h2:h≤c) :
  Yields P ⟨d,.slice T x (some lo) (some hi) none,ty,pos,es,g⟩ ρ w (.slice (Bc a l.toNat c sz) (h.toNat-l.toNat) (c-l.toNat)):=by
 obtain⟨h3,h4⟩:=hT.elem (w:=w)
 have h5:=run_sliceAt_slice (P:=P) (w:=w) T (.slice a n c) (some (.int k1 l)) (some (.int k2 h)) none h3
 have h6:=run_slice_lh (P:=P) (w:=w) T a n c h3 k1 k2 l h h0 h1 h2
 rw[h6,h4,Result.andThen_ok]at h5;unfold Yields;simp only[execOp,hx,hl,hh,Option.map_some,Option.map_none,Sem.run_bind,h5,Result.andThen_ok]
 rfl
theorem QH{E by' n c:Nat}{zs:List Value}{a:Option Addr}{lo:Operand}{k1:IntKind}{l:Int}[hT:TL P T E sz by' zs](hx:ev ρ x=.slice a n c)(hl:ev ρ lo=.int k1 l)(h0:0≤l)(h1:l≤n) :
  Yields P ⟨d,.slice T x (some lo) none none,ty,pos,es,g⟩ ρ w (.slice (Bc a l.toNat c sz) (n-l.toNat) (c-l.toNat)):=by
 obtain⟨h3,h4⟩:=hT.elem (w:=w)
 have h5:=run_sliceAt_slice (P:=P) (w:=w) T (.slice a n c) (some (.int k1 l)) none none h3
 have h6:=run_slice_l (P:=P) (w:=w) T a n c h3 k1 l h0 h1
 rw[h6,h4,Result.andThen_ok]at h5;unfold Yields;simp only[execOp,hx,hl,Option.map_some,Option.map_none,Sem.run_bind,h5,Result.andThen_ok]
 rfl
theorem Ha{a:Option Addr}{c:Nat}:Bc a 0 c sz=a:=by
 unfold Bc;split
 ·rfl
 ·cases a <;> simp[Addr.add]
theorem OG{E by' n c:Nat}{zs:List Value}{a:Option Addr}{hi:Operand}{k2:IntKind}{h:Int}[hT:TL P T E sz by' zs](hx:ev ρ x=.slice a n c)(hh:ev ρ hi=.int k2 h)(h1:0≤h)(h2:h≤c) :
  Yields P ⟨d,.slice T x none (some hi) none,ty,pos,es,g⟩ ρ w (.slice a h.toNat c):=by
 obtain⟨h3,h4⟩:=hT.elem (w:=w)
 have h5:=run_sliceAt_slice (P:=P) (w:=w) T (.slice a n c) none (some (.int k2 h)) none h3
 have h6:=run_slice_h (P:=P) (w:=w) T a n c h3 k2 h h1 h2
 rw[h6,h4,Result.andThen_ok]at h5;have h7:=Ha (a:=a) (c:=c) (sz:=sz)
 unfold Bc at h7;unfold Yields;simp only[execOp,hx,hh,Option.map_some,Option.map_none,Sem.run_bind,h5,Result.andThen_ok,sliced,h7,Nat.sub_zero]
 rfl
theorem Rd.cut{a:Option Addr}{c:Nat}(h:Rd w a sz rows)(hc:rows.length≤c)(l:Nat)(hl:l≤rows.length):Rd w (Bc a l c sz) sz (rows.drop l):=by
 refine⟨fun r hr=>h.len r (List.mem_of_mem_drop hr),fun hp=>?_,fun j u hj=>?_⟩
 ·have hlt:l<rows.length:=by simp at hp;omega
  have ha:=h.at_ (by omega)
  unfold Bc;rw[if_neg (by omega),ha]
  simp[Addr.add_mid,aB,aO]
 ·have hlt:l<rows.length:=by
   rcases Nat.lt_or_ge l rows.length with h'|h'
   ·exact h'
   ·rw[List.drop_eq_nil_of_le h']at hj;simp at hj
  have ha:=h.at_ (by omega)
  have he:Bc a l c sz=some ⟨aB a,aO a+l*sz,none⟩:=by
   unfold Bc;rw[if_neg (by omega)]
   conv=>lhs;rw[ha]
   simp[Addr.add_mid]
  rw[he];have hd:rows.flatten[l*sz+j]? = some u:=by
   have h1:rows.flatten=(rows.take l).flatten++(rows.drop l).flatten:=by rw[←List.flatten_append,List.take_append_drop]
   have h2:(rows.take l).flatten.length=l*sz:=by
    rw[T5 (sz:=sz) fun r hr=>h.len r (List.mem_of_mem_take hr)];rw[List.length_take,Nat.min_eq_left (by omega)]
   rw[h1,List.getElem?_append_right (by omega),h2]
   rw[show l*sz+j-l*sz=j from by omega];exact hj
  have:=h.range _ u hd
  show w.cell? ⟨aB a,aO a+l*sz+j,none⟩=some u
  rwa [Nat.add_assoc]
theorem D7.cut{a:Option Addr}{n c l h:Nat}(hr:D7 Γ (.slice a n c) sz rows)(h1:l≤h)(h2:h≤n):D7 Γ (.slice (Bc a l c sz) (h-l) (c-l)) sz ((rows.drop l).take (h-l)):=by
 unfold D7 at *
 obtain⟨h0,a',n',c',e1,e2,e3,e4,e5⟩:=hr;cases e1
 refine⟨fun r hr=>h0 r (List.mem_of_mem_drop (List.mem_of_mem_take hr)),_,_,_,rfl,by simp;omega,by omega,by omega,fun hp=>?_⟩
 have hlt:l<rows.length:=by simp at hp;omega
 obtain⟨g,o,cur,e,fr,g1,g2,g3⟩:=e5 (by omega)
 refine⟨g,o+l*sz,cur,e,fr,?_,g2,fun j u hj=>?_⟩
 ·unfold Bc;rw[if_neg (by omega),g1];simp[Addr.add_mid]
 ·rw[Nat.add_assoc];refine g3 _ u ?_
  have h1:rows.flatten=(rows.take l).flatten++(((rows.drop l).take (h-l)).flatten++((rows.drop l).drop (h-l)).flatten):=by
   rw[←List.flatten_append,List.take_append_drop,←List.flatten_append,List.take_append_drop]
  have h2:(rows.take l).flatten.length=l*sz:=by
   rw[T5 (sz:=sz) fun r hr=>h0 r (List.mem_of_mem_take hr)];rw[List.length_take,Nat.min_eq_left (by omega)]
  rw[h1,List.getElem?_append_right (by omega),h2,show l*sz+j-l*sz=j from by omega,List.getElem?_append_left (List.getElem?_eq_some_iff.1 hj).1]
  exact hj
theorem Wd.own_take{i m:Nat}{a:Option Addr}{n c:Nat}(hw:Wd Γ S w)(hi:S[i]? = some (.own (.slice a n c) e sz rows))(hm:m≤n):Wd Γ (S.set i (.own (.slice a m c) e sz (rows.take m))) w:=
 hw.upd hi ⟨rfl,rfl,rfl,(by first|exact Nat.le_refl _|exact Nat.le_succ _),Nat.le_refl _⟩ fun bs hr hnd hlt=>by
  unfold B6.own at hr ⊢
  obtain⟨h0,a',n',c',e1,e2,e3,e4,e5⟩:=hr;cases e1
  refine⟨bs,⟨fun r hr=>h0 r (List.mem_of_mem_take hr),_,_,_,rfl,by simp;omega,by omega,e4,?_⟩,hnd,fun b hb=>⟨hlt b hb,.inl hb⟩,fun _ _ _=>rfl⟩
  refine e5.imp id ?_
  rintro⟨g,cur,g1,g2,g3,g4,g5⟩;refine⟨g,cur,g1,g2,g3,g4,?_⟩
  have h1:rows.flatten=(rows.take m).flatten++(rows.drop m).flatten:=by rw[←List.flatten_append,List.take_append_drop]
  have h2:(rows.take m).flatten.length=m*sz:=by
   rw[T5 (sz:=sz) fun r hr=>h0 r (List.mem_of_mem_take hr)];rw[List.length_take,Nat.min_eq_left (by omega)]
  have h3:m*sz≤n*sz:=Nat.mul_le_mul_right _ hm
  have h4:cur.toList.take (m*sz)=(cur.toList.take (n*sz)).take (m*sz):=by rw[List.take_take,Nat.min_eq_left h3]
  rw[h4,g5,h1,List.take_left' h2]
theorem Pg{i:Nat}{a:Option Addr}{n c:Nat}{w':World}(hw:Wd Γ S w)(hi:S[i]? = some (.own (.slice a n c) e sz rows))(hs:Ew w w')
  (H:∀g cur,a=some ⟨g,0,none⟩→w.heap[g]? = some (.cells cur e (0,0))→cur.size=c*sz→∃cur',w'.heap[g]? = some (.cells cur' e (0,0))∧cur'.size=cur.size∧cur'.toList.take (n*sz)=cur.toList.take (n*sz))
  (hk:∀k,k<w.heap.size→some k≠a.map (·.block)→w'.heap[k]? = w.heap[k]?) (h0:c=0→∀k,k<w.heap.size→w'.heap[k]? = w.heap[k]?):Wd Γ (S.set i (.own (.slice a n c) e sz rows)) w':=
 hw.upd hi hs fun bs hr hnd hlt=>by
  unfold B6.own at hr ⊢
  obtain⟨q0,a',n',c',e1,e2,e3,e4,e5⟩:=hr;cases e1
  rcases e5 with⟨hc,hb⟩|⟨g,cur,g1,g2,g3,g4,g5⟩
  ·exact⟨bs,⟨q0,_,_,_,rfl,e2,e3,e4,.inl ⟨hc,hb⟩⟩,hnd,fun b hb'=>⟨Nat.lt_of_lt_of_le (hlt b hb') hs.size,.inl hb'⟩,fun k hk1 _=>h0 hc k hk1⟩
  ·obtain⟨cur',k1,k2,k3⟩:=H g cur g1 g3 g4
   refine⟨bs,⟨q0,_,_,_,rfl,e2,e3,e4,.inr ⟨g,cur',g1,g2,k1,by omega,by rw[k3];exact g5⟩⟩,hnd,fun b hb'=>⟨Nat.lt_of_lt_of_le (hlt b hb') hs.size,.inl hb'⟩,fun k hk1 hk2=>hk k hk1 fun heq=>?_⟩
   rw[g1]at heq;simp at heq;subst heq;exact hk2 (by simp[g2])
theorem VR{E by':Nat}{zs:List Value}{a:Option Addr}{n m c l:Nat}[hT:TL P T E sz by' zs]{i:Nat}(hw:Wd Γ S w)(hi:S[i]? = some (.own (.slice a m c) E sz rows))(hml:m≤l)(hln:l+n≤c)(h1:∀u∈zs,u.oneCell'=true) :
  ∃w',(Builtin.clear_ #[T] ty #[.slice (Bc a l c sz) n (c-l)]).run P w=.ok (.tuple #[]) w'∧Wd Γ (S.set i (.own (.slice a m c) E sz rows)) w':=by
 obtain⟨q,z,hq,hz,hzc⟩:=W6 hT.z
 by_cases hn:n=0
 ·subst hn;refine⟨w,?_,Pg hw hi ⟨rfl,rfl,rfl,(by first|exact Nat.le_refl _|exact Nat.le_succ _),Nat.le_refl _⟩ (fun g cur _ h2 _=>⟨cur,h2,rfl,rfl⟩) (fun _ _ _=>rfl) fun _ _ _=>rfl⟩
  cases hca:Bc a l c sz <;> simp[Builtin.clear_,run_underlying hT.h]
 ·obtain⟨bs,hr⟩:=hw.own_holds hi
  unfold B6.own at hr;obtain⟨q0,a',n',c',e1,e2,e3,e4,e5⟩:=hr;cases e1
  rcases e5 with⟨hc,_⟩|⟨g,cur,g1,g2,g3,g4,g5⟩
  ·omega
  ·subst g1;have hcut:Bc (some ⟨g,0,none⟩) l c sz=some ⟨g,l*sz,none⟩:=by
    unfold Bc;rw[if_neg (by omega)];simp[Addr.add_mid]
   have hzl:(Builtin.zeroCells z.cells n).toList.length=n*sz:=by
    have:=size_zeroCells z.cells n
    rw[Array.length_toList,this,hzc];simp[hT.n.1]
   have h1':∀u∈(Builtin.zeroCells z.cells n).toList,u.oneCell'=true:=fun u hu=>by
    simp only[Builtin.zeroCells,Array.toList_map,List.mem_map]at hu
    obtain⟨j,hj,rfl⟩:=hu;have hlt:j%z.cells.size<z.cells.size:=Nat.mod_lt _ (by rw[hzc];simp[hT.n.1];exact hT.n.2)
    rw[getElem!_pos z.cells _ hlt];have hmem:z.cells[j%z.cells.size]∈z.cells.toList:=Array.mem_toList_iff.2 (Array.getElem_mem hlt)
    have he:z.cells.toList=zs:=by rw[hzc]
    rw[he]at hmem;exact h1 _ hmem
   have hfit:l*sz+0+(Builtin.zeroCells z.cells n).toList.length≤cur.size:=by
    rw[hzl,g4,Nat.add_zero,←Nat.add_mul];exact Nat.mul_le_mul_right _ hln
   have hst:=run_storeCells_at P g (l*sz) E _ 0 cur w g3 hfit h1'
   simp only[Nat.add_zero]at hst
   have hzv:(zeroValue E).run P w=.ok z w:=by simp[zeroValue,typeInfo,hq,hz]
   have hg:g<w.heap.size:=(Array.getElem?_eq_some_iff.1 g3).1
   refine⟨_,?_,Pg (w':=w.setRow g (cur.toList.take (l*sz)++(Builtin.zeroCells z.cells n).toList++cur.toList.drop (l*sz+(Builtin.zeroCells z.cells n).toList.length)).toArray) hw hi ⟨rfl,rfl,rfl,(by first|exact Nat.le_refl _|exact Nat.le_succ _),by simp⟩ ?_ ?_ ?_⟩
   ·rw[hcut];obtain⟨n1,hn1⟩:∃n1,n=n1+1:=⟨n-1,by omega⟩
    subst hn1;simp[Builtin.clear_,run_underlying hT.h,hzv,hst]
   ·intro g' cur' hg' hcur' _;cases hg'
    rw[show w.heap[g]? = some (.cells cur E (0,0)) from g3]at hcur';cases hcur'
    refine⟨_,setRow_heap w g cur _ E _ g3,?_,?_⟩
    ·have hz2:(Builtin.zeroCells z.cells n).size=n*sz:=by simpa using hzl
     simp only[Array.length_toList,hz2]at hfit
     simp only[List.size_toArray,List.length_append,List.length_take,List.length_drop,Array.length_toList,hz2];omega
    ·have hmul:m*sz≤l*sz:=Nat.mul_le_mul_right _ hml
     simp only[List.append_assoc]
     rw[List.take_append_of_le_length (by rw[List.length_take,Array.length_toList];exact Nat.le_min.2 ⟨hmul,by omega⟩),List.take_take,Nat.min_eq_left hmul]
   ·intro k hk hne;exact setRow_other w g k _ (fun e=>hne (by simp[e]))
   ·intro hc0;omega
theorem bh{E by':Nat}{zs:List Value}{a:Option Addr}{n m c l i:Nat}[hT:TL P T E sz by' zs](hw:Wd Γ S w)(hi:S[i]? = some (.own (.slice a m c) E sz rows))(hx:ev ρ x=.slice (Bc a l c sz) n (c-l))(hml:m≤l)(hln:l+n≤c)(h1:zs.all (·.oneCell')=true)
  (hk:∀w',Wd Γ (S.set i (.own (.slice a m c) E sz rows)) w'→K (.tuple #[]) w'):Step P ⟨d,.call { callee:=.builtin .clear,args:=#[x],argTypes:=#[T] },ty,pos,es,g⟩ ρ w K:=by
 obtain⟨w',hr,hw'⟩:=VR (P:=P) (T:=T) (ty:=ty) (n:=n) hw hi hml hln (fun u hu=>(List.all_eq_true.1 h1) u hu)
 have hrr:(execOp (ev ρ) ⟨d,.call { callee:=.builtin .clear,args:=#[x],argTypes:=#[T] },ty,pos,es,g⟩).run P w=.ok (.value (.tuple #[])) w':=by
  simp only[execOp,resolve,invoke,builtin,Sem.run_bind,Sem.run_pure,Result.andThen_ok,List.map_toArray,List.map_cons,List.map_nil,hx,hr]
 have hfin:=hk w' hw'
 unfold Step;rw[hrr];exact hfin
theorem X4:∀ {rows:List (List Value)} {k:Nat} {r:List Value},(∀r∈rows,r.length=sz)→r.length=sz→k<rows.length→(rows.set k r).flatten=rows.flatten.take (k*sz)++r++rows.flatten.drop (k*sz+sz)
 | [],_,_,_,_,hk=>by simp at hk
 | r0::rows,0,r,h,hr,_=>by
  have h0:=h r0 (by simp)
  simp[←h0]
 | r0::rows,k+1,r,h,hr,hk=>by
  have h0:=h r0 (by simp)
  have ih:=X4 (rows:=rows) (k:=k) (r:=r) (fun x hx=>h x (by simp[hx])) hr (by simpa using hk)
  simp only[List.set_cons_succ,List.flatten_cons,ih]
  have e1:(k+1)*sz=r0.length+k*sz:=by rw[h0,Nat.add_mul];omega
  have e2:(k+1)*sz+sz=r0.length+(k*sz+sz):=by omega
  rw[e2,e1,List.take_length_add_append,List.drop_length_add_append];simp
theorem Pi{E k i n c:Nat}{a:Option Addr}{v:Value}{r:List Value}(hn:(P.info? T).map (·.size)=some sz)(hw:Wd Γ S w)(hx:ev ρ x=.pointer (some ⟨aB a,aO a+k*sz,none⟩))(hy:ev ρ y=v)(hv:v.cells.toList=r)(hl:r.length=sz)
  (h1:r.all (·.oneCell')=true) (hi:S[i]? = some (.own (.slice a n c) E sz rows)) (hkl:k<n) (hk:∀w',Wd Γ (S.set i (.own (.slice a n c) E sz (rows.set k r))) w'→K undef w'):Step P ⟨d,.store T x y,ty,pos,es,g⟩ ρ w K:=by
 obtain⟨bs0,hr0⟩:=hw.own_holds hi
 unfold B6.own at hr0;obtain⟨q0,a',n',c',e1,e2,e3,e4,e5⟩:=hr0;cases e1
 rcases e5 with⟨hc,_⟩|⟨b,cur,g1,g2,g3,g4,g5⟩
 ·omega
 ·subst g1;have hx':ev ρ x=.pointer (some ⟨b,k*sz,none⟩):=by rw[hx];simp[aB,aO]
  have hfit:k*sz+0+r.length≤cur.size:=by
   rw[hl,g4,Nat.add_zero,show k*sz+sz=(k+1)*sz from by rw[Nat.add_mul];omega];exact Nat.mul_le_mul_right _ (by omega)
  have hst:=run_storeCells_at P b (k*sz) E r 0 cur w g3 hfit (fun u hu=>(List.all_eq_true.1 h1) u hu)
  simp only[Nat.add_zero]at hst
  have hsz:v.cells.size=sz:=by rw[←hl,←hv];simp
  have hr:(execOp (ev ρ) ⟨d,.store T x y,ty,pos,es,g⟩).run P w=.ok .skip (w.setRow b (cur.toList.take (k*sz)++r++cur.toList.drop (k*sz+r.length)).toArray):=by
   cases hq:P.info? T with
   | none=>simp[hq]at hn
   | some q=>
    have hs:q.size=sz:=by simpa[hq] using hn
    have hz:(Go.sizeOf T).run P w=.ok sz w:=by simp[Go.sizeOf,typeInfo,hq,hs]
    have hsv:(storeVar T ⟨b,k*sz,none⟩ v).run P w=.ok () (w.setRow b (cur.toList.take (k*sz)++r++cur.toList.drop (k*sz+r.length)).toArray):=by
     unfold storeVar;rw[Sem.run_bind,hz];simp only[Result.andThen_ok,hsz,ne_eq,not_true_eq_false,if_false,hv]
     exact hst
    simp only[execOp,hx',hy,Instr.storeAt,Instr.sureAddr,Sem.run_bind,Sem.run_pure,Result.andThen_ok,hsv]
  have hfin:=hk _ (hw.upd hi (w':=w.setRow b (cur.toList.take (k*sz)++r++cur.toList.drop (k*sz+r.length)).toArray) ⟨rfl,rfl,rfl,(by first|exact Nat.le_refl _|exact Nat.le_succ _),by simp⟩ fun bs hr' hnd hlt=>by
   unfold B6.own at hr' ⊢
   obtain⟨q0',a2,n2,c2,f1,f2,f3,f4,f5⟩:=hr';cases f1
   rcases f5 with⟨hc,_⟩|⟨b2,cur2,k1,k2,k3,k4,k5⟩
   ·omega
   ·cases k1
    rw[show hp w b=some (.cells cur E (0,0)) from g3]at k3;cases k3
    refine⟨bs,⟨?_,_,_,_,rfl,by simpa using f2,f3,f4,.inr ⟨b,_,rfl,k2,setRow_heap w b cur _ E _ g3,?_,?_⟩⟩,hnd,fun x hx=>⟨by have:=hlt x hx;simpa using this,.inl hx⟩,fun k' _ hne=>setRow_other w b k' _ (fun e=>hne (by simp[k2,e]))⟩
    ·intro r' hr';rcases List.mem_or_eq_of_mem_set hr' with h|rfl
     ·exact q0 r' h
     ·exact hl
    ·simp only[List.size_toArray,List.length_append,List.length_take,List.length_drop,Array.length_toList];omega
    ·rw[X4 q0 hl (by omega),←g5]
     have hkn:k*sz+sz≤n*sz:=by rw[show k*sz+sz=(k+1)*sz from by rw[Nat.add_mul];omega];exact Nat.mul_le_mul_right _ (by omega)
     have hns:n*sz≤cur.toList.length:=by rw[Array.length_toList,g4];exact Nat.mul_le_mul_right _ e3
     simp only[List.take_append,List.length_append,List.length_take,hl,List.take_take,List.drop_take]
     have m1:min (k*sz) cur.toList.length=k*sz:=by omega
     rw[m1,Nat.min_eq_right (by omega:k*sz≤n*sz),Nat.min_eq_left (by omega:k*sz≤n*sz),List.take_of_length_le (by omega:r.length≤n*sz-k*sz)]
    )
  unfold Step;rw[hr];exact hfin
theorem R4{E by' len:Nat}{zs:List Value}{parts:Array (Nat×Operand)}{cells:List Value}{rws:List (List Value)}[hT:TL P T E sz by' zs](hw:Wd Γ S w)
  (hf:r8 (fun i=>some (i*sz,sz)) ((List.range (len*sz)).map fun i=>zs.getD (i%sz) undef) (parts.toList.map fun p=>(p.1,ev ρ p.2))=some cells) (hrw:rws.flatten=cells) (hlen:rws.length=len) (hr:∀r∈rws,r.length=sz) (hbig:len*sz≤16777216)
  (hk:∀a w',Wd Γ (.own (.slice (some a) len len) E sz rws::S) w'→K (.slice (some a) len len) w'):Step P ⟨d,.buildSlice T len parts,ty,pos,es,g⟩ ρ w K:=by
 obtain⟨q,z,hq,hz,hzc⟩:=W6 hT.z
 obtain⟨q',hq',hs,_⟩:=W8 hT.s
 rw[hq]at hq';cases hq'
 have hsz:(Go.sizeOf E).run P w=.ok sz w:=by simp[Go.sizeOf,typeInfo,hq,hs]
 have hzv:(zeroValue E).run P w=.ok z w:=by simp[zeroValue,typeInfo,hq,hz]
 have hff:=Cm (fun i=>some (i*sz,sz)) _ _ cells hf
 have hpm:(parts.map fun (i,x)=>(i,ev ρ x)).toList=parts.toList.map fun p=>(p.1,ev ρ p.2):=JB parts
 have hr0:(execOp (ev ρ) ⟨d,.buildSlice T len parts,ty,pos,es,g⟩).run P w=.ok (.value (.slice (some ⟨w.heap.size,0,none⟩) len len)) (w.alloc (.cells cells.toArray E)):=by
  have hcs:((Array.range (len*sz)).map fun i=>(if len*sz=0 then #[] else z.cells)[i%(if len*sz=0 then #[] else z.cells).size]!)=((List.range (len*sz)).map fun i=>zs.getD (i%sz) undef).toArray:=by
   by_cases h0:len*sz=0
   ·simp[h0]
   ·simp only[h0,if_false,hzc]
    apply Array.ext'
    simp only[Array.toList_map,Array.toList_range]
    refine List.map_congr_left fun i _=>?_
    have hlt:i%sz<zs.length:=by rw[hT.n.1];exact Nat.mod_lt _ hT.n.2
    simp only[List.size_toArray,hT.n.1]
    rw[getElem!_pos (zs.toArray) _ (by simpa using hlt)]
    simp[List.getD_eq_getElem?_getD,List.getElem?_eq_getElem hlt]
  rw[←hcs,←hpm]at hff;by_cases h0:len*sz=0
  ·simp only[h0,if_true]at hff
   simp only[execOp,Instr.buildSlice,Sem.run_bind,run_underlying hT.h,Result.andThen_ok,hsz,Nat.reducePow,gt_iff_lt,Nat.not_lt.2 hbig,if_false,h0,if_true,Nat.not_lt_zero,Sem.run_pure,hff,newRow,run_newObj_alloc]
  ·simp only[h0,if_false]at hff
   simp only[execOp,Instr.buildSlice,Sem.run_bind,run_underlying hT.h,Result.andThen_ok,hsz,Nat.reducePow,gt_iff_lt,Nat.not_lt.2 hbig,if_false,h0,hzv,Sem.run_pure,hff,newRow,run_newObj_alloc]
 have hfin:=hk ⟨w.heap.size,0,none⟩ (w.alloc (.cells cells.toArray E)) (hw.add (bs:=[w.heap.size]) ⟨rfl,rfl,rfl,(by first|exact Nat.le_refl _|exact Nat.le_succ _),by simp⟩ (by
  have hfl:cells.length=len*sz:=by rw[←hrw,T5 hr,hlen]
  unfold B6.own;refine⟨hr,_,_,_,rfl,hlen.symm,Nat.le_refl _,by
   have:=hT.n.2
   have:len≤len*sz:=Nat.le_mul_of_pos_right _ this
   simp[maxLen];omega,.inr ⟨w.heap.size,cells.toArray,rfl,rfl,heap_alloc_new w _,by simpa using hfl,?_⟩⟩
  rw[hrw];simp[←hfl]) (by simp) (by simp) fun k hk=>heap_alloc_old w _ hk)
 unfold Step;rw[hr0];exact hfin
end
section
variable {P:Program}{n:Nat}{ops:List Oper}{opa:Array Oper}{Γ:C8}{S:List B6}{Q:Fr→World→Prop}{QQ:Exit→Fr→World→Prop}{ρ:Fr}{w:World}{rest:List Oper}{o:Oper}{v:Value}{j dj:Nat}{want c:Bool}
theorem lY(h:L P n opa QQ rest (D6 ρ o.dst v) w)(hg:o.guard=none:=by exact rfl)(hd:G7 n o.dst=true:=by exact rfl)(hy:Yields P o ρ w v:=by exact SK):L P n opa QQ (o::rest) ρ w:=eN hg hd hy h
theorem lG(h:L P n opa QQ rest (D6 ρ o.dst (gv c v)) w)(hg:o.guard=some (j,want):=by exact rfl)(hj:(opa[j]?).bind (·.dst)=some dj:=by exact rfl)(hjn:G7 n (some dj)=true:=by exact rfl)
  (hc:F5 (ρ dj) want c:=by exact Hd) (hd:G7 n o.dst=true:=by exact rfl) (hv:c=true→Yields P o ρ w v:=by intro hc;exact cr):L P n opa QQ (o::rest) ρ w:=gW hg hj hjn hc hd hv h
theorem qY(h:Qw P n ops Γ S Q rest (D6 ρ o.dst v))(hg:o.guard=none:=by exact rfl)(hsel:AJ o=true:=by exact rfl)(hy:∀w,Wd Γ S w→Yields P o ρ w v:=by (intro w hw;exact SK)):Qw P n ops Γ S Q (o::rest) ρ:=Q_y hg hsel hy h
theorem qG(h:Qw P n ops Γ S Q rest (D6 ρ o.dst (gv c v)))(hg:o.guard=some (j,want):=by exact rfl)(hj:(ops[j]?).bind (·.dst)=some dj:=by exact rfl)(hc:F5 (ρ dj) want c:=by exact Hd)(hsel:AJ o=true:=by exact rfl)
  (hy:c=true→∀w,Wd Γ S w→Yields P o ρ w v:=by (intro hc w hw;exact cr)):Qw P n ops Γ S Q (o::rest) ρ:=fx hg hj hc hsel hy h
end
inductive EvL (ρ:Fr):List Operand→List Value→Prop
 | nil:EvL ρ [] []
 | cons {x:Operand} {xs:List Operand} {v:Value} {vs:List Value} (h:ev ρ x=v) (t:EvL ρ xs vs):EvL ρ (x::xs) (v::vs)
theorem EvL.eq{ρ:Fr}{xs:List Operand}{vs:List Value}(h:EvL ρ xs vs):xs.map (ev ρ)=vs:=by
 induction h with
 | nil=>rfl
 | cons h _ ih=>simp[h,ih]
theorem EvL.eqA{ρ:Fr}{xs:List Operand}{vs:List Value}(h:EvL ρ xs vs):xs.toArray.map (ev ρ)=vs.toArray:=by simp[h.eq]
class Ti(P:Program)(T:TypeId)(n:outParam Nat):Prop where h:(P.info? T).map (·.size)=some n
instance tszA{P:Program}{T n:Nat}[h:TA P T n]:Ti P T n:=⟨by
 have:=h.h
 unfold JN at this;cases hu:P.underlying T with
 | none=>simp[hu]at this
 | some t=>simp[hu]at this;simpa using this.2⟩
instance tszS{P:Program}{T:Nat}[h:TS P T]:Ti P T 1:=⟨by
 have:=h.h
 unfold Fw at this;cases hu:P.underlying T with
 | none=>simp[hu]at this
 | some t=>cases t <;> simp_all⟩
section
variable {P:Program}{n:Nat}{opa:Array Oper}{Γ:C8}{S:List B6}{QQ:Exit→Fr→World→Prop}{ρ:Fr}{w:World}{rest:List Oper}
variable {d:Option Tmp}{T U ty:TypeId}{pos:String}{es:Array Edge}{x y z:Operand}{v:Value}
theorem B9{cs:List Value}[TZ P T cs](h:∀b w',Wd Γ (.blk b (.cells cs.toArray T)::S) w'→L P n opa QQ rest (D6 ρ d (.pointer (some ⟨b,0,none⟩))) w')(hd:G7 n d=true:=by exact rfl)(hw:Wd Γ S w:=by exact hw) :
  L P n opa QQ (⟨d,.alloc T,ty,pos,es,none⟩::rest) ρ w:=H5 rfl hd (TE hw h)
theorem H2(h:∀b w',Wd Γ (.blk b (.cells v.cells T)::S) w'→L P n opa QQ rest (D6 ρ d (.pointer (some ⟨b,0,none⟩))) w')(hx:ev ρ x=v:=by exact j4)(hd:G7 n d=true:=by exact rfl)(hw:Wd Γ S w:=by exact hw) :
  L P n opa QQ (⟨d,.box T x,ty,pos,es,none⟩::rest) ρ w:=H5 rfl hd (fe hw hx h)
theorem B0{b o i m:Nat}{vs:List Value}{cs:Array Value}{E:TypeId}[hn:Ti P T m](h:∀w',Wd Γ (S.set i (.blk b (.cells (putCells cs o vs) E))) w'→L P n opa QQ rest ρ w')(hw:Wd Γ S w:=by exact hw)(hx:ev ρ x=.pointer (some ⟨b,o,none⟩):=by exact rfl)
  (hy:ev ρ y=v:=by exact j4) (hv:v.cells.toList=vs:=by exact rfl) (hl:vs.length=m:=by exact rfl) (h1:vs.all (·.oneCell')=true:=by exact rfl) (hi:S[i]? = some (.blk b (.cells cs E)):=by exact GZ) (ho:o+m≤cs.size:=by exact Nat.le_of_ble_eq_true rfl) :
  L P n opa QQ (⟨none,.store T x y,ty,pos,es,none⟩::rest) ρ w:=H5 rfl rfl (AR hn.h hw hx hy hv hl (fun u hu=>(List.all_eq_true.1 h1) u hu) hi ho h)
theorem DJ{E k i m c sz:Nat}{a:Option Addr}{r:List Value}{rows:List (List Value)}[hn:Ti P T sz](h:∀w',Wd Γ (S.set i (.own (.slice a m c) E sz (rows.set k r))) w'→L P n opa QQ rest ρ w')(hw:Wd Γ S w:=by exact hw)(hx:ev ρ x=.pointer (some ⟨aB a,aO a+k*sz,none⟩):=by exact rfl)
  (hy:ev ρ y=v:=by exact j4) (hv:v.cells.toList=r:=by exact rfl) (hl:r.length=sz:=by exact rfl) (h1:r.all (·.oneCell')=true:=by exact rfl) (hi:S[i]? = some (.own (.slice a m c) E sz rows):=by exact GZ) (hk:k<m:=by omega) :
  L P n opa QQ (⟨none,.store T x y,ty,pos,es,none⟩::rest) ρ w:=H5 rfl rfl (Pi hn.h hw hx hy hv hl h1 hi hk h)
theorem bY{E by' i sz m c m2 c2:Nat}{zs:List Value}{a a2:Option Addr}{rows rows2:List (List Value)}[TL P T E sz by' zs](h:∀v' w',Wd Γ (S.set i (.own v' E sz (rows++rows2))) w'→L P n opa QQ rest (D6 ρ d v') w')(hr2:Rd w a2 sz rows2)(hm:m2=rows2.length)(h1:∀u∈rows2.flatten,u.oneCell'=true)
  (hb:(m+m2)*by'≤140737488355328) (h63:m+m2≤9223372036854775807) (hw:Wd Γ S w:=by exact hw) (hx:ev ρ x=.slice a m c:=by exact rfl) (hy:ev ρ y=.slice a2 m2 c2:=by exact rfl) (hi:S[i]? = some (.own (.slice a m c) E sz rows):=by exact GZ) (hd:G7 n d=true:=by exact rfl) :
  L P n opa QQ (⟨d,.call { callee:=.builtin .append,args:=#[x,y],argTypes:=#[T,T] },ty,pos,es,none⟩::rest) ρ w:=H5 rfl hd (EH hw hx hy hi hr2 hm h1 hb h63 h)
theorem B5{E by' len sz:Nat}{zs:List Value}{parts:Array (Nat×Operand)}{cells:List Value}(rws:List (List Value))[TL P T E sz by' zs](h:∀a w',Wd Γ (.own (.slice (some a) len len) E sz rws::S) w'→L P n opa QQ rest (D6 ρ d (.slice (some a) len len)) w')
  (hf:r8 (fun i=>some (i*sz,sz)) ((List.range (len*sz)).map fun i=>zs.getD (i%sz) undef) (parts.toList.map fun p=>(p.1,ev ρ p.2))=some cells:=by exact rfl) (hrw:rws.flatten=cells:=by exact rfl) (hlen:rws.length=len:=by exact rfl) (hr:rws.all (fun r=>Nat.beq r.length sz)=true:=by exact rfl) (hbig:Nat.ble (len*sz) 16777216=true:=by exact rfl) (hw:Wd Γ S w:=by exact hw) (hd:G7 n d=true:=by exact rfl) :
  L P n opa QQ (⟨d,.buildSlice T len parts,ty,pos,es,none⟩::rest) ρ w:=H5 rfl hd (R4 hw hf hrw hlen (fun r hm=>Nat.eq_of_beq_eq_true ((List.all_eq_true.1 hr) r hm)) (Nat.le_of_ble_eq_true hbig) h)
theorem Vw{E by' sz m c l i k:Nat}{zs:List Value}{a:Option Addr}{rows:List (List Value)}[TL P T E sz by' zs](h:∀w',Wd Γ (S.set i (.own (.slice a m c) E sz rows)) w'→L P n opa QQ rest (D6 ρ d (.tuple #[])) w')(hw:Wd Γ S w:=by exact hw)(hx:ev ρ x=.slice (Bc a l c sz) k (c-l):=by exact rfl)(hi:S[i]? = some (.own (.slice a m c) E sz rows):=by exact GZ)(hml:m≤l:=by omega)(hln:l+k≤c:=by omega)
  (h1:zs.all (·.oneCell')=true:=by exact rfl) (hd:G7 n d=true:=by exact rfl):L P n opa QQ (⟨d,.call { callee:=.builtin .clear,args:=#[x],argTypes:=#[T] },ty,pos,es,none⟩::rest) ρ w:=H5 rfl hd (bh hw hi hx hml hln h1 h)
theorem C9{f:Nat}{args:List Operand}{tys:Array TypeId}{vs:List Value}[C7 P f](hc:Calls P f vs.toArray w fun e w'=>∃v,e=.returned v∧L P n opa QQ rest (D6 ρ d v) w')(ha:EvL ρ args vs:=by exact AB)(hd:G7 n d=true:=by exact rfl) :
  L P n opa QQ (⟨d,.call { callee:=.value (.func f),args:=args.toArray,argTypes:=tys },ty,pos,es,none⟩::rest) ρ w:=H5 rfl hd (Ba ha.eqA hc)
theorem EF{f:Nat}{t:Tmp}{args:List Operand}{tys:Array TypeId}{vs fst cap:List Value}[C7 P f](hc:Calls P f (fst++vs++cap).toArray w fun e w'=>∃v,e=.returned v∧L P n opa QQ rest (D6 ρ d v) w')(ht:ρ t=.func (.func f) fst.toArray cap.toArray:=by exact rfl)(ha:EvL ρ args vs:=by exact AB)(hd:G7 n d=true:=by exact rfl) :
  L P n opa QQ (⟨d,.call { callee:=.value (.tmp t),args:=args.toArray,argTypes:=tys },ty,pos,es,none⟩::rest) ρ w:=
 H5 rfl hd (Ic ht ha.eqA (by simpa using hc))
theorem Dm{fn:Fn}{first cap:List Operand}{f1 c1:List Value}{g:Option (Nat×Bool)}(h1:EvL ρ first f1)(h2:EvL ρ cap c1):Yields P ⟨d,.makeFunc fn first.toArray cap.toArray,ty,pos,es,g⟩ ρ w (.func fn f1.toArray c1.toArray):=by
 have:=Qt (P:=P) (w:=w) (d:=d) (ty:=ty) (pos:=pos) (es:=es) (g:=g) (ρ:=ρ) (fn:=fn) (first:=first.toArray) (cap:=cap.toArray)
 rwa [h1.eqA,h2.eqA]at this
theorem i5{fn:Fn}{first cap:List Operand}{f1 c1:List Value}(h:L P n opa QQ rest (D6 ρ d (.func fn f1.toArray c1.toArray)) w)(h1:EvL ρ first f1:=by exact AB)(h2:EvL ρ cap c1:=by exact AB)(hd:G7 n d=true:=by exact rfl) :
  L P n opa QQ (⟨d,.makeFunc fn first.toArray cap.toArray,ty,pos,es,none⟩::rest) ρ w:=eN rfl hd (Dm h1 h2) h
end
end Mk
end
