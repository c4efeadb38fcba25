/- Texts of this proof, one behind another. -/
import Derived.Test.YtekdbdhkpolooaaGreatM3
import Derived.Test.YtekdbdhkpolooaaGreatChecked
/- Calls that change nothing that is owned; what is owned is made immutable. -/
section
open Go
namespace Mk
attribute [local irreducible] Calls

class PG (P : Program) (Γ : Gho) (f : Nat) (args : List Value) (v : outParam Value) : Prop where
  h : ∀ S w, Wd Γ S w → Calls P f args.toArray w fun e w' => e = .returned v ∧ Wd Γ S w'
instance (priority := low) {P : Program} {Γ : Gho} {f : Nat} {args : List Value} {v : Value} [h : PC P f args v] : PG P Γ f args v := ⟨fun _ w hw => (h.h w).mono fun _ w' ⟨h1, h2⟩ => ⟨h1, by subst h2; exact hw⟩⟩

section
variable {P : Program} {n : Nat} {ops : List Oper} {opa : Array Oper} {Γ : Gho} {S K : List Res} {Q : Fr → World → Prop} {QQ : Exit → Fr → World → Prop} {ρ : Fr} {w : World} {rest : List Oper} {wr tc stab : List (List Nat)} {i : Nat} {M : Nat → Fr → List Res}
variable {d : Option Tmp} {ty : TypeId} {pos : String} {es : Array Edge} {v : Value} {f : Nat} {args : List Operand} {tys : Array TypeId} {vs : List Value} {j dj : Nat} {want c : Bool} {g : Option (Nat × Bool)}

theorem s_pg [FnOk P f] (hp : PG P Γ f vs v) (ha : EvL ρ args vs) (hw : Wd Γ S w) : Step P ⟨d, .call { callee := .value (.func f), args := args.toArray, argTypes := tys }, ty, pos, es, g⟩ ρ w fun u w' => u = v ∧ Wd Γ S w' :=
  s_call ha.eqA ((hp.h S w hw).mono fun _ _ ⟨h1, h2⟩ => ⟨v, h1, rfl, h2⟩)
theorem lPg [FnOk P f] (h : ∀ w', Wd Γ S w' → L P n opa QQ rest (putO ρ d v) w') (hw : Wd Γ S w := by exact hw) (ha : EvL ρ args vs := by first | exact EvL.nil | exact (EvL.cons (by first | exact (rfl : _ = Value.int _ _) | exact (rfl : _ = Value.bool _) | exact (rfl : _ = Value.string _) | exact (rfl : _ = Value.slice _ _ _) | exact (rfl : _ = Value.pointer _) | exact (rfl : _ = Value.agg _) | exact (rfl : _ = Value.map _) | exact (rfl : _ = Value.tuple _) | exact (rfl : _ = Value.func _ _ _) | exact (rfl : _ = gv _ _) | exact rfl) EvL.nil) | exact (EvL.cons (by first | exact (rfl : _ = Value.int _ _) | exact (rfl : _ = Value.bool _) | exact (rfl : _ = Value.string _) | exact (rfl : _ = Value.slice _ _ _) | exact (rfl : _ = Value.pointer _) | exact (rfl : _ = Value.agg _) | exact (rfl : _ = Value.map _) | exact (rfl : _ = Value.tuple _) | exact (rfl : _ = Value.func _ _ _) | exact (rfl : _ = gv _ _) | exact rfl) (EvL.cons (by first | exact (rfl : _ = Value.int _ _) | exact (rfl : _ = Value.bool _) | exact (rfl : _ = Value.string _) | exact (rfl : _ = Value.slice _ _ _) | exact (rfl : _ = Value.pointer _) | exact (rfl : _ = Value.agg _) | exact (rfl : _ = Value.map _) | exact (rfl : _ = Value.tuple _) | exact (rfl : _ = Value.func _ _ _) | exact (rfl : _ = gv _ _) | exact rfl) EvL.nil)) | exact (EvL.cons (by first | exact (rfl : _ = Value.int _ _) | exact (rfl : _ = Value.bool _) | exact (rfl : _ = Value.string _) | exact (rfl : _ = Value.slice _ _ _) | exact (rfl : _ = Value.pointer _) | exact (rfl : _ = Value.agg _) | exact (rfl : _ = Value.map _) | exact (rfl : _ = Value.tuple _) | exact (rfl : _ = Value.func _ _ _) | exact (rfl : _ = gv _ _) | exact rfl) (EvL.cons (by first | exact (rfl : _ = Value.int _ _) | exact (rfl : _ = Value.bool _) | exact (rfl : _ = Value.string _) | exact (rfl : _ = Value.slice _ _ _) | exact (rfl : _ = Value.pointer _) | exact (rfl : _ = Value.agg _) | exact (rfl : _ = Value.map _) | exact (rfl : _ = Value.tuple _) | exact (rfl : _ = Value.func _ _ _) | exact (rfl : _ = gv _ _) | exact rfl) (EvL.cons (by first | exact (rfl : _ = Value.int _ _) | exact (rfl : _ = Value.bool _) | exact (rfl : _ = Value.string _) | exact (rfl : _ = Value.slice _ _ _) | exact (rfl : _ = Value.pointer _) | exact (rfl : _ = Value.agg _) | exact (rfl : _ = Value.map _) | exact (rfl : _ = Value.tuple _) | exact (rfl : _ = Value.func _ _ _) | exact (rfl : _ = gv _ _) | exact rfl) EvL.nil))) | exact (EvL.cons (by first | exact (rfl : _ = Value.int _ _) | exact (rfl : _ = Value.bool _) | exact (rfl : _ = Value.string _) | exact (rfl : _ = Value.slice _ _ _) | exact (rfl : _ = Value.pointer _) | exact (rfl : _ = Value.agg _) | exact (rfl : _ = Value.map _) | exact (rfl : _ = Value.tuple _) | exact (rfl : _ = Value.func _ _ _) | exact (rfl : _ = gv _ _) | exact rfl) (EvL.cons (by first | exact (rfl : _ = Value.int _ _) | exact (rfl : _ = Value.bool _) | exact (rfl : _ = Value.string _) | exact (rfl : _ = Value.slice _ _ _) | exact (rfl : _ = Value.pointer _) | exact (rfl : _ = Value.agg _) | exact (rfl : _ = Value.map _) | exact (rfl : _ = Value.tuple _) | exact (rfl : _ = Value.func _ _ _) | exact (rfl : _ = gv _ _) | exact rfl) (EvL.cons (by first | exact (rfl : _ = Value.int _ _) | exact (rfl : _ = Value.bool _) | exact (rfl : _ = Value.string _) | exact (rfl : _ = Value.slice _ _ _) | exact (rfl : _ = Value.pointer _) | exact (rfl : _ = Value.agg _) | exact (rfl : _ = Value.map _) | exact (rfl : _ = Value.tuple _) | exact (rfl : _ = Value.func _ _ _) | exact (rfl : _ = gv _ _) | exact rfl) (EvL.cons (by first | exact (rfl : _ = Value.int _ _) | exact (rfl : _ = Value.bool _) | exact (rfl : _ = Value.string _) | exact (rfl : _ = Value.slice _ _ _) | exact (rfl : _ = Value.pointer _) | exact (rfl : _ = Value.agg _) | exact (rfl : _ = Value.map _) | exact (rfl : _ = Value.tuple _) | exact (rfl : _ = Value.func _ _ _) | exact (rfl : _ = gv _ _) | exact rfl) EvL.nil)))) | exact (EvL.cons (by first | exact (rfl : _ = Value.int _ _) | exact (rfl : _ = Value.bool _) | exact (rfl : _ = Value.string _) | exact (rfl : _ = Value.slice _ _ _) | exact (rfl : _ = Value.pointer _) | exact (rfl : _ = Value.agg _) | exact (rfl : _ = Value.map _) | exact (rfl : _ = Value.tuple _) | exact (rfl : _ = Value.func _ _ _) | exact (rfl : _ = gv _ _) | exact rfl) (EvL.cons (by first | exact (rfl : _ = Value.int _ _) | exact (rfl : _ = Value.bool _) | exact (rfl : _ = Value.string _) | exact (rfl : _ = Value.slice _ _ _) | exact (rfl : _ = Value.pointer _) | exact (rfl : _ = Value.agg _) | exact (rfl : _ = Value.map _) | exact (rfl : _ = Value.tuple _) | exact (rfl : _ = Value.func _ _ _) | exact (rfl : _ = gv _ _) | exact rfl) (EvL.cons (by first | exact (rfl : _ = Value.int _ _) | exact (rfl : _ = Value.bool _) | exact (rfl : _ = Value.string _) | exact (rfl : _ = Value.slice _ _ _) | exact (rfl : _ = Value.pointer _) | exact (rfl : _ = Value.agg _) | exact (rfl : _ = Value.map _) | exact (rfl : _ = Value.tuple _) | exact (rfl : _ = Value.func _ _ _) | exact (rfl : _ = gv _ _) | exact rfl) (EvL.cons (by first | exact (rfl : _ = Value.int _ _) | exact (rfl : _ = Value.bool _) | exact (rfl : _ = Value.string _) | exact (rfl : _ = Value.slice _ _ _) | exact (rfl : _ = Value.pointer _) | exact (rfl : _ = Value.agg _) | exact (rfl : _ = Value.map _) | exact (rfl : _ = Value.tuple _) | exact (rfl : _ = Value.func _ _ _) | exact (rfl : _ = gv _ _) | exact rfl) (EvL.cons (by first | exact (rfl : _ = Value.int _ _) | exact (rfl : _ = Value.bool _) | exact (rfl : _ = Value.string _) | exact (rfl : _ = Value.slice _ _ _) | exact (rfl : _ = Value.pointer _) | exact (rfl : _ = Value.agg _) | exact (rfl : _ = Value.map _) | exact (rfl : _ = Value.tuple _) | exact (rfl : _ = Value.func _ _ _) | exact (rfl : _ = gv _ _) | exact rfl) EvL.nil))))) | exact (EvL.cons (by first | exact (rfl : _ = Value.int _ _) | exact (rfl : _ = Value.bool _) | exact (rfl : _ = Value.string _) | exact (rfl : _ = Value.slice _ _ _) | exact (rfl : _ = Value.pointer _) | exact (rfl : _ = Value.agg _) | exact (rfl : _ = Value.map _) | exact (rfl : _ = Value.tuple _) | exact (rfl : _ = Value.func _ _ _) | exact (rfl : _ = gv _ _) | exact rfl) (EvL.cons (by first | exact (rfl : _ = Value.int _ _) | exact (rfl : _ = Value.bool _) | exact (rfl : _ = Value.string _) | exact (rfl : _ = Value.slice _ _ _) | exact (rfl : _ = Value.pointer _) | exact (rfl : _ = Value.agg _) | exact (rfl : _ = Value.map _) | exact (rfl : _ = Value.tuple _) | exact (rfl : _ = Value.func _ _ _) | exact (rfl : _ = gv _ _) | exact rfl) (EvL.cons (by first | exact (rfl : _ = Value.int _ _) | exact (rfl : _ = Value.bool _) | exact (rfl : _ = Value.string _) | exact (rfl : _ = Value.slice _ _ _) | exact (rfl : _ = Value.pointer _) | exact (rfl : _ = Value.agg _) | exact (rfl : _ = Value.map _) | exact (rfl : _ = Value.tuple _) | exact (rfl : _ = Value.func _ _ _) | exact (rfl : _ = gv _ _) | exact rfl) (EvL.cons (by first | exact (rfl : _ = Value.int _ _) | exact (rfl : _ = Value.bool _) | exact (rfl : _ = Value.string _) | exact (rfl : _ = Value.slice _ _ _) | exact (rfl : _ = Value.pointer _) | exact (rfl : _ = Value.agg _) | exact (rfl : _ = Value.map _) | exact (rfl : _ = Value.tuple _) | exact (rfl : _ = Value.func _ _ _) | exact (rfl : _ = gv _ _) | exact rfl) (EvL.cons (by first | exact (rfl : _ = Value.int _ _) | exact (rfl : _ = Value.bool _) | exact (rfl : _ = Value.string _) | exact (rfl : _ = Value.slice _ _ _) | exact (rfl : _ = Value.pointer _) | exact (rfl : _ = Value.agg _) | exact (rfl : _ = Value.map _) | exact (rfl : _ = Value.tuple _) | exact (rfl : _ = Value.func _ _ _) | exact (rfl : _ = gv _ _) | exact rfl) (EvL.cons (by first | exact (rfl : _ = Value.int _ _) | exact (rfl : _ = Value.bool _) | exact (rfl : _ = Value.string _) | exact (rfl : _ = Value.slice _ _ _) | exact (rfl : _ = Value.pointer _) | exact (rfl : _ = Value.agg _) | exact (rfl : _ = Value.map _) | exact (rfl : _ = Value.tuple _) | exact (rfl : _ = Value.func _ _ _) | exact (rfl : _ = gv _ _) | exact rfl) EvL.nil))))))) (hd : okDst n d = true := by exact rfl) (hp : PG P Γ f vs v := by infer_instance) :
    L P n opa QQ (⟨d, .call { callee := .value (.func f), args := args.toArray, argTypes := tys }, ty, pos, es, none⟩ :: rest) ρ w :=
  L_step rfl hd ((s_pg hp ha hw).mono fun _ w' ⟨h1, h2⟩ => by subst h1; exact h w' h2)
theorem qPg [FnOk P f] (h : Qw P n ops Γ S Q rest (putO ρ d v)) (ha : EvL ρ args vs := by first | exact EvL.nil | exact (EvL.cons (by first | exact (rfl : _ = Value.int _ _) | exact (rfl : _ = Value.bool _) | exact (rfl : _ = Value.string _) | exact (rfl : _ = Value.slice _ _ _) | exact (rfl : _ = Value.pointer _) | exact (rfl : _ = Value.agg _) | exact (rfl : _ = Value.map _) | exact (rfl : _ = Value.tuple _) | exact (rfl : _ = Value.func _ _ _) | exact (rfl : _ = gv _ _) | exact rfl) EvL.nil) | exact (EvL.cons (by first | exact (rfl : _ = Value.int _ _) | exact (rfl : _ = Value.bool _) | exact (rfl : _ = Value.string _) | exact (rfl : _ = Value.slice _ _ _) | exact (rfl : _ = Value.pointer _) | exact (rfl : _ = Value.agg _) | exact (rfl : _ = Value.map _) | exact (rfl : _ = Value.tuple _) | exact (rfl : _ = Value.func _ _ _) | exact (rfl : _ = gv _ _) | exact rfl) (EvL.cons (by first | exact (rfl : _ = Value.int _ _) | exact (rfl : _ = Value.bool _) | exact (rfl : _ = Value.string _) | exact (rfl : _ = Value.slice _ _ _) | exact (rfl : _ = Value.pointer _) | exact (rfl : _ = Value.agg _) | exact (rfl : _ = Value.map _) | exact (rfl : _ = Value.tuple _) | exact (rfl : _ = Value.func _ _ _) | exact (rfl : _ = gv _ _) | exact rfl) EvL.nil)) | exact (EvL.cons (by first | exact (rfl : _ = Value.int _ _) | exact (rfl : _ = Value.bool _) | exact (rfl : _ = Value.string _) | exact (rfl : _ = Value.slice _ _ _) | exact (rfl : _ = Value.pointer _) | exact (rfl : _ = Value.agg _) | exact (rfl : _ = Value.map _) | exact (rfl : _ = Value.tuple _) | exact (rfl : _ = Value.func _ _ _) | exact (rfl : _ = gv _ _) | exact rfl) (EvL.cons (by first | exact (rfl : _ = Value.int _ _) | exact (rfl : _ = Value.bool _) | exact (rfl : _ = Value.string _) | exact (rfl : _ = Value.slice _ _ _) | exact (rfl : _ = Value.pointer _) | exact (rfl : _ = Value.agg _) | exact (rfl : _ = Value.map _) | exact (rfl : _ = Value.tuple _) | exact (rfl : _ = Value.func _ _ _) | exact (rfl : _ = gv _ _) | exact rfl) (EvL.cons (by first | exact (rfl : _ = Value.int _ _) | exact (rfl : _ = Value.bool _) | exact (rfl : _ = Value.string _) | exact (rfl : _ = Value.slice _ _ _) | exact (rfl : _ = Value.pointer _) | exact (rfl : _ = Value.agg _) | exact (rfl : _ = Value.map _) | exact (rfl : _ = Value.tuple _) | exact (rfl : _ = Value.func _ _ _) | exact (rfl : _ = gv _ _) | exact rfl) EvL.nil))) | exact (EvL.cons (by first | exact (rfl : _ = Value.int _ _) | exact (rfl : _ = Value.bool _) | exact (rfl : _ = Value.string _) | exact (rfl : _ = Value.slice _ _ _) | exact (rfl : _ = Value.pointer _) | exact (rfl : _ = Value.agg _) | exact (rfl : _ = Value.map _) | exact (rfl : _ = Value.tuple _) | exact (rfl : _ = Value.func _ _ _) | exact (rfl : _ = gv _ _) | exact rfl) (EvL.cons (by first | exact (rfl : _ = Value.int _ _) | exact (rfl : _ = Value.bool _) | exact (rfl : _ = Value.string _) | exact (rfl : _ = Value.slice _ _ _) | exact (rfl : _ = Value.pointer _) | exact (rfl : _ = Value.agg _) | exact (rfl : _ = Value.map _) | exact (rfl : _ = Value.tuple _) | exact (rfl : _ = Value.func _ _ _) | exact (rfl : _ = gv _ _) | exact rfl) (EvL.cons (by first | exact (rfl : _ = Value.int _ _) | exact (rfl : _ = Value.bool _) | exact (rfl : _ = Value.string _) | exact (rfl : _ = Value.slice _ _ _) | exact (rfl : _ = Value.pointer _) | exact (rfl : _ = Value.agg _) | exact (rfl : _ = Value.map _) | exact (rfl : _ = Value.tuple _) | exact (rfl : _ = Value.func _ _ _) | exact (rfl : _ = gv _ _) | exact rfl) (EvL.cons (by first | exact (rfl : _ = Value.int _ _) | exact (rfl : _ = Value.bool _) | exact (rfl : _ = Value.string _) | exact (rfl : _ = Value.slice _ _ _) | exact (rfl : _ = Value.pointer _) | exact (rfl : _ = Value.agg _) | exact (rfl : _ = Value.map _) | exact (rfl : _ = Value.tuple _) | exact (rfl : _ = Value.func _ _ _) | exact (rfl : _ = gv _ _) | exact rfl) EvL.nil)))) | exact (EvL.cons (by first | exact (rfl : _ = Value.int _ _) | exact (rfl : _ = Value.bool _) | exact (rfl : _ = Value.string _) | exact (rfl : _ = Value.slice _ _ _) | exact (rfl : _ = Value.pointer _) | exact (rfl : _ = Value.agg _) | exact (rfl : _ = Value.map _) | exact (rfl : _ = Value.tuple _) | exact (rfl : _ = Value.func _ _ _) | exact (rfl : _ = gv _ _) | exact rfl) (EvL.cons (by first | exact (rfl : _ = Value.int _ _) | exact (rfl : _ = Value.bool _) | exact (rfl : _ = Value.string _) | exact (rfl : _ = Value.slice _ _ _) | exact (rfl : _ = Value.pointer _) | exact (rfl : _ = Value.agg _) | exact (rfl : _ = Value.map _) | exact (rfl : _ = Value.tuple _) | exact (rfl : _ = Value.func _ _ _) | exact (rfl : _ = gv _ _) | exact rfl) (EvL.cons (by first | exact (rfl : _ = Value.int _ _) | exact (rfl : _ = Value.bool _) | exact (rfl : _ = Value.string _) | exact (rfl : _ = Value.slice _ _ _) | exact (rfl : _ = Value.pointer _) | exact (rfl : _ = Value.agg _) | exact (rfl : _ = Value.map _) | exact (rfl : _ = Value.tuple _) | exact (rfl : _ = Value.func _ _ _) | exact (rfl : _ = gv _ _) | exact rfl) (EvL.cons (by first | exact (rfl : _ = Value.int _ _) | exact (rfl : _ = Value.bool _) | exact (rfl : _ = Value.string _) | exact (rfl : _ = Value.slice _ _ _) | exact (rfl : _ = Value.pointer _) | exact (rfl : _ = Value.agg _) | exact (rfl : _ = Value.map _) | exact (rfl : _ = Value.tuple _) | exact (rfl : _ = Value.func _ _ _) | exact (rfl : _ = gv _ _) | exact rfl) (EvL.cons (by first | exact (rfl : _ = Value.int _ _) | exact (rfl : _ = Value.bool _) | exact (rfl : _ = Value.string _) | exact (rfl : _ = Value.slice _ _ _) | exact (rfl : _ = Value.pointer _) | exact (rfl : _ = Value.agg _) | exact (rfl : _ = Value.map _) | exact (rfl : _ = Value.tuple _) | exact (rfl : _ = Value.func _ _ _) | exact (rfl : _ = gv _ _) | exact rfl) EvL.nil))))) | exact (EvL.cons (by first | exact (rfl : _ = Value.int _ _) | exact (rfl : _ = Value.bool _) | exact (rfl : _ = Value.string _) | exact (rfl : _ = Value.slice _ _ _) | exact (rfl : _ = Value.pointer _) | exact (rfl : _ = Value.agg _) | exact (rfl : _ = Value.map _) | exact (rfl : _ = Value.tuple _) | exact (rfl : _ = Value.func _ _ _) | exact (rfl : _ = gv _ _) | exact rfl) (EvL.cons (by first | exact (rfl : _ = Value.int _ _) | exact (rfl : _ = Value.bool _) | exact (rfl : _ = Value.string _) | exact (rfl : _ = Value.slice _ _ _) | exact (rfl : _ = Value.pointer _) | exact (rfl : _ = Value.agg _) | exact (rfl : _ = Value.map _) | exact (rfl : _ = Value.tuple _) | exact (rfl : _ = Value.func _ _ _) | exact (rfl : _ = gv _ _) | exact rfl) (EvL.cons (by first | exact (rfl : _ = Value.int _ _) | exact (rfl : _ = Value.bool _) | exact (rfl : _ = Value.string _) | exact (rfl : _ = Value.slice _ _ _) | exact (rfl : _ = Value.pointer _) | exact (rfl : _ = Value.agg _) | exact (rfl : _ = Value.map _) | exact (rfl : _ = Value.tuple _) | exact (rfl : _ = Value.func _ _ _) | exact (rfl : _ = gv _ _) | exact rfl) (EvL.cons (by first | exact (rfl : _ = Value.int _ _) | exact (rfl : _ = Value.bool _) | exact (rfl : _ = Value.string _) | exact (rfl : _ = Value.slice _ _ _) | exact (rfl : _ = Value.pointer _) | exact (rfl : _ = Value.agg _) | exact (rfl : _ = Value.map _) | exact (rfl : _ = Value.tuple _) | exact (rfl : _ = Value.func _ _ _) | exact (rfl : _ = gv _ _) | exact rfl) (EvL.cons (by first | exact (rfl : _ = Value.int _ _) | exact (rfl : _ = Value.bool _) | exact (rfl : _ = Value.string _) | exact (rfl : _ = Value.slice _ _ _) | exact (rfl : _ = Value.pointer _) | exact (rfl : _ = Value.agg _) | exact (rfl : _ = Value.map _) | exact (rfl : _ = Value.tuple _) | exact (rfl : _ = Value.func _ _ _) | exact (rfl : _ = gv _ _) | exact rfl) (EvL.cons (by first | exact (rfl : _ = Value.int _ _) | exact (rfl : _ = Value.bool _) | exact (rfl : _ = Value.string _) | exact (rfl : _ = Value.slice _ _ _) | exact (rfl : _ = Value.pointer _) | exact (rfl : _ = Value.agg _) | exact (rfl : _ = Value.map _) | exact (rfl : _ = Value.tuple _) | exact (rfl : _ = Value.func _ _ _) | exact (rfl : _ = gv _ _) | exact rfl) EvL.nil))))))) (hp : PG P Γ f vs v := by infer_instance) :
    Qw P n ops Γ S Q (⟨d, .call { callee := .value (.func f), args := args.toArray, argTypes := tys }, ty, pos, es, none⟩ :: rest) ρ :=
  Q_c rfl rfl (fun _ _ hw => s_pg hp ha hw) h
theorem qPgG [FnOk P f] (h : Qw P n ops Γ S Q rest (putO ρ d (gv c v))) (hj : (ops[j]?).bind (·.dst) = some dj := by exact rfl) (hc : GuardIs (ρ dj) want c := by first | exact GuardIs.t | exact GuardIs.f | exact GuardIs.gt | exact GuardIs.gf) (ha : c = true → EvL ρ args vs := by intro hc; exact (by first | exact EvL.nil | exact (EvL.cons (by first | exact (rfl : _ = Value.int _ _) | exact (rfl : _ = Value.bool _) | exact (rfl : _ = Value.string _) | exact (rfl : _ = Value.slice _ _ _) | exact (rfl : _ = Value.pointer _) | exact (rfl : _ = Value.agg _) | exact (rfl : _ = Value.map _) | exact (rfl : _ = Value.tuple _) | exact (rfl : _ = Value.func _ _ _) | exact gvT hc rfl | exact gvT (andL hc) rfl | exact gvT (andL (andL hc)) rfl | exact gvT (andL (andL (andL hc))) rfl | exact rfl) EvL.nil) | exact (EvL.cons (by first | exact (rfl : _ = Value.int _ _) | exact (rfl : _ = Value.bool _) | exact (rfl : _ = Value.string _) | exact (rfl : _ = Value.slice _ _ _) | exact (rfl : _ = Value.pointer _) | exact (rfl : _ = Value.agg _) | exact (rfl : _ = Value.map _) | exact (rfl : _ = Value.tuple _) | exact (rfl : _ = Value.func _ _ _) | exact gvT hc rfl | exact gvT (andL hc) rfl | exact gvT (andL (andL hc)) rfl | exact gvT (andL (andL (andL hc))) rfl | exact rfl) (EvL.cons (by first | exact (rfl : _ = Value.int _ _) | exact (rfl : _ = Value.bool _) | exact (rfl : _ = Value.string _) | exact (rfl : _ = Value.slice _ _ _) | exact (rfl : _ = Value.pointer _) | exact (rfl : _ = Value.agg _) | exact (rfl : _ = Value.map _) | exact (rfl : _ = Value.tuple _) | exact (rfl : _ = Value.func _ _ _) | exact gvT hc rfl | exact gvT (andL hc) rfl | exact gvT (andL (andL hc)) rfl | exact gvT (andL (andL (andL hc))) rfl | exact rfl) EvL.nil)) | exact (EvL.cons (by first | exact (rfl : _ = Value.int _ _) | exact (rfl : _ = Value.bool _) | exact (rfl : _ = Value.string _) | exact (rfl : _ = Value.slice _ _ _) | exact (rfl : _ = Value.pointer _) | exact (rfl : _ = Value.agg _) | exact (rfl : _ = Value.map _) | exact (rfl : _ = Value.tuple _) | exact (rfl : _ = Value.func _ _ _) | exact gvT hc rfl | exact gvT (andL hc) rfl | exact gvT (andL (andL hc)) rfl | exact gvT (andL (andL (andL hc))) rfl | exact rfl) (EvL.cons (by first | exact (rfl : _ = Value.int _ _) | exact (rfl : _ = Value.bool _) | exact (rfl : _ = Value.string _) | exact (rfl : _ = Value.slice _ _ _) | exact (rfl : _ = Value.pointer _) | exact (rfl : _ = Value.agg _) | exact (rfl : _ = Value.map _) | exact (rfl : _ = Value.tuple _) | exact (rfl : _ = Value.func _ _ _) | exact gvT hc rfl | exact gvT (andL hc) rfl | exact gvT (andL (andL hc)) rfl | exact gvT (andL (andL (andL hc))) rfl | exact rfl) (EvL.cons (by first | exact (rfl : _ = Value.int _ _) | exact (rfl : _ = Value.bool _) | exact (rfl : _ = Value.string _) | exact (rfl : _ = Value.slice _ _ _) | exact (rfl : _ = Value.pointer _) | exact (rfl : _ = Value.agg _) | exact (rfl : _ = Value.map _) | exact (rfl : _ = Value.tuple _) | exact (rfl : _ = Value.func _ _ _) | exact gvT hc rfl | exact gvT (andL hc) rfl | exact gvT (andL (andL hc)) rfl | exact gvT (andL (andL (andL hc))) rfl | exact rfl) EvL.nil))) | exact (EvL.cons (by first | exact (rfl : _ = Value.int _ _) | exact (rfl : _ = Value.bool _) | exact (rfl : _ = Value.string _) | exact (rfl : _ = Value.slice _ _ _) | exact (rfl : _ = Value.pointer _) | exact (rfl : _ = Value.agg _) | exact (rfl : _ = Value.map _) | exact (rfl : _ = Value.tuple _) | exact (rfl : _ = Value.func _ _ _) | exact gvT hc rfl | exact gvT (andL hc) rfl | exact gvT (andL (andL hc)) rfl | exact gvT (andL (andL (andL hc))) rfl | exact rfl) (EvL.cons (by first | exact (rfl : _ = Value.int _ _) | exact (rfl : _ = Value.bool _) | exact (rfl : _ = Value.string _) | exact (rfl : _ = Value.slice _ _ _) | exact (rfl : _ = Value.pointer _) | exact (rfl : _ = Value.agg _) | exact (rfl : _ = Value.map _) | exact (rfl : _ = Value.tuple _) | exact (rfl : _ = Value.func _ _ _) | exact gvT hc rfl | exact gvT (andL hc) rfl | exact gvT (andL (andL hc)) rfl | exact gvT (andL (andL (andL hc))) rfl | exact rfl) (EvL.cons (by first | exact (rfl : _ = Value.int _ _) | exact (rfl : _ = Value.bool _) | exact (rfl : _ = Value.string _) | exact (rfl : _ = Value.slice _ _ _) | exact (rfl : _ = Value.pointer _) | exact (rfl : _ = Value.agg _) | exact (rfl : _ = Value.map _) | exact (rfl : _ = Value.tuple _) | exact (rfl : _ = Value.func _ _ _) | exact gvT hc rfl | exact gvT (andL hc) rfl | exact gvT (andL (andL hc)) rfl | exact gvT (andL (andL (andL hc))) rfl | exact rfl) (EvL.cons (by first | exact (rfl : _ = Value.int _ _) | exact (rfl : _ = Value.bool _) | exact (rfl : _ = Value.string _) | exact (rfl : _ = Value.slice _ _ _) | exact (rfl : _ = Value.pointer _) | exact (rfl : _ = Value.agg _) | exact (rfl : _ = Value.map _) | exact (rfl : _ = Value.tuple _) | exact (rfl : _ = Value.func _ _ _) | exact gvT hc rfl | exact gvT (andL hc) rfl | exact gvT (andL (andL hc)) rfl | exact gvT (andL (andL (andL hc))) rfl | exact rfl) EvL.nil)))) | exact (EvL.cons (by first | exact (rfl : _ = Value.int _ _) | exact (rfl : _ = Value.bool _) | exact (rfl : _ = Value.string _) | exact (rfl : _ = Value.slice _ _ _) | exact (rfl : _ = Value.pointer _) | exact (rfl : _ = Value.agg _) | exact (rfl : _ = Value.map _) | exact (rfl : _ = Value.tuple _) | exact (rfl : _ = Value.func _ _ _) | exact gvT hc rfl | exact gvT (andL hc) rfl | exact gvT (andL (andL hc)) rfl | exact gvT (andL (andL (andL hc))) rfl | exact rfl) (EvL.cons (by first | exact (rfl : _ = Value.int _ _) | exact (rfl : _ = Value.bool _) | exact (rfl : _ = Value.string _) | exact (rfl : _ = Value.slice _ _ _) | exact (rfl : _ = Value.pointer _) | exact (rfl : _ = Value.agg _) | exact (rfl : _ = Value.map _) | exact (rfl : _ = Value.tuple _) | exact (rfl : _ = Value.func _ _ _) | exact gvT hc rfl | exact gvT (andL hc) rfl | exact gvT (andL (andL hc)) rfl | exact gvT (andL (andL (andL hc))) rfl | exact rfl) (EvL.cons (by first | exact (rfl : _ = Value.int _ _) | exact (rfl : _ = Value.bool _) | exact (rfl : _ = Value.string _) | exact (rfl : _ = Value.slice _ _ _) | exact (rfl : _ = Value.pointer _) | exact (rfl : _ = Value.agg _) | exact (rfl : _ = Value.map _) | exact (rfl : _ = Value.tuple _) | exact (rfl : _ = Value.func _ _ _) | exact gvT hc rfl | exact gvT (andL hc) rfl | exact gvT (andL (andL hc)) rfl | exact gvT (andL (andL (andL hc))) rfl | exact rfl) (EvL.cons (by first | exact (rfl : _ = Value.int _ _) | exact (rfl : _ = Value.bool _) | exact (rfl : _ = Value.string _) | exact (rfl : _ = Value.slice _ _ _) | exact (rfl : _ = Value.pointer _) | exact (rfl : _ = Value.agg _) | exact (rfl : _ = Value.map _) | exact (rfl : _ = Value.tuple _) | exact (rfl : _ = Value.func _ _ _) | exact gvT hc rfl | exact gvT (andL hc) rfl | exact gvT (andL (andL hc)) rfl | exact gvT (andL (andL (andL hc))) rfl | exact rfl) (EvL.cons (by first | exact (rfl : _ = Value.int _ _) | exact (rfl : _ = Value.bool _) | exact (rfl : _ = Value.string _) | exact (rfl : _ = Value.slice _ _ _) | exact (rfl : _ = Value.pointer _) | exact (rfl : _ = Value.agg _) | exact (rfl : _ = Value.map _) | exact (rfl : _ = Value.tuple _) | exact (rfl : _ = Value.func _ _ _) | exact gvT hc rfl | exact gvT (andL hc) rfl | exact gvT (andL (andL hc)) rfl | exact gvT (andL (andL (andL hc))) rfl | exact rfl) EvL.nil))))) | exact (EvL.cons (by first | exact (rfl : _ = Value.int _ _) | exact (rfl : _ = Value.bool _) | exact (rfl : _ = Value.string _) | exact (rfl : _ = Value.slice _ _ _) | exact (rfl : _ = Value.pointer _) | exact (rfl : _ = Value.agg _) | exact (rfl : _ = Value.map _) | exact (rfl : _ = Value.tuple _) | exact (rfl : _ = Value.func _ _ _) | exact gvT hc rfl | exact gvT (andL hc) rfl | exact gvT (andL (andL hc)) rfl | exact gvT (andL (andL (andL hc))) rfl | exact rfl) (EvL.cons (by first | exact (rfl : _ = Value.int _ _) | exact (rfl : _ = Value.bool _) | exact (rfl : _ = Value.string _) | exact (rfl : _ = Value.slice _ _ _) | exact (rfl : _ = Value.pointer _) | exact (rfl : _ = Value.agg _) | exact (rfl : _ = Value.map _) | exact (rfl : _ = Value.tuple _) | exact (rfl : _ = Value.func _ _ _) | exact gvT hc rfl | exact gvT (andL hc) rfl | exact gvT (andL (andL hc)) rfl | exact gvT (andL (andL (andL hc))) rfl | exact rfl) (EvL.cons (by first | exact (rfl : _ = Value.int _ _) | exact (rfl : _ = Value.bool _) | exact (rfl : _ = Value.string _) | exact (rfl : _ = Value.slice _ _ _) | exact (rfl : _ = Value.pointer _) | exact (rfl : _ = Value.agg _) | exact (rfl : _ = Value.map _) | exact (rfl : _ = Value.tuple _) | exact (rfl : _ = Value.func _ _ _) | exact gvT hc rfl | exact gvT (andL hc) rfl | exact gvT (andL (andL hc)) rfl | exact gvT (andL (andL (andL hc))) rfl | exact rfl) (EvL.cons (by first | exact (rfl : _ = Value.int _ _) | exact (rfl : _ = Value.bool _) | exact (rfl : _ = Value.string _) | exact (rfl : _ = Value.slice _ _ _) | exact (rfl : _ = Value.pointer _) | exact (rfl : _ = Value.agg _) | exact (rfl : _ = Value.map _) | exact (rfl : _ = Value.tuple _) | exact (rfl : _ = Value.func _ _ _) | exact gvT hc rfl | exact gvT (andL hc) rfl | exact gvT (andL (andL hc)) rfl | exact gvT (andL (andL (andL hc))) rfl | exact rfl) (EvL.cons (by first | exact (rfl : _ = Value.int _ _) | exact (rfl : _ = Value.bool _) | exact (rfl : _ = Value.string _) | exact (rfl : _ = Value.slice _ _ _) | exact (rfl : _ = Value.pointer _) | exact (rfl : _ = Value.agg _) | exact (rfl : _ = Value.map _) | exact (rfl : _ = Value.tuple _) | exact (rfl : _ = Value.func _ _ _) | exact gvT hc rfl | exact gvT (andL hc) rfl | exact gvT (andL (andL hc)) rfl | exact gvT (andL (andL (andL hc))) rfl | exact rfl) (EvL.cons (by first | exact (rfl : _ = Value.int _ _) | exact (rfl : _ = Value.bool _) | exact (rfl : _ = Value.string _) | exact (rfl : _ = Value.slice _ _ _) | exact (rfl : _ = Value.pointer _) | exact (rfl : _ = Value.agg _) | exact (rfl : _ = Value.map _) | exact (rfl : _ = Value.tuple _) | exact (rfl : _ = Value.func _ _ _) | exact gvT hc rfl | exact gvT (andL hc) rfl | exact gvT (andL (andL hc)) rfl | exact gvT (andL (andL (andL hc))) rfl | exact rfl) EvL.nil)))))))) (hp : PG P Γ f vs v := by infer_instance) :
    Qw P n ops Γ S Q (⟨d, .call { callee := .value (.func f), args := args.toArray, argTypes := tys }, ty, pos, es, some (j, want)⟩ :: rest) ρ :=
  Q_gc rfl hj hc rfl (fun ht _ _ hw => s_pg hp (ha ht) hw) h
theorem qPgH [FnOk P f] (hp : c = true → PG P Γ f vs v) (h : Qw P n ops Γ S Q rest (putO ρ d (gv c v))) (hj : (ops[j]?).bind (·.dst) = some dj := by exact rfl) (hc : GuardIs (ρ dj) want c := by first | exact GuardIs.t | exact GuardIs.f | exact GuardIs.gt | exact GuardIs.gf) (ha : c = true → EvL ρ args vs := by intro hc; exact (by first | exact EvL.nil | exact (EvL.cons (by first | exact (rfl : _ = Value.int _ _) | exact (rfl : _ = Value.bool _) | exact (rfl : _ = Value.string _) | exact (rfl : _ = Value.slice _ _ _) | exact (rfl : _ = Value.pointer _) | exact (rfl : _ = Value.agg _) | exact (rfl : _ = Value.map _) | exact (rfl : _ = Value.tuple _) | exact (rfl : _ = Value.func _ _ _) | exact gvT hc rfl | exact gvT (andL hc) rfl | exact gvT (andL (andL hc)) rfl | exact gvT (andL (andL (andL hc))) rfl | exact rfl) EvL.nil) | exact (EvL.cons (by first | exact (rfl : _ = Value.int _ _) | exact (rfl : _ = Value.bool _) | exact (rfl : _ = Value.string _) | exact (rfl : _ = Value.slice _ _ _) | exact (rfl : _ = Value.pointer _) | exact (rfl : _ = Value.agg _) | exact (rfl : _ = Value.map _) | exact (rfl : _ = Value.tuple _) | exact (rfl : _ = Value.func _ _ _) | exact gvT hc rfl | exact gvT (andL hc) rfl | exact gvT (andL (andL hc)) rfl | exact gvT (andL (andL (andL hc))) rfl | exact rfl) (EvL.cons (by first | exact (rfl : _ = Value.int _ _) | exact (rfl : _ = Value.bool _) | exact (rfl : _ = Value.string _) | exact (rfl : _ = Value.slice _ _ _) | exact (rfl : _ = Value.pointer _) | exact (rfl : _ = Value.agg _) | exact (rfl : _ = Value.map _) | exact (rfl : _ = Value.tuple _) | exact (rfl : _ = Value.func _ _ _) | exact gvT hc rfl | exact gvT (andL hc) rfl | exact gvT (andL (andL hc)) rfl | exact gvT (andL (andL (andL hc))) rfl | exact rfl) EvL.nil)) | exact (EvL.cons (by first | exact (rfl : _ = Value.int _ _) | exact (rfl : _ = Value.bool _) | exact (rfl : _ = Value.string _) | exact (rfl : _ = Value.slice _ _ _) | exact (rfl : _ = Value.pointer _) | exact (rfl : _ = Value.agg _) | exact (rfl : _ = Value.map _) | exact (rfl : _ = Value.tuple _) | exact (rfl : _ = Value.func _ _ _) | exact gvT hc rfl | exact gvT (andL hc) rfl | exact gvT (andL (andL hc)) rfl | exact gvT (andL (andL (andL hc))) rfl | exact rfl) (EvL.cons (by first | exact (rfl : _ = Value.int _ _) | exact (rfl : _ = Value.bool _) | exact (rfl : _ = Value.string _) | exact (rfl : _ = Value.slice _ _ _) | exact (rfl : _ = Value.pointer _) | exact (rfl : _ = Value.agg _) | exact (rfl : _ = Value.map _) | exact (rfl : _ = Value.tuple _) | exact (rfl : _ = Value.func _ _ _) | exact gvT hc rfl | exact gvT (andL hc) rfl | exact gvT (andL (andL hc)) rfl | exact gvT (andL (andL (andL hc))) rfl | exact rfl) (EvL.cons (by first | exact (rfl : _ = Value.int _ _) | exact (rfl : _ = Value.bool _) | exact (rfl : _ = Value.string _) | exact (rfl : _ = Value.slice _ _ _) | exact (rfl : _ = Value.pointer _) | exact (rfl : _ = Value.agg _) | exact (rfl : _ = Value.map _) | exact (rfl : _ = Value.tuple _) | exact (rfl : _ = Value.func _ _ _) | exact gvT hc rfl | exact gvT (andL hc) rfl | exact gvT (andL (andL hc)) rfl | exact gvT (andL (andL (andL hc))) rfl | exact rfl) EvL.nil))) | exact (EvL.cons (by first | exact (rfl : _ = Value.int _ _) | exact (rfl : _ = Value.bool _) | exact (rfl : _ = Value.string _) | exact (rfl : _ = Value.slice _ _ _) | exact (rfl : _ = Value.pointer _) | exact (rfl : _ = Value.agg _) | exact (rfl : _ = Value.map _) | exact (rfl : _ = Value.tuple _) | exact (rfl : _ = Value.func _ _ _) | exact gvT hc rfl | exact gvT (andL hc) rfl | exact gvT (andL (andL hc)) rfl | exact gvT (andL (andL (andL hc))) rfl | exact rfl) (EvL.cons (by first | exact (rfl : _ = Value.int _ _) | exact (rfl : _ = Value.bool _) | exact (rfl : _ = Value.string _) | exact (rfl : _ = Value.slice _ _ _) | exact (rfl : _ = Value.pointer _) | exact (rfl : _ = Value.agg _) | exact (rfl : _ = Value.map _) | exact (rfl : _ = Value.tuple _) | exact (rfl : _ = Value.func _ _ _) | exact gvT hc rfl | exact gvT (andL hc) rfl | exact gvT (andL (andL hc)) rfl | exact gvT (andL (andL (andL hc))) rfl | exact rfl) (EvL.cons (by first | exact (rfl : _ = Value.int _ _) | exact (rfl : _ = Value.bool _) | exact (rfl : _ = Value.string _) | exact (rfl : _ = Value.slice _ _ _) | exact (rfl : _ = Value.pointer _) | exact (rfl : _ = Value.agg _) | exact (rfl : _ = Value.map _) | exact (rfl : _ = Value.tuple _) | exact (rfl : _ = Value.func _ _ _) | exact gvT hc rfl | exact gvT (andL hc) rfl | exact gvT (andL (andL hc)) rfl | exact gvT (andL (andL (andL hc))) rfl | exact rfl) (EvL.cons (by first | exact (rfl : _ = Value.int _ _) | exact (rfl : _ = Value.bool _) | exact (rfl : _ = Value.string _) | exact (rfl : _ = Value.slice _ _ _) | exact (rfl : _ = Value.pointer _) | exact (rfl : _ = Value.agg _) | exact (rfl : _ = Value.map _) | exact (rfl : _ = Value.tuple _) | exact (rfl : _ = Value.func _ _ _) | exact gvT hc rfl | exact gvT (andL hc) rfl | exact gvT (andL (andL hc)) rfl | exact gvT (andL (andL (andL hc))) rfl | exact rfl) EvL.nil)))) | exact (EvL.cons (by first | exact (rfl : _ = Value.int _ _) | exact (rfl : _ = Value.bool _) | exact (rfl : _ = Value.string _) | exact (rfl : _ = Value.slice _ _ _) | exact (rfl : _ = Value.pointer _) | exact (rfl : _ = Value.agg _) | exact (rfl : _ = Value.map _) | exact (rfl : _ = Value.tuple _) | exact (rfl : _ = Value.func _ _ _) | exact gvT hc rfl | exact gvT (andL hc) rfl | exact gvT (andL (andL hc)) rfl | exact gvT (andL (andL (andL hc))) rfl | exact rfl) (EvL.cons (by first | exact (rfl : _ = Value.int _ _) | exact (rfl : _ = Value.bool _) | exact (rfl : _ = Value.string _) | exact (rfl : _ = Value.slice _ _ _) | exact (rfl : _ = Value.pointer _) | exact (rfl : _ = Value.agg _) | exact (rfl : _ = Value.map _) | exact (rfl : _ = Value.tuple _) | exact (rfl : _ = Value.func _ _ _) | exact gvT hc rfl | exact gvT (andL hc) rfl | exact gvT (andL (andL hc)) rfl | exact gvT (andL (andL (andL hc))) rfl | exact rfl) (EvL.cons (by first | exact (rfl : _ = Value.int _ _) | exact (rfl : _ = Value.bool _) | exact (rfl : _ = Value.string _) | exact (rfl : _ = Value.slice _ _ _) | exact (rfl : _ = Value.pointer _) | exact (rfl : _ = Value.agg _) | exact (rfl : _ = Value.map _) | exact (rfl : _ = Value.tuple _) | exact (rfl : _ = Value.func _ _ _) | exact gvT hc rfl | exact gvT (andL hc) rfl | exact gvT (andL (andL hc)) rfl | exact gvT (andL (andL (andL hc))) rfl | exact rfl) (EvL.cons (by first | exact (rfl : _ = Value.int _ _) | exact (rfl : _ = Value.bool _) | exact (rfl : _ = Value.string _) | exact (rfl : _ = Value.slice _ _ _) | exact (rfl : _ = Value.pointer _) | exact (rfl : _ = Value.agg _) | exact (rfl : _ = Value.map _) | exact (rfl : _ = Value.tuple _) | exact (rfl : _ = Value.func _ _ _) | exact gvT hc rfl | exact gvT (andL hc) rfl | exact gvT (andL (andL hc)) rfl | exact gvT (andL (andL (andL hc))) rfl | exact rfl) (EvL.cons (by first | exact (rfl : _ = Value.int _ _) | exact (rfl : _ = Value.bool _) | exact (rfl : _ = Value.string _) | exact (rfl : _ = Value.slice _ _ _) | exact (rfl : _ = Value.pointer _) | exact (rfl : _ = Value.agg _) | exact (rfl : _ = Value.map _) | exact (rfl : _ = Value.tuple _) | exact (rfl : _ = Value.func _ _ _) | exact gvT hc rfl | exact gvT (andL hc) rfl | exact gvT (andL (andL hc)) rfl | exact gvT (andL (andL (andL hc))) rfl | exact rfl) EvL.nil))))) | exact (EvL.cons (by first | exact (rfl : _ = Value.int _ _) | exact (rfl : _ = Value.bool _) | exact (rfl : _ = Value.string _) | exact (rfl : _ = Value.slice _ _ _) | exact (rfl : _ = Value.pointer _) | exact (rfl : _ = Value.agg _) | exact (rfl : _ = Value.map _) | exact (rfl : _ = Value.tuple _) | exact (rfl : _ = Value.func _ _ _) | exact gvT hc rfl | exact gvT (andL hc) rfl | exact gvT (andL (andL hc)) rfl | exact gvT (andL (andL (andL hc))) rfl | exact rfl) (EvL.cons (by first | exact (rfl : _ = Value.int _ _) | exact (rfl : _ = Value.bool _) | exact (rfl : _ = Value.string _) | exact (rfl : _ = Value.slice _ _ _) | exact (rfl : _ = Value.pointer _) | exact (rfl : _ = Value.agg _) | exact (rfl : _ = Value.map _) | exact (rfl : _ = Value.tuple _) | exact (rfl : _ = Value.func _ _ _) | exact gvT hc rfl | exact gvT (andL hc) rfl | exact gvT (andL (andL hc)) rfl | exact gvT (andL (andL (andL hc))) rfl | exact rfl) (EvL.cons (by first | exact (rfl : _ = Value.int _ _) | exact (rfl : _ = Value.bool _) | exact (rfl : _ = Value.string _) | exact (rfl : _ = Value.slice _ _ _) | exact (rfl : _ = Value.pointer _) | exact (rfl : _ = Value.agg _) | exact (rfl : _ = Value.map _) | exact (rfl : _ = Value.tuple _) | exact (rfl : _ = Value.func _ _ _) | exact gvT hc rfl | exact gvT (andL hc) rfl | exact gvT (andL (andL hc)) rfl | exact gvT (andL (andL (andL hc))) rfl | exact rfl) (EvL.cons (by first | exact (rfl : _ = Value.int _ _) | exact (rfl : _ = Value.bool _) | exact (rfl : _ = Value.string _) | exact (rfl : _ = Value.slice _ _ _) | exact (rfl : _ = Value.pointer _) | exact (rfl : _ = Value.agg _) | exact (rfl : _ = Value.map _) | exact (rfl : _ = Value.tuple _) | exact (rfl : _ = Value.func _ _ _) | exact gvT hc rfl | exact gvT (andL hc) rfl | exact gvT (andL (andL hc)) rfl | exact gvT (andL (andL (andL hc))) rfl | exact rfl) (EvL.cons (by first | exact (rfl : _ = Value.int _ _) | exact (rfl : _ = Value.bool _) | exact (rfl : _ = Value.string _) | exact (rfl : _ = Value.slice _ _ _) | exact (rfl : _ = Value.pointer _) | exact (rfl : _ = Value.agg _) | exact (rfl : _ = Value.map _) | exact (rfl : _ = Value.tuple _) | exact (rfl : _ = Value.func _ _ _) | exact gvT hc rfl | exact gvT (andL hc) rfl | exact gvT (andL (andL hc)) rfl | exact gvT (andL (andL (andL hc))) rfl | exact rfl) (EvL.cons (by first | exact (rfl : _ = Value.int _ _) | exact (rfl : _ = Value.bool _) | exact (rfl : _ = Value.string _) | exact (rfl : _ = Value.slice _ _ _) | exact (rfl : _ = Value.pointer _) | exact (rfl : _ = Value.agg _) | exact (rfl : _ = Value.map _) | exact (rfl : _ = Value.tuple _) | exact (rfl : _ = Value.func _ _ _) | exact gvT hc rfl | exact gvT (andL hc) rfl | exact gvT (andL (andL hc)) rfl | exact gvT (andL (andL (andL hc))) rfl | exact rfl) EvL.nil)))))))) :
    Qw P n ops Γ S Q (⟨d, .call { callee := .value (.func f), args := args.toArray, argTypes := tys }, ty, pos, es, some (j, want)⟩ :: rest) ρ :=
  Q_gc rfl hj hc rfl (fun ht _ _ hw => s_pg (hp ht) (ha ht) hw) h
theorem mPg [FnOk P f] (h : MSw (mV P n ops Γ K wr tc stab) Q (i + 1) rest ⟨putO ρ d v, M⟩) (hw0 : wr.getD i [] = [] := by exact rfl) (ho : outOf tc stab i d = true := by exact rfl) (ha : ∀ g, EvL (ovr stab.flatten g ρ) args vs := by intro g; exact (by first | exact EvL.nil | exact (EvL.cons (by first | exact (rfl : _ = Value.int _ _) | exact (rfl : _ = Value.bool _) | exact (rfl : _ = Value.string _) | exact (rfl : _ = Value.slice _ _ _) | exact (rfl : _ = Value.pointer _) | exact (rfl : _ = Value.agg _) | exact (rfl : _ = Value.map _) | exact (rfl : _ = Value.tuple _) | exact (rfl : _ = Value.func _ _ _) | exact (rfl : _ = gv _ _) | exact rfl) EvL.nil) | exact (EvL.cons (by first | exact (rfl : _ = Value.int _ _) | exact (rfl : _ = Value.bool _) | exact (rfl : _ = Value.string _) | exact (rfl : _ = Value.slice _ _ _) | exact (rfl : _ = Value.pointer _) | exact (rfl : _ = Value.agg _) | exact (rfl : _ = Value.map _) | exact (rfl : _ = Value.tuple _) | exact (rfl : _ = Value.func _ _ _) | exact (rfl : _ = gv _ _) | exact rfl) (EvL.cons (by first | exact (rfl : _ = Value.int _ _) | exact (rfl : _ = Value.bool _) | exact (rfl : _ = Value.string _) | exact (rfl : _ = Value.slice _ _ _) | exact (rfl : _ = Value.pointer _) | exact (rfl : _ = Value.agg _) | exact (rfl : _ = Value.map _) | exact (rfl : _ = Value.tuple _) | exact (rfl : _ = Value.func _ _ _) | exact (rfl : _ = gv _ _) | exact rfl) EvL.nil)) | exact (EvL.cons (by first | exact (rfl : _ = Value.int _ _) | exact (rfl : _ = Value.bool _) | exact (rfl : _ = Value.string _) | exact (rfl : _ = Value.slice _ _ _) | exact (rfl : _ = Value.pointer _) | exact (rfl : _ = Value.agg _) | exact (rfl : _ = Value.map _) | exact (rfl : _ = Value.tuple _) | exact (rfl : _ = Value.func _ _ _) | exact (rfl : _ = gv _ _) | exact rfl) (EvL.cons (by first | exact (rfl : _ = Value.int _ _) | exact (rfl : _ = Value.bool _) | exact (rfl : _ = Value.string _) | exact (rfl : _ = Value.slice _ _ _) | exact (rfl : _ = Value.pointer _) | exact (rfl : _ = Value.agg _) | exact (rfl : _ = Value.map _) | exact (rfl : _ = Value.tuple _) | exact (rfl : _ = Value.func _ _ _) | exact (rfl : _ = gv _ _) | exact rfl) (EvL.cons (by first | exact (rfl : _ = Value.int _ _) | exact (rfl : _ = Value.bool _) | exact (rfl : _ = Value.string _) | exact (rfl : _ = Value.slice _ _ _) | exact (rfl : _ = Value.pointer _) | exact (rfl : _ = Value.agg _) | exact (rfl : _ = Value.map _) | exact (rfl : _ = Value.tuple _) | exact (rfl : _ = Value.func _ _ _) | exact (rfl : _ = gv _ _) | exact rfl) EvL.nil))) | exact (EvL.cons (by first | exact (rfl : _ = Value.int _ _) | exact (rfl : _ = Value.bool _) | exact (rfl : _ = Value.string _) | exact (rfl : _ = Value.slice _ _ _) | exact (rfl : _ = Value.pointer _) | exact (rfl : _ = Value.agg _) | exact (rfl : _ = Value.map _) | exact (rfl : _ = Value.tuple _) | exact (rfl : _ = Value.func _ _ _) | exact (rfl : _ = gv _ _) | exact rfl) (EvL.cons (by first | exact (rfl : _ = Value.int _ _) | exact (rfl : _ = Value.bool _) | exact (rfl : _ = Value.string _) | exact (rfl : _ = Value.slice _ _ _) | exact (rfl : _ = Value.pointer _) | exact (rfl : _ = Value.agg _) | exact (rfl : _ = Value.map _) | exact (rfl : _ = Value.tuple _) | exact (rfl : _ = Value.func _ _ _) | exact (rfl : _ = gv _ _) | exact rfl) (EvL.cons (by first | exact (rfl : _ = Value.int _ _) | exact (rfl : _ = Value.bool _) | exact (rfl : _ = Value.string _) | exact (rfl : _ = Value.slice _ _ _) | exact (rfl : _ = Value.pointer _) | exact (rfl : _ = Value.agg _) | exact (rfl : _ = Value.map _) | exact (rfl : _ = Value.tuple _) | exact (rfl : _ = Value.func _ _ _) | exact (rfl : _ = gv _ _) | exact rfl) (EvL.cons (by first | exact (rfl : _ = Value.int _ _) | exact (rfl : _ = Value.bool _) | exact (rfl : _ = Value.string _) | exact (rfl : _ = Value.slice _ _ _) | exact (rfl : _ = Value.pointer _) | exact (rfl : _ = Value.agg _) | exact (rfl : _ = Value.map _) | exact (rfl : _ = Value.tuple _) | exact (rfl : _ = Value.func _ _ _) | exact (rfl : _ = gv _ _) | exact rfl) EvL.nil)))) | exact (EvL.cons (by first | exact (rfl : _ = Value.int _ _) | exact (rfl : _ = Value.bool _) | exact (rfl : _ = Value.string _) | exact (rfl : _ = Value.slice _ _ _) | exact (rfl : _ = Value.pointer _) | exact (rfl : _ = Value.agg _) | exact (rfl : _ = Value.map _) | exact (rfl : _ = Value.tuple _) | exact (rfl : _ = Value.func _ _ _) | exact (rfl : _ = gv _ _) | exact rfl) (EvL.cons (by first | exact (rfl : _ = Value.int _ _) | exact (rfl : _ = Value.bool _) | exact (rfl : _ = Value.string _) | exact (rfl : _ = Value.slice _ _ _) | exact (rfl : _ = Value.pointer _) | exact (rfl : _ = Value.agg _) | exact (rfl : _ = Value.map _) | exact (rfl : _ = Value.tuple _) | exact (rfl : _ = Value.func _ _ _) | exact (rfl : _ = gv _ _) | exact rfl) (EvL.cons (by first | exact (rfl : _ = Value.int _ _) | exact (rfl : _ = Value.bool _) | exact (rfl : _ = Value.string _) | exact (rfl : _ = Value.slice _ _ _) | exact (rfl : _ = Value.pointer _) | exact (rfl : _ = Value.agg _) | exact (rfl : _ = Value.map _) | exact (rfl : _ = Value.tuple _) | exact (rfl : _ = Value.func _ _ _) | exact (rfl : _ = gv _ _) | exact rfl) (EvL.cons (by first | exact (rfl : _ = Value.int _ _) | exact (rfl : _ = Value.bool _) | exact (rfl : _ = Value.string _) | exact (rfl : _ = Value.slice _ _ _) | exact (rfl : _ = Value.pointer _) | exact (rfl : _ = Value.agg _) | exact (rfl : _ = Value.map _) | exact (rfl : _ = Value.tuple _) | exact (rfl : _ = Value.func _ _ _) | exact (rfl : _ = gv _ _) | exact rfl) (EvL.cons (by first | exact (rfl : _ = Value.int _ _) | exact (rfl : _ = Value.bool _) | exact (rfl : _ = Value.string _) | exact (rfl : _ = Value.slice _ _ _) | exact (rfl : _ = Value.pointer _) | exact (rfl : _ = Value.agg _) | exact (rfl : _ = Value.map _) | exact (rfl : _ = Value.tuple _) | exact (rfl : _ = Value.func _ _ _) | exact (rfl : _ = gv _ _) | exact rfl) EvL.nil))))) | exact (EvL.cons (by first | exact (rfl : _ = Value.int _ _) | exact (rfl : _ = Value.bool _) | exact (rfl : _ = Value.string _) | exact (rfl : _ = Value.slice _ _ _) | exact (rfl : _ = Value.pointer _) | exact (rfl : _ = Value.agg _) | exact (rfl : _ = Value.map _) | exact (rfl : _ = Value.tuple _) | exact (rfl : _ = Value.func _ _ _) | exact (rfl : _ = gv _ _) | exact rfl) (EvL.cons (by first | exact (rfl : _ = Value.int _ _) | exact (rfl : _ = Value.bool _) | exact (rfl : _ = Value.string _) | exact (rfl : _ = Value.slice _ _ _) | exact (rfl : _ = Value.pointer _) | exact (rfl : _ = Value.agg _) | exact (rfl : _ = Value.map _) | exact (rfl : _ = Value.tuple _) | exact (rfl : _ = Value.func _ _ _) | exact (rfl : _ = gv _ _) | exact rfl) (EvL.cons (by first | exact (rfl : _ = Value.int _ _) | exact (rfl : _ = Value.bool _) | exact (rfl : _ = Value.string _) | exact (rfl : _ = Value.slice _ _ _) | exact (rfl : _ = Value.pointer _) | exact (rfl : _ = Value.agg _) | exact (rfl : _ = Value.map _) | exact (rfl : _ = Value.tuple _) | exact (rfl : _ = Value.func _ _ _) | exact (rfl : _ = gv _ _) | exact rfl) (EvL.cons (by first | exact (rfl : _ = Value.int _ _) | exact (rfl : _ = Value.bool _) | exact (rfl : _ = Value.string _) | exact (rfl : _ = Value.slice _ _ _) | exact (rfl : _ = Value.pointer _) | exact (rfl : _ = Value.agg _) | exact (rfl : _ = Value.map _) | exact (rfl : _ = Value.tuple _) | exact (rfl : _ = Value.func _ _ _) | exact (rfl : _ = gv _ _) | exact rfl) (EvL.cons (by first | exact (rfl : _ = Value.int _ _) | exact (rfl : _ = Value.bool _) | exact (rfl : _ = Value.string _) | exact (rfl : _ = Value.slice _ _ _) | exact (rfl : _ = Value.pointer _) | exact (rfl : _ = Value.agg _) | exact (rfl : _ = Value.map _) | exact (rfl : _ = Value.tuple _) | exact (rfl : _ = Value.func _ _ _) | exact (rfl : _ = gv _ _) | exact rfl) (EvL.cons (by first | exact (rfl : _ = Value.int _ _) | exact (rfl : _ = Value.bool _) | exact (rfl : _ = Value.string _) | exact (rfl : _ = Value.slice _ _ _) | exact (rfl : _ = Value.pointer _) | exact (rfl : _ = Value.agg _) | exact (rfl : _ = Value.map _) | exact (rfl : _ = Value.tuple _) | exact (rfl : _ = Value.func _ _ _) | exact (rfl : _ = gv _ _) | exact rfl) EvL.nil)))))))) (hp : PG P Γ f vs v := by infer_instance) :
    MSw (mV P n ops Γ K wr tc stab) Q i (⟨d, .call { callee := .value (.func f), args := args.toArray, argTypes := tys }, ty, pos, es, none⟩ :: rest) ⟨ρ, M⟩ :=
  mC (fun _ _ g hw => s_pg hp (ha g) hw) hw0 rfl ho h
end

/-- A slice that is owned, and will not be changed any more. -/
theorem Wd.freeze {Γ : Gho} {S : List Res} {w : World} {v : Value} {e sz : Nat} {rows : List (List Value)} (h : Wd Γ (.own v e sz rows :: S) w) : ∃ Γ', Γ.le Γ' ∧ RepS Γ' v sz rows ∧ Wd Γ' S w := by
  obtain ⟨bss, h1, h2, h3⟩ := h.own
  cases bss with
  | nil => exact h1.elim
  | cons bs bss =>
    obtain ⟨hr, h1⟩ := h1
    unfold Res.own at hr
    obtain ⟨e0, a, n, c, e1, e2, e3, e4, e5⟩ := hr
    rcases e5 with ⟨e5, e6⟩ | ⟨g, cur, g1, g2, g3, g4, g5⟩
    · subst e6
      refine ⟨Γ, Gho.le.refl _, by unfold RepS; exact ⟨e0, a, n, c, e1, e2, e3, e4, fun hl => by omega⟩, h.os, h.tape, h.out, h.dr, h.imm, bss, h1, by simpa using h2, fun b hb => h3 b (by simpa using hb)⟩
    · subst g2
      have hg := h3 g (by simp)
      have hnd : g ∉ bss.flatten ∧ bss.flatten.Nodup := by simpa using h2
      have hle : ∀ b o, Γ.imm b = some o → (fun b => if b = g then some (Obj.cells cur e (0, 0)) else Γ.imm b) b = some o := fun b o hb => by
        show (if b = g then _ else _) = _
        rw [if_neg (fun hh => by subst hh; rw [hg.2] at hb; cases hb)]; exact hb
      refine ⟨{ Γ with imm := fun b => if b = g then some (.cells cur e (0, 0)) else Γ.imm b }, ⟨hle, rfl, rfl, rfl, rfl⟩, ?_, h.os, h.tape, h.out, h.dr, fun b o hb => ?_, bss, Holds.loc hle S bss (fun _ _ => rfl) h1, hnd.2, fun b hb => ⟨(h3 b (by simp [hb])).1, ?_⟩⟩
      · unfold RepS
        refine ⟨e0, a, n, c, e1, e2, e3, e4, fun _ => ⟨g, 0, cur, e, (0, 0), g1, if_pos rfl, fun j u hu => ?_⟩⟩
        rw [← g5] at hu
        rw [List.getElem?_take] at hu
        split at hu
        · rw [Nat.zero_add]; simpa using hu
        · cases hu
      · have hb : (if b = g then some (Obj.cells cur e (0, 0)) else Γ.imm b) = some o := hb
        by_cases hbg : b = g
        · subst hbg
          rw [if_pos rfl] at hb; cases hb
          exact g3
        · rw [if_neg hbg] at hb; exact h.imm b o hb
      · show (if b = g then _ else _) = none
        rw [if_neg (fun hh => by subst hh; exact hnd.1 hb)]
        exact (h3 b (by simp [hb])).2
end Mk
end
/- Facts on the types and functions of this translation, a row each (written by a program of mine; the kernel checks each). -/
section
open Go Mk
namespace Go.Proofs.YtekdbdhkpolooaaGreat
instance : TZ Tryz.prog 1 [.nilFunc] := ⟨by kernel_rfl⟩
instance : TZV Tryz.prog 1 (.nilFunc) := ⟨by kernel_rfl⟩
instance : TS Tryz.prog 1 := ⟨by kernel_rfl⟩
instance : TZ Tryz.prog 2 [.int .i64 0] := ⟨by kernel_rfl⟩
instance : TZV Tryz.prog 2 (.int .i64 0) := ⟨by kernel_rfl⟩
instance : TS Tryz.prog 2 := ⟨by kernel_rfl⟩
instance : TInt Tryz.prog 2 .i64 := ⟨by kernel_rfl⟩
instance : TZ Tryz.prog 3 [.int .i64 0] := ⟨by kernel_rfl⟩
instance : TZV Tryz.prog 3 (.int .i64 0) := ⟨by kernel_rfl⟩
instance : TS Tryz.prog 3 := ⟨by kernel_rfl⟩
instance : TInt Tryz.prog 3 .i64 := ⟨by kernel_rfl⟩
instance : TZ Tryz.prog 4 [.bool false] := ⟨by kernel_rfl⟩
instance : TZV Tryz.prog 4 (.bool false) := ⟨by kernel_rfl⟩
instance : TS Tryz.prog 4 := ⟨by kernel_rfl⟩
instance : TBool Tryz.prog 4 := ⟨by kernel_rfl⟩
instance : TZ Tryz.prog 5 [.int .u8 0] := ⟨by kernel_rfl⟩
instance : TZV Tryz.prog 5 (.int .u8 0) := ⟨by kernel_rfl⟩
instance : TS Tryz.prog 5 := ⟨by kernel_rfl⟩
instance : TInt Tryz.prog 5 .u8 := ⟨by kernel_rfl⟩
instance : TZ Tryz.prog 6 [.int .u8 0] := ⟨by kernel_rfl⟩
instance : TZV Tryz.prog 6 (.int .u8 0) := ⟨by kernel_rfl⟩
instance : TS Tryz.prog 6 := ⟨by kernel_rfl⟩
instance : TInt Tryz.prog 6 .u8 := ⟨by kernel_rfl⟩
instance : TZ Tryz.prog 7 [.int .i64 0, .int .i64 0, .bool false, .int .u8 0] := ⟨by kernel_rfl⟩
instance : TZV Tryz.prog 7 (.agg #[.int .i64 0, .int .i64 0, .bool false, .int .u8 0]) := ⟨by kernel_rfl⟩
instance : TA Tryz.prog 7 4 := ⟨by kernel_rfl⟩
instance : TEq Tryz.prog 7 [5, 5, 0, 6] := ⟨by kernel_rfl, by kernel_rfl, by kernel_rfl⟩
instance : TB Tryz.prog 7 [(0, 1), (1, 1), (2, 1), (3, 1)] [.int .i64 0, .int .i64 0, .bool false, .int .u8 0] := ⟨by kernel_rfl, by kernel_rfl⟩
instance : TF Tryz.prog 7 0 0 := ⟨by kernel_rfl⟩
instance : TF Tryz.prog 7 1 1 := ⟨by kernel_rfl⟩
instance : TF Tryz.prog 7 2 2 := ⟨by kernel_rfl⟩
instance : TF Tryz.prog 7 3 3 := ⟨by kernel_rfl⟩
instance : TZ Tryz.prog 8 [.int .i64 0, .int .i64 0, .bool false, .int .u8 0] := ⟨by kernel_rfl⟩
instance : TZV Tryz.prog 8 (.agg #[.int .i64 0, .int .i64 0, .bool false, .int .u8 0]) := ⟨by kernel_rfl⟩
instance : TA Tryz.prog 8 4 := ⟨by kernel_rfl⟩
instance : TEq Tryz.prog 8 [5, 5, 0, 6] := ⟨by kernel_rfl, by kernel_rfl, by kernel_rfl⟩
instance : TB Tryz.prog 8 [(0, 1), (1, 1), (2, 1), (3, 1)] [.int .i64 0, .int .i64 0, .bool false, .int .u8 0] := ⟨by kernel_rfl, by kernel_rfl⟩
instance : TF Tryz.prog 8 0 0 := ⟨by kernel_rfl⟩
instance : TF Tryz.prog 8 1 1 := ⟨by kernel_rfl⟩
instance : TF Tryz.prog 8 2 2 := ⟨by kernel_rfl⟩
instance : TF Tryz.prog 8 3 3 := ⟨by kernel_rfl⟩
instance : TZ Tryz.prog 9 [.string ⟨#[]⟩] := ⟨by kernel_rfl⟩
instance : TZV Tryz.prog 9 (.string ⟨#[]⟩) := ⟨by kernel_rfl⟩
instance : TS Tryz.prog 9 := ⟨by kernel_rfl⟩
instance : TStr Tryz.prog 9 := ⟨by kernel_rfl⟩
instance : TZ Tryz.prog 10 [.string ⟨#[]⟩] := ⟨by kernel_rfl⟩
instance : TZV Tryz.prog 10 (.string ⟨#[]⟩) := ⟨by kernel_rfl⟩
instance : TS Tryz.prog 10 := ⟨by kernel_rfl⟩
instance : TStr Tryz.prog 10 := ⟨by kernel_rfl⟩
instance : TZ Tryz.prog 11 [.string ⟨#[]⟩] := ⟨by kernel_rfl⟩
instance : TZV Tryz.prog 11 (.string ⟨#[]⟩) := ⟨by kernel_rfl⟩
instance : TS Tryz.prog 11 := ⟨by kernel_rfl⟩
instance : TStr Tryz.prog 11 := ⟨by kernel_rfl⟩
instance : TZ Tryz.prog 12 [.int .u64 0] := ⟨by kernel_rfl⟩
instance : TZV Tryz.prog 12 (.int .u64 0) := ⟨by kernel_rfl⟩
instance : TS Tryz.prog 12 := ⟨by kernel_rfl⟩
instance : TInt Tryz.prog 12 .u64 := ⟨by kernel_rfl⟩
instance : TZ Tryz.prog 13 [.string ⟨#[]⟩, .int .u64 0] := ⟨by kernel_rfl⟩
instance : TZV Tryz.prog 13 (.agg #[.string ⟨#[]⟩, .int .u64 0]) := ⟨by kernel_rfl⟩
instance : TA Tryz.prog 13 2 := ⟨by kernel_rfl⟩
instance : TB Tryz.prog 13 [(0, 1), (1, 1)] [.string ⟨#[]⟩, .int .u64 0] := ⟨by kernel_rfl, by kernel_rfl⟩
instance : TF Tryz.prog 13 0 0 := ⟨by kernel_rfl⟩
instance : TF Tryz.prog 13 1 1 := ⟨by kernel_rfl⟩
instance : TZ Tryz.prog 14 [.string ⟨#[]⟩, .int .u64 0] := ⟨by kernel_rfl⟩
instance : TZV Tryz.prog 14 (.agg #[.string ⟨#[]⟩, .int .u64 0]) := ⟨by kernel_rfl⟩
instance : TA Tryz.prog 14 2 := ⟨by kernel_rfl⟩
instance : TB Tryz.prog 14 [(0, 1), (1, 1)] [.string ⟨#[]⟩, .int .u64 0] := ⟨by kernel_rfl, by kernel_rfl⟩
instance : TF Tryz.prog 14 0 0 := ⟨by kernel_rfl⟩
instance : TF Tryz.prog 14 1 1 := ⟨by kernel_rfl⟩
instance : TZ Tryz.prog 15 [.pointer none] := ⟨by kernel_rfl⟩
instance : TZV Tryz.prog 15 (.pointer none) := ⟨by kernel_rfl⟩
instance : TS Tryz.prog 15 := ⟨by kernel_rfl⟩
instance : TPtr Tryz.prog 15 142 := ⟨by kernel_rfl⟩
instance : TZ Tryz.prog 16 [.pointer none] := ⟨by kernel_rfl⟩
instance : TZV Tryz.prog 16 (.pointer none) := ⟨by kernel_rfl⟩
instance : TS Tryz.prog 16 := ⟨by kernel_rfl⟩
instance : TPtr Tryz.prog 16 145 := ⟨by kernel_rfl⟩
instance : TZ Tryz.prog 17 [.pointer none] := ⟨by kernel_rfl⟩
instance : TZV Tryz.prog 17 (.pointer none) := ⟨by kernel_rfl⟩
instance : TS Tryz.prog 17 := ⟨by kernel_rfl⟩
instance : TPtr Tryz.prog 17 154 := ⟨by kernel_rfl⟩
instance : TZ Tryz.prog 18 [.pointer none] := ⟨by kernel_rfl⟩
instance : TZV Tryz.prog 18 (.agg #[.pointer none]) := ⟨by kernel_rfl⟩
instance : TA Tryz.prog 18 1 := ⟨by kernel_rfl⟩
instance : TB Tryz.prog 18 [(0, 1)] [.pointer none] := ⟨by kernel_rfl, by kernel_rfl⟩
instance : TF Tryz.prog 18 0 0 := ⟨by kernel_rfl⟩
instance : TZ Tryz.prog 19 [.pointer none] := ⟨by kernel_rfl⟩
instance : TZV Tryz.prog 19 (.agg #[.pointer none]) := ⟨by kernel_rfl⟩
instance : TA Tryz.prog 19 1 := ⟨by kernel_rfl⟩
instance : TB Tryz.prog 19 [(0, 1)] [.pointer none] := ⟨by kernel_rfl, by kernel_rfl⟩
instance : TF Tryz.prog 19 0 0 := ⟨by kernel_rfl⟩
instance : TZ Tryz.prog 20 [.nilIface] := ⟨by kernel_rfl⟩
instance : TZV Tryz.prog 20 (.nilIface) := ⟨by kernel_rfl⟩
instance : TS Tryz.prog 20 := ⟨by kernel_rfl⟩
instance : TZ Tryz.prog 21 [.int .i32 0] := ⟨by kernel_rfl⟩
instance : TZV Tryz.prog 21 (.int .i32 0) := ⟨by kernel_rfl⟩
instance : TS Tryz.prog 21 := ⟨by kernel_rfl⟩
instance : TInt Tryz.prog 21 .i32 := ⟨by kernel_rfl⟩
instance : TZ Tryz.prog 22 [.slice none 0 0] := ⟨by kernel_rfl⟩
instance : TZV Tryz.prog 22 (.slice none 0 0) := ⟨by kernel_rfl⟩
instance : TS Tryz.prog 22 := ⟨by kernel_rfl⟩
instance : TL Tryz.prog 22 36 12 112 [.int .i64 0, .int .i64 0, .int .i64 0, .int .i64 0, .bool false, .string ⟨#[]⟩, .int .i64 0, .int .i64 0, .int .i64 0, .int .i64 0, .int .i64 0, .string ⟨#[]⟩] := ⟨by kernel_rfl, by kernel_rfl, by kernel_rfl, by decide⟩
instance : TZ Tryz.prog 23 [.pointer none] := ⟨by kernel_rfl⟩
instance : TZV Tryz.prog 23 (.pointer none) := ⟨by kernel_rfl⟩
instance : TS Tryz.prog 23 := ⟨by kernel_rfl⟩
instance : TPtr Tryz.prog 23 48 := ⟨by kernel_rfl⟩
instance : TZ Tryz.prog 24 [.nilFunc] := ⟨by kernel_rfl⟩
instance : TZV Tryz.prog 24 (.nilFunc) := ⟨by kernel_rfl⟩
instance : TS Tryz.prog 24 := ⟨by kernel_rfl⟩
instance : TZ Tryz.prog 25 [.pointer none] := ⟨by kernel_rfl⟩
instance : TZV Tryz.prog 25 (.pointer none) := ⟨by kernel_rfl⟩
instance : TS Tryz.prog 25 := ⟨by kernel_rfl⟩
instance : TPtr Tryz.prog 25 29 := ⟨by kernel_rfl⟩
instance : TZ Tryz.prog 26 [.slice none 0 0] := ⟨by kernel_rfl⟩
instance : TZV Tryz.prog 26 (.slice none 0 0) := ⟨by kernel_rfl⟩
instance : TS Tryz.prog 26 := ⟨by kernel_rfl⟩
instance : TL Tryz.prog 26 32 4 40 [.string ⟨#[]⟩, .int .i64 0, .int .i64 0, .int .i64 0] := ⟨by kernel_rfl, by kernel_rfl, by kernel_rfl, by decide⟩
instance : TZ Tryz.prog 27 [.slice none 0 0] := ⟨by kernel_rfl⟩
instance : TZV Tryz.prog 27 (.slice none 0 0) := ⟨by kernel_rfl⟩
instance : TS Tryz.prog 27 := ⟨by kernel_rfl⟩
instance : TL Tryz.prog 27 34 3 32 [.int .i64 0, .int .i64 0, .string ⟨#[]⟩] := ⟨by kernel_rfl, by kernel_rfl, by kernel_rfl, by decide⟩
instance : TZ Tryz.prog 28 [.slice none 0 0, .slice none 0 0] := ⟨by kernel_rfl⟩
instance : TZV Tryz.prog 28 (.agg #[.slice none 0 0, .slice none 0 0]) := ⟨by kernel_rfl⟩
instance : TA Tryz.prog 28 2 := ⟨by kernel_rfl⟩
instance : TB Tryz.prog 28 [(0, 1), (1, 1)] [.slice none 0 0, .slice none 0 0] := ⟨by kernel_rfl, by kernel_rfl⟩
instance : TF Tryz.prog 28 0 0 := ⟨by kernel_rfl⟩
instance : TF Tryz.prog 28 1 1 := ⟨by kernel_rfl⟩
instance : TZ Tryz.prog 29 [.slice none 0 0, .slice none 0 0] := ⟨by kernel_rfl⟩
instance : TZV Tryz.prog 29 (.agg #[.slice none 0 0, .slice none 0 0]) := ⟨by kernel_rfl⟩
instance : TA Tryz.prog 29 2 := ⟨by kernel_rfl⟩
instance : TB Tryz.prog 29 [(0, 1), (1, 1)] [.slice none 0 0, .slice none 0 0] := ⟨by kernel_rfl, by kernel_rfl⟩
instance : TF Tryz.prog 29 0 0 := ⟨by kernel_rfl⟩
instance : TF Tryz.prog 29 1 1 := ⟨by kernel_rfl⟩
instance : TZ Tryz.prog 30 [.nilFunc] := ⟨by kernel_rfl⟩
instance : TZV Tryz.prog 30 (.nilFunc) := ⟨by kernel_rfl⟩
instance : TS Tryz.prog 30 := ⟨by kernel_rfl⟩
instance : TZ Tryz.prog 31 [.string ⟨#[]⟩, .int .i64 0, .int .i64 0, .int .i64 0] := ⟨by kernel_rfl⟩
instance : TZV Tryz.prog 31 (.agg #[.string ⟨#[]⟩, .int .i64 0, .int .i64 0, .int .i64 0]) := ⟨by kernel_rfl⟩
instance : TA Tryz.prog 31 4 := ⟨by kernel_rfl⟩
instance : TEq Tryz.prog 31 [1, 5, 5, 5] := ⟨by kernel_rfl, by kernel_rfl, by kernel_rfl⟩
instance : TB Tryz.prog 31 [(0, 1), (1, 1), (2, 1), (3, 1)] [.string ⟨#[]⟩, .int .i64 0, .int .i64 0, .int .i64 0] := ⟨by kernel_rfl, by kernel_rfl⟩
instance : TF Tryz.prog 31 0 0 := ⟨by kernel_rfl⟩
instance : TF Tryz.prog 31 1 1 := ⟨by kernel_rfl⟩
instance : TF Tryz.prog 31 2 2 := ⟨by kernel_rfl⟩
instance : TF Tryz.prog 31 3 3 := ⟨by kernel_rfl⟩
instance : TZ Tryz.prog 32 [.string ⟨#[]⟩, .int .i64 0, .int .i64 0, .int .i64 0] := ⟨by kernel_rfl⟩
instance : TZV Tryz.prog 32 (.agg #[.string ⟨#[]⟩, .int .i64 0, .int .i64 0, .int .i64 0]) := ⟨by kernel_rfl⟩
instance : TA Tryz.prog 32 4 := ⟨by kernel_rfl⟩
instance : TEq Tryz.prog 32 [1, 5, 5, 5] := ⟨by kernel_rfl, by kernel_rfl, by kernel_rfl⟩
instance : TB Tryz.prog 32 [(0, 1), (1, 1), (2, 1), (3, 1)] [.string ⟨#[]⟩, .int .i64 0, .int .i64 0, .int .i64 0] := ⟨by kernel_rfl, by kernel_rfl⟩
instance : TF Tryz.prog 32 0 0 := ⟨by kernel_rfl⟩
instance : TF Tryz.prog 32 1 1 := ⟨by kernel_rfl⟩
instance : TF Tryz.prog 32 2 2 := ⟨by kernel_rfl⟩
instance : TF Tryz.prog 32 3 3 := ⟨by kernel_rfl⟩
instance : TZ Tryz.prog 33 [.int .i64 0, .int .i64 0, .string ⟨#[]⟩] := ⟨by kernel_rfl⟩
instance : TZV Tryz.prog 33 (.agg #[.int .i64 0, .int .i64 0, .string ⟨#[]⟩]) := ⟨by kernel_rfl⟩
instance : TA Tryz.prog 33 3 := ⟨by kernel_rfl⟩
instance : TEq Tryz.prog 33 [5, 5, 1] := ⟨by kernel_rfl, by kernel_rfl, by kernel_rfl⟩
instance : TB Tryz.prog 33 [(0, 1), (1, 1), (2, 1)] [.int .i64 0, .int .i64 0, .string ⟨#[]⟩] := ⟨by kernel_rfl, by kernel_rfl⟩
instance : TF Tryz.prog 33 0 0 := ⟨by kernel_rfl⟩
instance : TF Tryz.prog 33 1 1 := ⟨by kernel_rfl⟩
instance : TF Tryz.prog 33 2 2 := ⟨by kernel_rfl⟩
instance : TZ Tryz.prog 34 [.int .i64 0, .int .i64 0, .string ⟨#[]⟩] := ⟨by kernel_rfl⟩
instance : TZV Tryz.prog 34 (.agg #[.int .i64 0, .int .i64 0, .string ⟨#[]⟩]) := ⟨by kernel_rfl⟩
instance : TA Tryz.prog 34 3 := ⟨by kernel_rfl⟩
instance : TEq Tryz.prog 34 [5, 5, 1] := ⟨by kernel_rfl, by kernel_rfl, by kernel_rfl⟩
instance : TB Tryz.prog 34 [(0, 1), (1, 1), (2, 1)] [.int .i64 0, .int .i64 0, .string ⟨#[]⟩] := ⟨by kernel_rfl, by kernel_rfl⟩
instance : TF Tryz.prog 34 0 0 := ⟨by kernel_rfl⟩
instance : TF Tryz.prog 34 1 1 := ⟨by kernel_rfl⟩
instance : TF Tryz.prog 34 2 2 := ⟨by kernel_rfl⟩
instance : TZ Tryz.prog 35 [.int .i64 0, .int .i64 0, .int .i64 0, .int .i64 0, .bool false, .string ⟨#[]⟩, .int .i64 0, .int .i64 0, .int .i64 0, .int .i64 0, .int .i64 0, .string ⟨#[]⟩] := ⟨by kernel_rfl⟩
instance : TZV Tryz.prog 35 (.agg #[.int .i64 0, .int .i64 0, .int .i64 0, .int .i64 0, .bool false, .string ⟨#[]⟩, .int .i64 0, .int .i64 0, .int .i64 0, .int .i64 0, .int .i64 0, .string ⟨#[]⟩]) := ⟨by kernel_rfl⟩
instance : TA Tryz.prog 35 12 := ⟨by kernel_rfl⟩
instance : TEq Tryz.prog 35 [5, 5, 5, 5, 0, 1, 5, 5, 5, 5, 5, 1] := ⟨by kernel_rfl, by kernel_rfl, by kernel_rfl⟩
instance : TB Tryz.prog 35 [(0, 1), (1, 1), (2, 1), (3, 1), (4, 1), (5, 4), (9, 3)] [.int .i64 0, .int .i64 0, .int .i64 0, .int .i64 0, .bool false, .string ⟨#[]⟩, .int .i64 0, .int .i64 0, .int .i64 0, .int .i64 0, .int .i64 0, .string ⟨#[]⟩] := ⟨by kernel_rfl, by kernel_rfl⟩
instance : TF Tryz.prog 35 0 0 := ⟨by kernel_rfl⟩
instance : TF Tryz.prog 35 1 1 := ⟨by kernel_rfl⟩
instance : TF Tryz.prog 35 2 2 := ⟨by kernel_rfl⟩
instance : TF Tryz.prog 35 3 3 := ⟨by kernel_rfl⟩
instance : TF Tryz.prog 35 4 4 := ⟨by kernel_rfl⟩
instance : TF Tryz.prog 35 5 5 := ⟨by kernel_rfl⟩
instance : TF Tryz.prog 35 6 9 := ⟨by kernel_rfl⟩
instance : TZ Tryz.prog 36 [.int .i64 0, .int .i64 0, .int .i64 0, .int .i64 0, .bool false, .string ⟨#[]⟩, .int .i64 0, .int .i64 0, .int .i64 0, .int .i64 0, .int .i64 0, .string ⟨#[]⟩] := ⟨by kernel_rfl⟩
instance : TZV Tryz.prog 36 (.agg #[.int .i64 0, .int .i64 0, .int .i64 0, .int .i64 0, .bool false, .string ⟨#[]⟩, .int .i64 0, .int .i64 0, .int .i64 0, .int .i64 0, .int .i64 0, .string ⟨#[]⟩]) := ⟨by kernel_rfl⟩
instance : TA Tryz.prog 36 12 := ⟨by kernel_rfl⟩
instance : TEq Tryz.prog 36 [5, 5, 5, 5, 0, 1, 5, 5, 5, 5, 5, 1] := ⟨by kernel_rfl, by kernel_rfl, by kernel_rfl⟩
instance : TB Tryz.prog 36 [(0, 1), (1, 1), (2, 1), (3, 1), (4, 1), (5, 4), (9, 3)] [.int .i64 0, .int .i64 0, .int .i64 0, .int .i64 0, .bool false, .string ⟨#[]⟩, .int .i64 0, .int .i64 0, .int .i64 0, .int .i64 0, .int .i64 0, .string ⟨#[]⟩] := ⟨by kernel_rfl, by kernel_rfl⟩
instance : TF Tryz.prog 36 0 0 := ⟨by kernel_rfl⟩
instance : TF Tryz.prog 36 1 1 := ⟨by kernel_rfl⟩
instance : TF Tryz.prog 36 2 2 := ⟨by kernel_rfl⟩
instance : TF Tryz.prog 36 3 3 := ⟨by kernel_rfl⟩
instance : TF Tryz.prog 36 4 4 := ⟨by kernel_rfl⟩
instance : TF Tryz.prog 36 5 5 := ⟨by kernel_rfl⟩
instance : TF Tryz.prog 36 6 9 := ⟨by kernel_rfl⟩
instance : TZ Tryz.prog 37 [.nilFunc] := ⟨by kernel_rfl⟩
instance : TZV Tryz.prog 37 (.nilFunc) := ⟨by kernel_rfl⟩
instance : TS Tryz.prog 37 := ⟨by kernel_rfl⟩
instance : TZ Tryz.prog 38 [.nilFunc] := ⟨by kernel_rfl⟩
instance : TZV Tryz.prog 38 (.nilFunc) := ⟨by kernel_rfl⟩
instance : TS Tryz.prog 38 := ⟨by kernel_rfl⟩
instance : TZ Tryz.prog 39 [.nilFunc] := ⟨by kernel_rfl⟩
instance : TZV Tryz.prog 39 (.nilFunc) := ⟨by kernel_rfl⟩
instance : TS Tryz.prog 39 := ⟨by kernel_rfl⟩
instance : TZ Tryz.prog 40 [.nilFunc] := ⟨by kernel_rfl⟩
instance : TZV Tryz.prog 40 (.nilFunc) := ⟨by kernel_rfl⟩
instance : TS Tryz.prog 40 := ⟨by kernel_rfl⟩
instance : TZ Tryz.prog 41 [.nilFunc] := ⟨by kernel_rfl⟩
instance : TZV Tryz.prog 41 (.nilFunc) := ⟨by kernel_rfl⟩
instance : TS Tryz.prog 41 := ⟨by kernel_rfl⟩
instance : TZ Tryz.prog 42 [.slice none 0 0] := ⟨by kernel_rfl⟩
instance : TZV Tryz.prog 42 (.slice none 0 0) := ⟨by kernel_rfl⟩
instance : TS Tryz.prog 42 := ⟨by kernel_rfl⟩
instance : TL Tryz.prog 42 74 2 40 [.string ⟨#[]⟩, .slice none 0 0] := ⟨by kernel_rfl, by kernel_rfl, by kernel_rfl, by decide⟩
instance : TZ Tryz.prog 43 [.nilFunc] := ⟨by kernel_rfl⟩
instance : TZV Tryz.prog 43 (.nilFunc) := ⟨by kernel_rfl⟩
instance : TS Tryz.prog 43 := ⟨by kernel_rfl⟩
instance : TZ Tryz.prog 44 [.nilFunc] := ⟨by kernel_rfl⟩
instance : TZV Tryz.prog 44 (.nilFunc) := ⟨by kernel_rfl⟩
instance : TS Tryz.prog 44 := ⟨by kernel_rfl⟩
instance : TZ Tryz.prog 45 [.nilFunc] := ⟨by kernel_rfl⟩
instance : TZV Tryz.prog 45 (.nilFunc) := ⟨by kernel_rfl⟩
instance : TS Tryz.prog 45 := ⟨by kernel_rfl⟩
instance : TZ Tryz.prog 46 [.map none] := ⟨by kernel_rfl⟩
instance : TZV Tryz.prog 46 (.map none) := ⟨by kernel_rfl⟩
instance : TS Tryz.prog 46 := ⟨by kernel_rfl⟩
instance : TMap Tryz.prog 46 9 32 := ⟨by kernel_rfl⟩
instance : TZ Tryz.prog 47 [.map none, .slice none 0 0] := ⟨by kernel_rfl⟩
instance : TZV Tryz.prog 47 (.agg #[.map none, .slice none 0 0]) := ⟨by kernel_rfl⟩
instance : TA Tryz.prog 47 2 := ⟨by kernel_rfl⟩
instance : TB Tryz.prog 47 [(0, 1), (1, 1)] [.map none, .slice none 0 0] := ⟨by kernel_rfl, by kernel_rfl⟩
instance : TF Tryz.prog 47 0 0 := ⟨by kernel_rfl⟩
instance : TF Tryz.prog 47 1 1 := ⟨by kernel_rfl⟩
instance : TZ Tryz.prog 48 [.map none, .slice none 0 0] := ⟨by kernel_rfl⟩
instance : TZV Tryz.prog 48 (.agg #[.map none, .slice none 0 0]) := ⟨by kernel_rfl⟩
instance : TA Tryz.prog 48 2 := ⟨by kernel_rfl⟩
instance : TB Tryz.prog 48 [(0, 1), (1, 1)] [.map none, .slice none 0 0] := ⟨by kernel_rfl, by kernel_rfl⟩
instance : TF Tryz.prog 48 0 0 := ⟨by kernel_rfl⟩
instance : TF Tryz.prog 48 1 1 := ⟨by kernel_rfl⟩
instance : TZ Tryz.prog 50 [.nilFunc] := ⟨by kernel_rfl⟩
instance : TZV Tryz.prog 50 (.nilFunc) := ⟨by kernel_rfl⟩
instance : TS Tryz.prog 50 := ⟨by kernel_rfl⟩
instance : TZ Tryz.prog 51 [.nilFunc] := ⟨by kernel_rfl⟩
instance : TZV Tryz.prog 51 (.nilFunc) := ⟨by kernel_rfl⟩
instance : TS Tryz.prog 51 := ⟨by kernel_rfl⟩
instance : TZ Tryz.prog 52 [.slice none 0 0] := ⟨by kernel_rfl⟩
instance : TZV Tryz.prog 52 (.slice none 0 0) := ⟨by kernel_rfl⟩
instance : TS Tryz.prog 52 := ⟨by kernel_rfl⟩
instance : TL Tryz.prog 52 83 6 56 [.int .i64 0, .int .i64 0, .string ⟨#[]⟩, .int .i64 0, .int .i64 0, .int .i64 0] := ⟨by kernel_rfl, by kernel_rfl, by kernel_rfl, by decide⟩
instance : TZ Tryz.prog 53 [.int .i64 0] := ⟨by kernel_rfl⟩
instance : TZV Tryz.prog 53 (.int .i64 0) := ⟨by kernel_rfl⟩
instance : TS Tryz.prog 53 := ⟨by kernel_rfl⟩
instance : TInt Tryz.prog 53 .i64 := ⟨by kernel_rfl⟩
instance : TZ Tryz.prog 55 [.nilFunc] := ⟨by kernel_rfl⟩
instance : TZV Tryz.prog 55 (.nilFunc) := ⟨by kernel_rfl⟩
instance : TS Tryz.prog 55 := ⟨by kernel_rfl⟩
instance : TZ Tryz.prog 56 [.nilFunc] := ⟨by kernel_rfl⟩
instance : TZV Tryz.prog 56 (.nilFunc) := ⟨by kernel_rfl⟩
instance : TS Tryz.prog 56 := ⟨by kernel_rfl⟩
instance : TZ Tryz.prog 57 [.nilFunc] := ⟨by kernel_rfl⟩
instance : TZV Tryz.prog 57 (.nilFunc) := ⟨by kernel_rfl⟩
instance : TS Tryz.prog 57 := ⟨by kernel_rfl⟩
instance : TZ Tryz.prog 59 [.nilFunc] := ⟨by kernel_rfl⟩
instance : TZV Tryz.prog 59 (.nilFunc) := ⟨by kernel_rfl⟩
instance : TS Tryz.prog 59 := ⟨by kernel_rfl⟩
instance : TZ Tryz.prog 61 [.nilFunc] := ⟨by kernel_rfl⟩
instance : TZV Tryz.prog 61 (.nilFunc) := ⟨by kernel_rfl⟩
instance : TS Tryz.prog 61 := ⟨by kernel_rfl⟩
instance : TZ Tryz.prog 62 [.nilFunc] := ⟨by kernel_rfl⟩
instance : TZV Tryz.prog 62 (.nilFunc) := ⟨by kernel_rfl⟩
instance : TS Tryz.prog 62 := ⟨by kernel_rfl⟩
instance : TZ Tryz.prog 63 [.nilFunc] := ⟨by kernel_rfl⟩
instance : TZV Tryz.prog 63 (.nilFunc) := ⟨by kernel_rfl⟩
instance : TS Tryz.prog 63 := ⟨by kernel_rfl⟩
instance : TZ Tryz.prog 64 [.nilFunc] := ⟨by kernel_rfl⟩
instance : TZV Tryz.prog 64 (.nilFunc) := ⟨by kernel_rfl⟩
instance : TS Tryz.prog 64 := ⟨by kernel_rfl⟩
instance : TZ Tryz.prog 65 [.nilFunc] := ⟨by kernel_rfl⟩
instance : TZV Tryz.prog 65 (.nilFunc) := ⟨by kernel_rfl⟩
instance : TS Tryz.prog 65 := ⟨by kernel_rfl⟩
instance : TZ Tryz.prog 66 [.nilFunc] := ⟨by kernel_rfl⟩
instance : TZV Tryz.prog 66 (.nilFunc) := ⟨by kernel_rfl⟩
instance : TS Tryz.prog 66 := ⟨by kernel_rfl⟩
instance : TZ Tryz.prog 67 [.nilFunc] := ⟨by kernel_rfl⟩
instance : TZV Tryz.prog 67 (.nilFunc) := ⟨by kernel_rfl⟩
instance : TS Tryz.prog 67 := ⟨by kernel_rfl⟩
instance : TZ Tryz.prog 68 [.nilFunc] := ⟨by kernel_rfl⟩
instance : TZV Tryz.prog 68 (.nilFunc) := ⟨by kernel_rfl⟩
instance : TS Tryz.prog 68 := ⟨by kernel_rfl⟩
instance : TZ Tryz.prog 69 [.nilFunc] := ⟨by kernel_rfl⟩
instance : TZV Tryz.prog 69 (.nilFunc) := ⟨by kernel_rfl⟩
instance : TS Tryz.prog 69 := ⟨by kernel_rfl⟩
instance : TZ Tryz.prog 70 [.nilFunc] := ⟨by kernel_rfl⟩
instance : TZV Tryz.prog 70 (.nilFunc) := ⟨by kernel_rfl⟩
instance : TS Tryz.prog 70 := ⟨by kernel_rfl⟩
instance : TZ Tryz.prog 71 [.nilFunc] := ⟨by kernel_rfl⟩
instance : TZV Tryz.prog 71 (.nilFunc) := ⟨by kernel_rfl⟩
instance : TS Tryz.prog 71 := ⟨by kernel_rfl⟩
instance : TZ Tryz.prog 72 [.slice none 0 0] := ⟨by kernel_rfl⟩
instance : TZV Tryz.prog 72 (.slice none 0 0) := ⟨by kernel_rfl⟩
instance : TS Tryz.prog 72 := ⟨by kernel_rfl⟩
instance : TL Tryz.prog 72 76 3 32 [.int .i64 0, .int .i64 0, .string ⟨#[]⟩] := ⟨by kernel_rfl, by kernel_rfl, by kernel_rfl, by decide⟩
instance : TZ Tryz.prog 73 [.string ⟨#[]⟩, .slice none 0 0] := ⟨by kernel_rfl⟩
instance : TZV Tryz.prog 73 (.agg #[.string ⟨#[]⟩, .slice none 0 0]) := ⟨by kernel_rfl⟩
instance : TA Tryz.prog 73 2 := ⟨by kernel_rfl⟩
instance : TB Tryz.prog 73 [(0, 1), (1, 1)] [.string ⟨#[]⟩, .slice none 0 0] := ⟨by kernel_rfl, by kernel_rfl⟩
instance : TF Tryz.prog 73 0 0 := ⟨by kernel_rfl⟩
instance : TF Tryz.prog 73 1 1 := ⟨by kernel_rfl⟩
instance : TZ Tryz.prog 74 [.string ⟨#[]⟩, .slice none 0 0] := ⟨by kernel_rfl⟩
instance : TZV Tryz.prog 74 (.agg #[.string ⟨#[]⟩, .slice none 0 0]) := ⟨by kernel_rfl⟩
instance : TA Tryz.prog 74 2 := ⟨by kernel_rfl⟩
instance : TB Tryz.prog 74 [(0, 1), (1, 1)] [.string ⟨#[]⟩, .slice none 0 0] := ⟨by kernel_rfl, by kernel_rfl⟩
instance : TF Tryz.prog 74 0 0 := ⟨by kernel_rfl⟩
instance : TF Tryz.prog 74 1 1 := ⟨by kernel_rfl⟩
instance : TZ Tryz.prog 75 [.int .i64 0, .int .i64 0, .string ⟨#[]⟩] := ⟨by kernel_rfl⟩
instance : TZV Tryz.prog 75 (.agg #[.int .i64 0, .int .i64 0, .string ⟨#[]⟩]) := ⟨by kernel_rfl⟩
instance : TA Tryz.prog 75 3 := ⟨by kernel_rfl⟩
instance : TEq Tryz.prog 75 [5, 5, 1] := ⟨by kernel_rfl, by kernel_rfl, by kernel_rfl⟩
instance : TB Tryz.prog 75 [(0, 1), (1, 1), (2, 1)] [.int .i64 0, .int .i64 0, .string ⟨#[]⟩] := ⟨by kernel_rfl, by kernel_rfl⟩
instance : TF Tryz.prog 75 0 0 := ⟨by kernel_rfl⟩
instance : TF Tryz.prog 75 1 1 := ⟨by kernel_rfl⟩
instance : TF Tryz.prog 75 2 2 := ⟨by kernel_rfl⟩
instance : TZ Tryz.prog 76 [.int .i64 0, .int .i64 0, .string ⟨#[]⟩] := ⟨by kernel_rfl⟩
instance : TZV Tryz.prog 76 (.agg #[.int .i64 0, .int .i64 0, .string ⟨#[]⟩]) := ⟨by kernel_rfl⟩
instance : TA Tryz.prog 76 3 := ⟨by kernel_rfl⟩
instance : TEq Tryz.prog 76 [5, 5, 1] := ⟨by kernel_rfl, by kernel_rfl, by kernel_rfl⟩
instance : TB Tryz.prog 76 [(0, 1), (1, 1), (2, 1)] [.int .i64 0, .int .i64 0, .string ⟨#[]⟩] := ⟨by kernel_rfl, by kernel_rfl⟩
instance : TF Tryz.prog 76 0 0 := ⟨by kernel_rfl⟩
instance : TF Tryz.prog 76 1 1 := ⟨by kernel_rfl⟩
instance : TF Tryz.prog 76 2 2 := ⟨by kernel_rfl⟩
instance : TZ Tryz.prog 77 [.nilFunc] := ⟨by kernel_rfl⟩
instance : TZV Tryz.prog 77 (.nilFunc) := ⟨by kernel_rfl⟩
instance : TS Tryz.prog 77 := ⟨by kernel_rfl⟩
instance : TZ Tryz.prog 78 [.nilFunc] := ⟨by kernel_rfl⟩
instance : TZV Tryz.prog 78 (.nilFunc) := ⟨by kernel_rfl⟩
instance : TS Tryz.prog 78 := ⟨by kernel_rfl⟩
instance : TZ Tryz.prog 79 [.nilFunc] := ⟨by kernel_rfl⟩
instance : TZV Tryz.prog 79 (.nilFunc) := ⟨by kernel_rfl⟩
instance : TS Tryz.prog 79 := ⟨by kernel_rfl⟩
instance : TZ Tryz.prog 80 [.nilFunc] := ⟨by kernel_rfl⟩
instance : TZV Tryz.prog 80 (.nilFunc) := ⟨by kernel_rfl⟩
instance : TS Tryz.prog 80 := ⟨by kernel_rfl⟩
instance : TZ Tryz.prog 81 [.nilFunc] := ⟨by kernel_rfl⟩
instance : TZV Tryz.prog 81 (.nilFunc) := ⟨by kernel_rfl⟩
instance : TS Tryz.prog 81 := ⟨by kernel_rfl⟩
instance : TZ Tryz.prog 82 [.int .i64 0, .int .i64 0, .string ⟨#[]⟩, .int .i64 0, .int .i64 0, .int .i64 0] := ⟨by kernel_rfl⟩
instance : TZV Tryz.prog 82 (.agg #[.int .i64 0, .int .i64 0, .string ⟨#[]⟩, .int .i64 0, .int .i64 0, .int .i64 0]) := ⟨by kernel_rfl⟩
instance : TA Tryz.prog 82 6 := ⟨by kernel_rfl⟩
instance : TEq Tryz.prog 82 [5, 5, 1, 5, 5, 5] := ⟨by kernel_rfl, by kernel_rfl, by kernel_rfl⟩
instance : TB Tryz.prog 82 [(0, 1), (1, 1), (2, 4)] [.int .i64 0, .int .i64 0, .string ⟨#[]⟩, .int .i64 0, .int .i64 0, .int .i64 0] := ⟨by kernel_rfl, by kernel_rfl⟩
instance : TF Tryz.prog 82 0 0 := ⟨by kernel_rfl⟩
instance : TF Tryz.prog 82 1 1 := ⟨by kernel_rfl⟩
instance : TF Tryz.prog 82 2 2 := ⟨by kernel_rfl⟩
instance : TZ Tryz.prog 83 [.int .i64 0, .int .i64 0, .string ⟨#[]⟩, .int .i64 0, .int .i64 0, .int .i64 0] := ⟨by kernel_rfl⟩
instance : TZV Tryz.prog 83 (.agg #[.int .i64 0, .int .i64 0, .string ⟨#[]⟩, .int .i64 0, .int .i64 0, .int .i64 0]) := ⟨by kernel_rfl⟩
instance : TA Tryz.prog 83 6 := ⟨by kernel_rfl⟩
instance : TEq Tryz.prog 83 [5, 5, 1, 5, 5, 5] := ⟨by kernel_rfl, by kernel_rfl, by kernel_rfl⟩
instance : TB Tryz.prog 83 [(0, 1), (1, 1), (2, 4)] [.int .i64 0, .int .i64 0, .string ⟨#[]⟩, .int .i64 0, .int .i64 0, .int .i64 0] := ⟨by kernel_rfl, by kernel_rfl⟩
instance : TF Tryz.prog 83 0 0 := ⟨by kernel_rfl⟩
instance : TF Tryz.prog 83 1 1 := ⟨by kernel_rfl⟩
instance : TF Tryz.prog 83 2 2 := ⟨by kernel_rfl⟩
instance : TZ Tryz.prog 84 [.nilFunc] := ⟨by kernel_rfl⟩
instance : TZV Tryz.prog 84 (.nilFunc) := ⟨by kernel_rfl⟩
instance : TS Tryz.prog 84 := ⟨by kernel_rfl⟩
instance : TZ Tryz.prog 86 [.nilFunc] := ⟨by kernel_rfl⟩
instance : TZV Tryz.prog 86 (.nilFunc) := ⟨by kernel_rfl⟩
instance : TS Tryz.prog 86 := ⟨by kernel_rfl⟩
instance : TZ Tryz.prog 87 [.nilFunc] := ⟨by kernel_rfl⟩
instance : TZV Tryz.prog 87 (.nilFunc) := ⟨by kernel_rfl⟩
instance : TS Tryz.prog 87 := ⟨by kernel_rfl⟩
instance : TZ Tryz.prog 88 [.nilFunc] := ⟨by kernel_rfl⟩
instance : TZV Tryz.prog 88 (.nilFunc) := ⟨by kernel_rfl⟩
instance : TS Tryz.prog 88 := ⟨by kernel_rfl⟩
instance : TZ Tryz.prog 89 [.nilFunc] := ⟨by kernel_rfl⟩
instance : TZV Tryz.prog 89 (.nilFunc) := ⟨by kernel_rfl⟩
instance : TS Tryz.prog 89 := ⟨by kernel_rfl⟩
instance : TZ Tryz.prog 90 [.nilFunc] := ⟨by kernel_rfl⟩
instance : TZV Tryz.prog 90 (.nilFunc) := ⟨by kernel_rfl⟩
instance : TS Tryz.prog 90 := ⟨by kernel_rfl⟩
instance : TZ Tryz.prog 91 [.nilFunc] := ⟨by kernel_rfl⟩
instance : TZV Tryz.prog 91 (.nilFunc) := ⟨by kernel_rfl⟩
instance : TS Tryz.prog 91 := ⟨by kernel_rfl⟩
instance : TZ Tryz.prog 92 [.nilFunc] := ⟨by kernel_rfl⟩
instance : TZV Tryz.prog 92 (.nilFunc) := ⟨by kernel_rfl⟩
instance : TS Tryz.prog 92 := ⟨by kernel_rfl⟩
instance : TZ Tryz.prog 93 [.nilFunc] := ⟨by kernel_rfl⟩
instance : TZV Tryz.prog 93 (.nilFunc) := ⟨by kernel_rfl⟩
instance : TS Tryz.prog 93 := ⟨by kernel_rfl⟩
instance : TZ Tryz.prog 94 [.nilFunc] := ⟨by kernel_rfl⟩
instance : TZV Tryz.prog 94 (.nilFunc) := ⟨by kernel_rfl⟩
instance : TS Tryz.prog 94 := ⟨by kernel_rfl⟩
instance : TZ Tryz.prog 95 [.nilFunc] := ⟨by kernel_rfl⟩
instance : TZV Tryz.prog 95 (.nilFunc) := ⟨by kernel_rfl⟩
instance : TS Tryz.prog 95 := ⟨by kernel_rfl⟩
instance : TZ Tryz.prog 96 [.nilFunc] := ⟨by kernel_rfl⟩
instance : TZV Tryz.prog 96 (.nilFunc) := ⟨by kernel_rfl⟩
instance : TS Tryz.prog 96 := ⟨by kernel_rfl⟩
instance : TZ Tryz.prog 97 [.nilFunc] := ⟨by kernel_rfl⟩
instance : TZV Tryz.prog 97 (.nilFunc) := ⟨by kernel_rfl⟩
instance : TS Tryz.prog 97 := ⟨by kernel_rfl⟩
instance : TZ Tryz.prog 98 [.nilFunc] := ⟨by kernel_rfl⟩
instance : TZV Tryz.prog 98 (.nilFunc) := ⟨by kernel_rfl⟩
instance : TS Tryz.prog 98 := ⟨by kernel_rfl⟩
instance : TZ Tryz.prog 99 [.int .u64 0] := ⟨by kernel_rfl⟩
instance : TZV Tryz.prog 99 (.int .u64 0) := ⟨by kernel_rfl⟩
instance : TS Tryz.prog 99 := ⟨by kernel_rfl⟩
instance : TInt Tryz.prog 99 .u64 := ⟨by kernel_rfl⟩
instance : TZ Tryz.prog 100 [.nilFunc] := ⟨by kernel_rfl⟩
instance : TZV Tryz.prog 100 (.nilFunc) := ⟨by kernel_rfl⟩
instance : TS Tryz.prog 100 := ⟨by kernel_rfl⟩
instance : TZ Tryz.prog 101 [.nilFunc] := ⟨by kernel_rfl⟩
instance : TZV Tryz.prog 101 (.nilFunc) := ⟨by kernel_rfl⟩
instance : TS Tryz.prog 101 := ⟨by kernel_rfl⟩
instance : TZ Tryz.prog 102 [.nilFunc] := ⟨by kernel_rfl⟩
instance : TZV Tryz.prog 102 (.nilFunc) := ⟨by kernel_rfl⟩
instance : TS Tryz.prog 102 := ⟨by kernel_rfl⟩
instance : TZ Tryz.prog 103 [.nilFunc] := ⟨by kernel_rfl⟩
instance : TZV Tryz.prog 103 (.nilFunc) := ⟨by kernel_rfl⟩
instance : TS Tryz.prog 103 := ⟨by kernel_rfl⟩
instance : TZ Tryz.prog 104 [.string ⟨#[]⟩, .string ⟨#[]⟩, .string ⟨#[]⟩, .string ⟨#[]⟩, .string ⟨#[]⟩, .string ⟨#[]⟩, .string ⟨#[]⟩, .string ⟨#[]⟩] := ⟨by kernel_rfl⟩
instance : TZV Tryz.prog 104 (.agg #[.string ⟨#[]⟩, .string ⟨#[]⟩, .string ⟨#[]⟩, .string ⟨#[]⟩, .string ⟨#[]⟩, .string ⟨#[]⟩, .string ⟨#[]⟩, .string ⟨#[]⟩]) := ⟨by kernel_rfl⟩
instance : TA Tryz.prog 104 8 := ⟨by kernel_rfl⟩
instance : TArr Tryz.prog 104 8 9 1 := ⟨by kernel_rfl, by kernel_rfl⟩
instance : TZ Tryz.prog 105 [.nilFunc] := ⟨by kernel_rfl⟩
instance : TZV Tryz.prog 105 (.nilFunc) := ⟨by kernel_rfl⟩
instance : TS Tryz.prog 105 := ⟨by kernel_rfl⟩
instance : TZ Tryz.prog 106 [.nilFunc] := ⟨by kernel_rfl⟩
instance : TZV Tryz.prog 106 (.nilFunc) := ⟨by kernel_rfl⟩
instance : TS Tryz.prog 106 := ⟨by kernel_rfl⟩
instance : TZ Tryz.prog 107 [.nilFunc] := ⟨by kernel_rfl⟩
instance : TZV Tryz.prog 107 (.nilFunc) := ⟨by kernel_rfl⟩
instance : TS Tryz.prog 107 := ⟨by kernel_rfl⟩
instance : TZ Tryz.prog 108 [.nilFunc] := ⟨by kernel_rfl⟩
instance : TZV Tryz.prog 108 (.nilFunc) := ⟨by kernel_rfl⟩
instance : TS Tryz.prog 108 := ⟨by kernel_rfl⟩
instance : TZ Tryz.prog 109 [.int .i64 0] := ⟨by kernel_rfl⟩
instance : TZV Tryz.prog 109 (.int .i64 0) := ⟨by kernel_rfl⟩
instance : TS Tryz.prog 109 := ⟨by kernel_rfl⟩
instance : TInt Tryz.prog 109 .i64 := ⟨by kernel_rfl⟩
instance : TZ Tryz.prog 111 [.nilFunc] := ⟨by kernel_rfl⟩
instance : TZV Tryz.prog 111 (.nilFunc) := ⟨by kernel_rfl⟩
instance : TS Tryz.prog 111 := ⟨by kernel_rfl⟩
instance : TZ Tryz.prog 112 [.nilFunc] := ⟨by kernel_rfl⟩
instance : TZV Tryz.prog 112 (.nilFunc) := ⟨by kernel_rfl⟩
instance : TS Tryz.prog 112 := ⟨by kernel_rfl⟩
instance : TZ Tryz.prog 113 [.nilFunc] := ⟨by kernel_rfl⟩
instance : TZV Tryz.prog 113 (.nilFunc) := ⟨by kernel_rfl⟩
instance : TS Tryz.prog 113 := ⟨by kernel_rfl⟩
instance : TZ Tryz.prog 115 [.nilFunc] := ⟨by kernel_rfl⟩
instance : TZV Tryz.prog 115 (.nilFunc) := ⟨by kernel_rfl⟩
instance : TS Tryz.prog 115 := ⟨by kernel_rfl⟩
instance : TZ Tryz.prog 116 [.nilFunc] := ⟨by kernel_rfl⟩
instance : TZV Tryz.prog 116 (.nilFunc) := ⟨by kernel_rfl⟩
instance : TS Tryz.prog 116 := ⟨by kernel_rfl⟩
instance : TZ Tryz.prog 117 [.int .u32 0] := ⟨by kernel_rfl⟩
instance : TZV Tryz.prog 117 (.int .u32 0) := ⟨by kernel_rfl⟩
instance : TS Tryz.prog 117 := ⟨by kernel_rfl⟩
instance : TInt Tryz.prog 117 .u32 := ⟨by kernel_rfl⟩
instance : TZ Tryz.prog 118 [.nilFunc] := ⟨by kernel_rfl⟩
instance : TZV Tryz.prog 118 (.nilFunc) := ⟨by kernel_rfl⟩
instance : TS Tryz.prog 118 := ⟨by kernel_rfl⟩
instance : TZ Tryz.prog 119 [.int .u64 0] := ⟨by kernel_rfl⟩
instance : TZV Tryz.prog 119 (.int .u64 0) := ⟨by kernel_rfl⟩
instance : TS Tryz.prog 119 := ⟨by kernel_rfl⟩
instance : TInt Tryz.prog 119 .u64 := ⟨by kernel_rfl⟩
instance : TZ Tryz.prog 120 [.slice none 0 0] := ⟨by kernel_rfl⟩
instance : TZV Tryz.prog 120 (.slice none 0 0) := ⟨by kernel_rfl⟩
instance : TS Tryz.prog 120 := ⟨by kernel_rfl⟩
instance : TL Tryz.prog 120 3 1 8 [.int .i64 0] := ⟨by kernel_rfl, by kernel_rfl, by kernel_rfl, by decide⟩
instance : TZ Tryz.prog 121 [.nilFunc] := ⟨by kernel_rfl⟩
instance : TZV Tryz.prog 121 (.nilFunc) := ⟨by kernel_rfl⟩
instance : TS Tryz.prog 121 := ⟨by kernel_rfl⟩
instance : TZ Tryz.prog 122 [.nilFunc] := ⟨by kernel_rfl⟩
instance : TZV Tryz.prog 122 (.nilFunc) := ⟨by kernel_rfl⟩
instance : TS Tryz.prog 122 := ⟨by kernel_rfl⟩
instance : TZ Tryz.prog 123 [.nilFunc] := ⟨by kernel_rfl⟩
instance : TZV Tryz.prog 123 (.nilFunc) := ⟨by kernel_rfl⟩
instance : TS Tryz.prog 123 := ⟨by kernel_rfl⟩
instance : TZ Tryz.prog 124 [.nilFunc] := ⟨by kernel_rfl⟩
instance : TZV Tryz.prog 124 (.nilFunc) := ⟨by kernel_rfl⟩
instance : TS Tryz.prog 124 := ⟨by kernel_rfl⟩
instance : TZ Tryz.prog 125 [.nilFunc] := ⟨by kernel_rfl⟩
instance : TZV Tryz.prog 125 (.nilFunc) := ⟨by kernel_rfl⟩
instance : TS Tryz.prog 125 := ⟨by kernel_rfl⟩
instance : TZ Tryz.prog 126 [.nilFunc] := ⟨by kernel_rfl⟩
instance : TZV Tryz.prog 126 (.nilFunc) := ⟨by kernel_rfl⟩
instance : TS Tryz.prog 126 := ⟨by kernel_rfl⟩
instance : TZ Tryz.prog 127 [.int .u64 0] := ⟨by kernel_rfl⟩
instance : TZV Tryz.prog 127 (.int .u64 0) := ⟨by kernel_rfl⟩
instance : TS Tryz.prog 127 := ⟨by kernel_rfl⟩
instance : TInt Tryz.prog 127 .u64 := ⟨by kernel_rfl⟩
instance : TZ Tryz.prog 128 [.nilFunc] := ⟨by kernel_rfl⟩
instance : TZV Tryz.prog 128 (.nilFunc) := ⟨by kernel_rfl⟩
instance : TS Tryz.prog 128 := ⟨by kernel_rfl⟩
instance : TZ Tryz.prog 129 [.nilFunc] := ⟨by kernel_rfl⟩
instance : TZV Tryz.prog 129 (.nilFunc) := ⟨by kernel_rfl⟩
instance : TS Tryz.prog 129 := ⟨by kernel_rfl⟩
instance : TZ Tryz.prog 130 [.nilFunc] := ⟨by kernel_rfl⟩
instance : TZV Tryz.prog 130 (.nilFunc) := ⟨by kernel_rfl⟩
instance : TS Tryz.prog 130 := ⟨by kernel_rfl⟩
instance : TZ Tryz.prog 131 [.pointer none] := ⟨by kernel_rfl⟩
instance : TZV Tryz.prog 131 (.pointer none) := ⟨by kernel_rfl⟩
instance : TS Tryz.prog 131 := ⟨by kernel_rfl⟩
instance : TPtr Tryz.prog 131 3 := ⟨by kernel_rfl⟩
instance : TZ Tryz.prog 132 [.nilFunc] := ⟨by kernel_rfl⟩
instance : TZV Tryz.prog 132 (.nilFunc) := ⟨by kernel_rfl⟩
instance : TS Tryz.prog 132 := ⟨by kernel_rfl⟩
instance : TZ Tryz.prog 133 [.nilFunc] := ⟨by kernel_rfl⟩
instance : TZV Tryz.prog 133 (.nilFunc) := ⟨by kernel_rfl⟩
instance : TS Tryz.prog 133 := ⟨by kernel_rfl⟩
instance : TZ Tryz.prog 134 [.nilFunc] := ⟨by kernel_rfl⟩
instance : TZV Tryz.prog 134 (.nilFunc) := ⟨by kernel_rfl⟩
instance : TS Tryz.prog 134 := ⟨by kernel_rfl⟩
instance : TZ Tryz.prog 135 [.nilFunc] := ⟨by kernel_rfl⟩
instance : TZV Tryz.prog 135 (.nilFunc) := ⟨by kernel_rfl⟩
instance : TS Tryz.prog 135 := ⟨by kernel_rfl⟩
instance : TZ Tryz.prog 136 [.pointer none] := ⟨by kernel_rfl⟩
instance : TZV Tryz.prog 136 (.pointer none) := ⟨by kernel_rfl⟩
instance : TS Tryz.prog 136 := ⟨by kernel_rfl⟩
instance : TPtr Tryz.prog 136 127 := ⟨by kernel_rfl⟩
instance : TZ Tryz.prog 138 [.nilFunc] := ⟨by kernel_rfl⟩
instance : TZV Tryz.prog 138 (.nilFunc) := ⟨by kernel_rfl⟩
instance : TS Tryz.prog 138 := ⟨by kernel_rfl⟩
instance : TZ Tryz.prog 139 [.nilFunc] := ⟨by kernel_rfl⟩
instance : TZV Tryz.prog 139 (.nilFunc) := ⟨by kernel_rfl⟩
instance : TS Tryz.prog 139 := ⟨by kernel_rfl⟩
instance : TZ Tryz.prog 140 [.nilFunc] := ⟨by kernel_rfl⟩
instance : TZV Tryz.prog 140 (.nilFunc) := ⟨by kernel_rfl⟩
instance : TS Tryz.prog 140 := ⟨by kernel_rfl⟩
instance : TZ Tryz.prog 141 [.pointer none, .pointer none, .pointer none, .string ⟨#[]⟩] := ⟨by kernel_rfl⟩
instance : TZV Tryz.prog 141 (.agg #[.pointer none, .pointer none, .pointer none, .string ⟨#[]⟩]) := ⟨by kernel_rfl⟩
instance : TA Tryz.prog 141 4 := ⟨by kernel_rfl⟩
instance : TB Tryz.prog 141 [(0, 1), (1, 1), (2, 1), (3, 1)] [.pointer none, .pointer none, .pointer none, .string ⟨#[]⟩] := ⟨by kernel_rfl, by kernel_rfl⟩
instance : TF Tryz.prog 141 0 0 := ⟨by kernel_rfl⟩
instance : TF Tryz.prog 141 1 1 := ⟨by kernel_rfl⟩
instance : TF Tryz.prog 141 2 2 := ⟨by kernel_rfl⟩
instance : TF Tryz.prog 141 3 3 := ⟨by kernel_rfl⟩
instance : TZ Tryz.prog 142 [.pointer none, .pointer none, .pointer none, .string ⟨#[]⟩] := ⟨by kernel_rfl⟩
instance : TZV Tryz.prog 142 (.agg #[.pointer none, .pointer none, .pointer none, .string ⟨#[]⟩]) := ⟨by kernel_rfl⟩
instance : TA Tryz.prog 142 4 := ⟨by kernel_rfl⟩
instance : TB Tryz.prog 142 [(0, 1), (1, 1), (2, 1), (3, 1)] [.pointer none, .pointer none, .pointer none, .string ⟨#[]⟩] := ⟨by kernel_rfl, by kernel_rfl⟩
instance : TF Tryz.prog 142 0 0 := ⟨by kernel_rfl⟩
instance : TF Tryz.prog 142 1 1 := ⟨by kernel_rfl⟩
instance : TF Tryz.prog 142 2 2 := ⟨by kernel_rfl⟩
instance : TF Tryz.prog 142 3 3 := ⟨by kernel_rfl⟩
instance : TZ Tryz.prog 143 [] := ⟨by kernel_rfl⟩
instance : TZV Tryz.prog 143 (.agg #[]) := ⟨by kernel_rfl⟩
instance : TA Tryz.prog 143 0 := ⟨by kernel_rfl⟩
instance : TArr Tryz.prog 143 0 16 1 := ⟨by kernel_rfl, by kernel_rfl⟩
instance : TZ Tryz.prog 144 [] := ⟨by kernel_rfl⟩
instance : TZV Tryz.prog 144 (.agg #[]) := ⟨by kernel_rfl⟩
instance : TA Tryz.prog 144 0 := ⟨by kernel_rfl⟩
instance : TZ Tryz.prog 145 [] := ⟨by kernel_rfl⟩
instance : TZV Tryz.prog 145 (.agg #[]) := ⟨by kernel_rfl⟩
instance : TA Tryz.prog 145 0 := ⟨by kernel_rfl⟩
instance : TZ Tryz.prog 146 [.nilFunc] := ⟨by kernel_rfl⟩
instance : TZV Tryz.prog 146 (.nilFunc) := ⟨by kernel_rfl⟩
instance : TS Tryz.prog 146 := ⟨by kernel_rfl⟩
instance : TZ Tryz.prog 147 [.int .u8 0] := ⟨by kernel_rfl⟩
instance : TZV Tryz.prog 147 (.int .u8 0) := ⟨by kernel_rfl⟩
instance : TS Tryz.prog 147 := ⟨by kernel_rfl⟩
instance : TInt Tryz.prog 147 .u8 := ⟨by kernel_rfl⟩
instance : TZ Tryz.prog 148 [.int .u8 0] := ⟨by kernel_rfl⟩
instance : TZV Tryz.prog 148 (.int .u8 0) := ⟨by kernel_rfl⟩
instance : TS Tryz.prog 148 := ⟨by kernel_rfl⟩
instance : TInt Tryz.prog 148 .u8 := ⟨by kernel_rfl⟩
instance : TZ Tryz.prog 149 [.nilFunc] := ⟨by kernel_rfl⟩
instance : TZV Tryz.prog 149 (.nilFunc) := ⟨by kernel_rfl⟩
instance : TS Tryz.prog 149 := ⟨by kernel_rfl⟩
instance : TZ Tryz.prog 150 [.pointer none] := ⟨by kernel_rfl⟩
instance : TZV Tryz.prog 150 (.pointer none) := ⟨by kernel_rfl⟩
instance : TS Tryz.prog 150 := ⟨by kernel_rfl⟩
instance : TPtr Tryz.prog 150 5 := ⟨by kernel_rfl⟩
instance : TZ Tryz.prog 151 [.int .i32 0] := ⟨by kernel_rfl⟩
instance : TZV Tryz.prog 151 (.int .i32 0) := ⟨by kernel_rfl⟩
instance : TS Tryz.prog 151 := ⟨by kernel_rfl⟩
instance : TInt Tryz.prog 151 .i32 := ⟨by kernel_rfl⟩
instance : TZ Tryz.prog 152 [.int .i32 0] := ⟨by kernel_rfl⟩
instance : TZV Tryz.prog 152 (.int .i32 0) := ⟨by kernel_rfl⟩
instance : TS Tryz.prog 152 := ⟨by kernel_rfl⟩
instance : TInt Tryz.prog 152 .i32 := ⟨by kernel_rfl⟩
instance : TZ Tryz.prog 153 [.int .u64 0, .int .u64 0, .int .u32 0, .int .u8 0, .int .u8 0, .int .u8 0, .int .u8 0, .nilFunc, .pointer none, .int .i32 0, .int .i32 0] := ⟨by kernel_rfl⟩
instance : TZV Tryz.prog 153 (.agg #[.int .u64 0, .int .u64 0, .int .u32 0, .int .u8 0, .int .u8 0, .int .u8 0, .int .u8 0, .nilFunc, .pointer none, .int .i32 0, .int .i32 0]) := ⟨by kernel_rfl⟩
instance : TA Tryz.prog 153 11 := ⟨by kernel_rfl⟩
instance : TB Tryz.prog 153 [(0, 1), (1, 1), (2, 1), (3, 1), (4, 1), (5, 1), (6, 1), (7, 1), (8, 1), (9, 1), (10, 1)] [.int .u64 0, .int .u64 0, .int .u32 0, .int .u8 0, .int .u8 0, .int .u8 0, .int .u8 0, .nilFunc, .pointer none, .int .i32 0, .int .i32 0] := ⟨by kernel_rfl, by kernel_rfl⟩
instance : TF Tryz.prog 153 0 0 := ⟨by kernel_rfl⟩
instance : TF Tryz.prog 153 1 1 := ⟨by kernel_rfl⟩
instance : TF Tryz.prog 153 2 2 := ⟨by kernel_rfl⟩
instance : TF Tryz.prog 153 3 3 := ⟨by kernel_rfl⟩
instance : TF Tryz.prog 153 4 4 := ⟨by kernel_rfl⟩
instance : TF Tryz.prog 153 5 5 := ⟨by kernel_rfl⟩
instance : TF Tryz.prog 153 6 6 := ⟨by kernel_rfl⟩
instance : TF Tryz.prog 153 7 7 := ⟨by kernel_rfl⟩
instance : TF Tryz.prog 153 8 8 := ⟨by kernel_rfl⟩
instance : TF Tryz.prog 153 9 9 := ⟨by kernel_rfl⟩
instance : TF Tryz.prog 153 10 10 := ⟨by kernel_rfl⟩
instance : TZ Tryz.prog 154 [.int .u64 0, .int .u64 0, .int .u32 0, .int .u8 0, .int .u8 0, .int .u8 0, .int .u8 0, .nilFunc, .pointer none, .int .i32 0, .int .i32 0] := ⟨by kernel_rfl⟩
instance : TZV Tryz.prog 154 (.agg #[.int .u64 0, .int .u64 0, .int .u32 0, .int .u8 0, .int .u8 0, .int .u8 0, .int .u8 0, .nilFunc, .pointer none, .int .i32 0, .int .i32 0]) := ⟨by kernel_rfl⟩
instance : TA Tryz.prog 154 11 := ⟨by kernel_rfl⟩
instance : TB Tryz.prog 154 [(0, 1), (1, 1), (2, 1), (3, 1), (4, 1), (5, 1), (6, 1), (7, 1), (8, 1), (9, 1), (10, 1)] [.int .u64 0, .int .u64 0, .int .u32 0, .int .u8 0, .int .u8 0, .int .u8 0, .int .u8 0, .nilFunc, .pointer none, .int .i32 0, .int .i32 0] := ⟨by kernel_rfl, by kernel_rfl⟩
instance : TF Tryz.prog 154 0 0 := ⟨by kernel_rfl⟩
instance : TF Tryz.prog 154 1 1 := ⟨by kernel_rfl⟩
instance : TF Tryz.prog 154 2 2 := ⟨by kernel_rfl⟩
instance : TF Tryz.prog 154 3 3 := ⟨by kernel_rfl⟩
instance : TF Tryz.prog 154 4 4 := ⟨by kernel_rfl⟩
instance : TF Tryz.prog 154 5 5 := ⟨by kernel_rfl⟩
instance : TF Tryz.prog 154 6 6 := ⟨by kernel_rfl⟩
instance : TF Tryz.prog 154 7 7 := ⟨by kernel_rfl⟩
instance : TF Tryz.prog 154 8 8 := ⟨by kernel_rfl⟩
instance : TF Tryz.prog 154 9 9 := ⟨by kernel_rfl⟩
instance : TF Tryz.prog 154 10 10 := ⟨by kernel_rfl⟩
instance : TZ Tryz.prog 155 [.pointer none] := ⟨by kernel_rfl⟩
instance : TZV Tryz.prog 155 (.pointer none) := ⟨by kernel_rfl⟩
instance : TS Tryz.prog 155 := ⟨by kernel_rfl⟩
instance : FnOk Tryz.prog 3 := ⟨by kernel_rfl⟩
instance : FnOk Tryz.prog 4 := ⟨by kernel_rfl⟩
instance : FnOk Tryz.prog 5 := ⟨by kernel_rfl⟩
instance : FnOk Tryz.prog 6 := ⟨by kernel_rfl⟩
instance : FnOk Tryz.prog 7 := ⟨by kernel_rfl⟩
instance : FnOk Tryz.prog 8 := ⟨by kernel_rfl⟩
instance : FnOk Tryz.prog 9 := ⟨by kernel_rfl⟩
instance : FnOk Tryz.prog 10 := ⟨by kernel_rfl⟩
instance : FnOk Tryz.prog 11 := ⟨by kernel_rfl⟩
instance : FnOk Tryz.prog 12 := ⟨by kernel_rfl⟩
instance : FnOk Tryz.prog 13 := ⟨by kernel_rfl⟩
instance : FnOk Tryz.prog 14 := ⟨by kernel_rfl⟩
instance : FnOk Tryz.prog 15 := ⟨by kernel_rfl⟩
instance : FnOk Tryz.prog 16 := ⟨by kernel_rfl⟩
instance : FnOk Tryz.prog 17 := ⟨by kernel_rfl⟩
instance : FnOk Tryz.prog 18 := ⟨by kernel_rfl⟩
instance : FnOk Tryz.prog 19 := ⟨by kernel_rfl⟩
instance : FnOk Tryz.prog 20 := ⟨by kernel_rfl⟩
instance : FnOk Tryz.prog 21 := ⟨by kernel_rfl⟩
instance : FnOk Tryz.prog 22 := ⟨by kernel_rfl⟩
instance : FnOk Tryz.prog 23 := ⟨by kernel_rfl⟩
instance : FnOk Tryz.prog 24 := ⟨by kernel_rfl⟩
instance : FnOk Tryz.prog 25 := ⟨by kernel_rfl⟩
instance : FnOk Tryz.prog 26 := ⟨by kernel_rfl⟩
instance : FnOk Tryz.prog 27 := ⟨by kernel_rfl⟩
instance : FnOk Tryz.prog 28 := ⟨by kernel_rfl⟩
instance : FnOk Tryz.prog 29 := ⟨by kernel_rfl⟩
instance : FnOk Tryz.prog 30 := ⟨by kernel_rfl⟩
instance : FnOk Tryz.prog 31 := ⟨by kernel_rfl⟩
instance : FnOk Tryz.prog 32 := ⟨by kernel_rfl⟩
instance : FnOk Tryz.prog 33 := ⟨by kernel_rfl⟩
instance : FnOk Tryz.prog 34 := ⟨by kernel_rfl⟩
instance : FnOk Tryz.prog 35 := ⟨by kernel_rfl⟩
instance : FnOk Tryz.prog 36 := ⟨by kernel_rfl⟩
instance : FnOk Tryz.prog 37 := ⟨by kernel_rfl⟩
instance : FnOk Tryz.prog 38 := ⟨by kernel_rfl⟩
instance : FnOk Tryz.prog 39 := ⟨by kernel_rfl⟩
instance : FnOk Tryz.prog 40 := ⟨by kernel_rfl⟩
instance : FnOk Tryz.prog 41 := ⟨by kernel_rfl⟩
instance : FnOk Tryz.prog 42 := ⟨by kernel_rfl⟩
instance : FnOk Tryz.prog 43 := ⟨by kernel_rfl⟩
instance : FnOk Tryz.prog 44 := ⟨by kernel_rfl⟩
instance : FnOk Tryz.prog 45 := ⟨by kernel_rfl⟩
instance : FnOk Tryz.prog 46 := ⟨by kernel_rfl⟩
instance : FnOk Tryz.prog 47 := ⟨by kernel_rfl⟩
instance : FnOk Tryz.prog 48 := ⟨by kernel_rfl⟩
instance : FnOk Tryz.prog 49 := ⟨by kernel_rfl⟩
instance : FnOk Tryz.prog 50 := ⟨by kernel_rfl⟩
instance : FnOk Tryz.prog 51 := ⟨by kernel_rfl⟩
instance : FnOk Tryz.prog 52 := ⟨by kernel_rfl⟩
instance : FnOk Tryz.prog 53 := ⟨by kernel_rfl⟩
instance : FnOk Tryz.prog 54 := ⟨by kernel_rfl⟩
instance : FnOk Tryz.prog 55 := ⟨by kernel_rfl⟩
instance : FnOk Tryz.prog 56 := ⟨by kernel_rfl⟩
instance : FnOk Tryz.prog 57 := ⟨by kernel_rfl⟩
instance : FnOk Tryz.prog 58 := ⟨by kernel_rfl⟩
instance : FnOk Tryz.prog 59 := ⟨by kernel_rfl⟩
instance : FnOk Tryz.prog 60 := ⟨by kernel_rfl⟩
instance : FnOk Tryz.prog 61 := ⟨by kernel_rfl⟩
instance : FnOk Tryz.prog 62 := ⟨by kernel_rfl⟩
instance : FnOk Tryz.prog 63 := ⟨by kernel_rfl⟩
instance : FnOk Tryz.prog 64 := ⟨by kernel_rfl⟩
instance : FnOk Tryz.prog 65 := ⟨by kernel_rfl⟩
instance : FnOk Tryz.prog 66 := ⟨by kernel_rfl⟩
instance : FnOk Tryz.prog 67 := ⟨by kernel_rfl⟩
instance : FnOk Tryz.prog 68 := ⟨by kernel_rfl⟩
instance : FnOk Tryz.prog 69 := ⟨by kernel_rfl⟩
instance : FnOk Tryz.prog 70 := ⟨by kernel_rfl⟩
instance : FnOk Tryz.prog 71 := ⟨by kernel_rfl⟩
instance : FnOk Tryz.prog 72 := ⟨by kernel_rfl⟩
instance : FnOk Tryz.prog 73 := ⟨by kernel_rfl⟩
instance : FnOk Tryz.prog 74 := ⟨by kernel_rfl⟩
instance : FnOk Tryz.prog 75 := ⟨by kernel_rfl⟩
instance : FnOk Tryz.prog 76 := ⟨by kernel_rfl⟩
instance : FnOk Tryz.prog 77 := ⟨by kernel_rfl⟩
instance : FnOk Tryz.prog 78 := ⟨by kernel_rfl⟩
instance : FnOk Tryz.prog 79 := ⟨by kernel_rfl⟩
instance : FnOk Tryz.prog 80 := ⟨by kernel_rfl⟩
instance : FnOk Tryz.prog 81 := ⟨by kernel_rfl⟩
instance : FnOk Tryz.prog 82 := ⟨by kernel_rfl⟩
instance : FnOk Tryz.prog 83 := ⟨by kernel_rfl⟩
instance : FnOk Tryz.prog 84 := ⟨by kernel_rfl⟩
instance : FnOk Tryz.prog 85 := ⟨by kernel_rfl⟩
instance : FnOk Tryz.prog 86 := ⟨by kernel_rfl⟩
instance : FnOk Tryz.prog 87 := ⟨by kernel_rfl⟩
instance : FnOk Tryz.prog 88 := ⟨by kernel_rfl⟩
instance : FnOk Tryz.prog 89 := ⟨by kernel_rfl⟩
instance : FnOk Tryz.prog 90 := ⟨by kernel_rfl⟩
instance : FnOk Tryz.prog 91 := ⟨by kernel_rfl⟩
instance : FnOk Tryz.prog 92 := ⟨by kernel_rfl⟩
instance : FnOk Tryz.prog 93 := ⟨by kernel_rfl⟩
instance : FnOk Tryz.prog 94 := ⟨by kernel_rfl⟩
instance : FnOk Tryz.prog 95 := ⟨by kernel_rfl⟩
instance : FnOk Tryz.prog 96 := ⟨by kernel_rfl⟩
instance : FnOk Tryz.prog 97 := ⟨by kernel_rfl⟩
instance : FnOk Tryz.prog 98 := ⟨by kernel_rfl⟩
instance : FnOk Tryz.prog 99 := ⟨by kernel_rfl⟩
instance : FnOk Tryz.prog 100 := ⟨by kernel_rfl⟩
instance : FnOk Tryz.prog 101 := ⟨by kernel_rfl⟩
instance : FnOk Tryz.prog 102 := ⟨by kernel_rfl⟩
instance : FnOk Tryz.prog 103 := ⟨by kernel_rfl⟩
instance : FnOk Tryz.prog 104 := ⟨by kernel_rfl⟩
instance : FnOk Tryz.prog 105 := ⟨by kernel_rfl⟩
instance : FnOk Tryz.prog 106 := ⟨by kernel_rfl⟩
instance : FnOk Tryz.prog 107 := ⟨by kernel_rfl⟩
instance : FnOk Tryz.prog 108 := ⟨by kernel_rfl⟩
instance : FnOk Tryz.prog 109 := ⟨by kernel_rfl⟩
instance : FnOk Tryz.prog 110 := ⟨by kernel_rfl⟩
instance : FnOk Tryz.prog 111 := ⟨by kernel_rfl⟩
instance : FnOk Tryz.prog 112 := ⟨by kernel_rfl⟩
end Go.Proofs.YtekdbdhkpolooaaGreat
end
/- Words and names, and numbers brought into a range: what these functions answer. -/
section
open Go Mk
namespace Go.Proofs.YtekdbdhkpolooaaGreat
attribute [local irreducible] Calls

def letterB (c : Int) : Bool := decide (97 ≤ c) && decide (c ≤ 122) || decide (65 ≤ c) && decide (c ≤ 90) || decide (c = 95)
def digitB (c : Int) : Bool := decide (48 ≤ c) && decide (c ≤ 57)
instance (c : Int) : PC Tryz.prog 89 [.int .u8 c] (.bool (letterB c)) := ⟨fun w => by
  refine calls_of_W Tryz.func89 rfl rfl ?_
  repeat (first | (first | refine W_seq ?_ | refine W_block ?_ | refine W_region ?_ | refine W_skip ?_ | refine W_ret ?_ | refine W_exit ?_) | (first | refine L_nil ?_ | (apply L_plain; first | (apply L_go; first | refine lP ?_ | (refine lPg ?_; intro w hw)) | (apply L_mf; refine lMakeFunc ?_) | refine lY ?_) | (apply L_guarded; first | refine lGT ?_ | refine lGF ?_ | (apply L_go; refine lPG ?_) | refine lG ?_)))
  exact ⟨_, rfl, rfl, rfl⟩⟩
instance (c : Int) : PC Tryz.prog 107 [.int .u8 c] (.bool (digitB c)) := ⟨fun w => by
  refine calls_of_W Tryz.func107 rfl rfl ?_
  repeat (first | (first | refine W_seq ?_ | refine W_block ?_ | refine W_region ?_ | refine W_skip ?_ | refine W_ret ?_ | refine W_exit ?_) | (first | refine L_nil ?_ | (apply L_plain; first | (apply L_go; first | refine lP ?_ | (refine lPg ?_; intro w hw)) | (apply L_mf; refine lMakeFunc ?_) | refine lY ?_) | (apply L_guarded; first | refine lGT ?_ | refine lGF ?_ | (apply L_go; refine lPG ?_) | refine lG ?_)))
  exact ⟨_, rfl, rfl, rfl⟩⟩
instance (c : Int) : PC Tryz.prog 91 [.int .u8 c] (.bool (letterB c)) := ⟨fun w => by
  refine calls_of_W Tryz.func91 rfl rfl ?_
  repeat (first | (first | refine W_seq ?_ | refine W_block ?_ | refine W_region ?_ | refine W_skip ?_ | refine W_ret ?_ | refine W_exit ?_) | (first | refine L_nil ?_ | (apply L_plain; first | (apply L_go; first | refine lP ?_ | (refine lPg ?_; intro w hw)) | (apply L_mf; refine lMakeFunc ?_) | refine lY ?_) | (apply L_guarded; first | refine lGT ?_ | refine lGF ?_ | (apply L_go; refine lPG ?_) | refine lG ?_)))
  exact ⟨_, rfl, rfl, rfl⟩⟩
instance (c : Int) : PC Tryz.prog 92 [.int .u8 c] (.bool (digitB c)) := ⟨fun w => by
  refine calls_of_W Tryz.func92 rfl rfl ?_
  repeat (first | (first | refine W_seq ?_ | refine W_block ?_ | refine W_region ?_ | refine W_skip ?_ | refine W_ret ?_ | refine W_exit ?_) | (first | refine L_nil ?_ | (apply L_plain; first | (apply L_go; first | refine lP ?_ | (refine lPg ?_; intro w hw)) | (apply L_mf; refine lMakeFunc ?_) | refine lY ?_) | (apply L_guarded; first | refine lGT ?_ | refine lGF ?_ | (apply L_go; refine lPG ?_) | refine lG ?_)))
  exact ⟨_, rfl, rfl, rfl⟩⟩

/-- The i-th byte. -/
abbrev byteAt (s : ByteArray) (i : Nat) : Int := ((s.data.toList.getD i 0).toNat : Int)
def wordC (b : UInt8) : Bool := letterB b.toNat || digitB b.toNat
def runN (s : ByteArray) : Nat := (s.data.toList.takeWhile wordC).length
def wordS (s : ByteArray) : Bool := decide (0 < s.size) && letterB (byteAt s 0) && s.data.toList.all wordC
def nameS (s : ByteArray) : Bool := wordS s && decide (s.size ≤ 24)

theorem takeWhile_len {p : UInt8 → Bool} : ∀ {l : List UInt8} {k : Nat}, k ≤ l.length → (∀ i, i < k → p (l.getD i 0) = true) → (k < l.length → p (l.getD k 0) = false) → (l.takeWhile p).length = k
  | [], k, h, _, _ => by simp at h; simp [h]
  | x :: l, 0, _, _, h2 => by
    have := h2 (by simp)
    simp at this
    simp [this]
  | x :: l, k + 1, h, h1, h2 => by
    have h0 := h1 0 (by omega)
    simp at h0
    simp only [List.takeWhile_cons, h0, if_true, List.length_cons]
    rw [takeWhile_len (l := l) (k := k) (by simpa using h) (fun i hi => h1 (i + 1) (by omega)) (fun hk => h2 (by simp only [List.length_cons]; omega))]
theorem size_toList (s : ByteArray) : s.data.toList.length = s.size := Array.length_toList

class SB (s : ByteArray) : Prop where h : s.size ≤ 4611686018427387904
theorem toList_get {s : ByteArray} {k : Nat} : ((s.data.toList.getD (Int.toNat (k : Int)) 0).toNat : Int) = byteAt s k := rfl

instance (s : ByteArray) [hs : SB s] : PC Tryz.prog 90 [.string s] (.int .i64 (runN s)) := ⟨fun w => by
  have h63 := hs.h
  refine calls_of_W Tryz.func90 rfl rfl ?_
  repeat (first | (first | refine W_seq ?_ | refine W_block ?_ | refine W_region ?_ | refine W_skip ?_ | refine W_ret ?_ | refine W_exit ?_) | (first | refine L_nil ?_ | (apply L_plain; first | (apply L_go; first | refine lP ?_ | (refine lPg ?_; intro w hw)) | (apply L_mf; refine lMakeFunc ?_) | refine lY ?_) | (apply L_guarded; first | refine lGT ?_ | refine lGF ?_ | (apply L_go; refine lPG ?_) | refine lG ?_)))
  refine W_loop (fun μ ρ w' => ∃ k : Nat, μ + k = s.size ∧ Has ρ [(0, .string s), (3, .int .i64 k)] ∧ w' = w ∧ ∀ i, i < k → wordC (s.data.toList.getD i 0) = true) s.size ⟨0, rfl, ⟨rfl, rfl, trivial⟩, rfl, fun i h => absurd h (Nat.not_lt_zero i)⟩ ?_
  rintro μ ρ w' ⟨k, hk, hρ, rfl, hi⟩
  rw [hρ.eq]
  repeat (first | (first | refine W_seq ?_ | refine W_block ?_ | refine W_region ?_ | refine W_skip ?_ | refine W_ret ?_ | refine W_exit ?_) | (first | refine L_nil ?_ | (apply L_plain; first | (apply L_go; first | refine lP ?_ | (refine lPg ?_; intro w hw)) | (apply L_mf; refine lMakeFunc ?_) | refine lY ?_) | (apply L_guarded; first | refine lGT ?_ | refine lGF ?_ | (apply L_go; refine lPG ?_) | refine lG ?_)))
  refine W_cond rfl (fun h => ?_) (fun h => ?_)
  · have h' := andL h
    simp only [decide_eq_true_eq] at h'
    repeat (first | (first | refine W_seq ?_ | refine W_block ?_ | refine W_region ?_ | refine W_skip ?_ | refine W_ret ?_ | refine W_exit ?_) | (first | refine L_nil ?_ | (apply L_plain; first | (apply L_go; first | refine lP ?_ | (refine lPg ?_; intro w hw)) | (apply L_mf; refine lMakeFunc ?_) | refine lY ?_) | (apply L_guarded; first | refine lGT ?_ | refine lGF ?_ | (apply L_go; refine lPG ?_) | refine lG ?_)))
    refine ⟨μ - 1, by omega, k + 1, by omega, ⟨rfl, rfl, trivial⟩, rfl, fun i hi' => ?_⟩
    by_cases e : i = k
    · subst e; exact andR h
    · exact hi i (by omega)
  · repeat (first | (first | refine W_seq ?_ | refine W_block ?_ | refine W_region ?_ | refine W_skip ?_ | refine W_ret ?_ | refine W_exit ?_) | (first | refine L_nil ?_ | (apply L_plain; first | (apply L_go; first | refine lP ?_ | (refine lPg ?_; intro w hw)) | (apply L_mf; refine lMakeFunc ?_) | refine lY ?_) | (apply L_guarded; first | refine lGT ?_ | refine lGF ?_ | (apply L_go; refine lPG ?_) | refine lG ?_)))
    refine ⟨_, rfl, ret_i rfl ?_, rfl⟩
    have := takeWhile_len (p := wordC) (l := s.data.toList) (k := k) (by rw [size_toList]; omega) hi (fun hk' => by
      rw [size_toList] at hk'
      rw [show decide ((k : Int) < (s.size : Int)) = true from by simp; omega] at h
      exact h)
    show (k : Int) = ((s.data.toList.takeWhile wordC).length : Int)
    rw [this]⟩

theorem takeWhile_all {p : UInt8 → Bool} {l : List UInt8} : ((l.takeWhile p).length = l.length) ↔ l.all p = true := by
  induction l with
  | nil => simp
  | cons x l ih =>
    simp only [List.takeWhile_cons, List.all_cons]
    cases p x with
    | true => simp [ih]
    | false => simp
instance (s : ByteArray) [hs : SB s] : PC Tryz.prog 70 [.string s] (.bool (wordS s)) := ⟨fun w => by
  refine calls_of_W Tryz.func70 rfl rfl ?_
  repeat (first | (first | refine W_seq ?_ | refine W_block ?_ | refine W_region ?_ | refine W_skip ?_ | refine W_ret ?_ | refine W_exit ?_) | (first | refine L_nil ?_ | (apply L_plain; first | (apply L_go; first | refine lP ?_ | (refine lPg ?_; intro w hw)) | (apply L_mf; refine lMakeFunc ?_) | refine lY ?_) | (apply L_guarded; first | refine lGT ?_ | refine lGF ?_ | (apply L_go; refine lPG ?_) | refine lG ?_)))
  refine ⟨_, rfl, ret_b rfl ?_, rfl⟩
  have h1 : decide (s ≠ ⟨#[]⟩) = decide (0 < s.size) := by simp only [ne_nilB]
  have h2 : decide ((runN s : Int) = (s.size : Int)) = s.data.toList.all wordC := by
    rw [Bool.eq_iff_iff, decide_eq_true_eq, ← takeWhile_all, size_toList]
    unfold runN; omega
  rw [h1, h2]; rfl⟩
instance (s : ByteArray) [hs : SB s] : PC Tryz.prog 45 [.string s] (.bool (nameS s)) := ⟨fun w => by
  refine calls_of_W Tryz.func45 rfl rfl ?_
  repeat (first | (first | refine W_seq ?_ | refine W_block ?_ | refine W_region ?_ | refine W_skip ?_ | refine W_ret ?_ | refine W_exit ?_) | (first | refine L_nil ?_ | (apply L_plain; first | (apply L_go; first | refine lP ?_ | (refine lPg ?_; intro w hw)) | (apply L_mf; refine lMakeFunc ?_) | refine lY ?_) | (apply L_guarded; first | refine lGT ?_ | refine lGF ?_ | (apply L_go; refine lPG ?_) | refine lG ?_)))
  refine ⟨_, rfl, ret_b rfl ?_, rfl⟩
  unfold nameS
  congr 1
  rw [decide_eq_decide]; omega⟩

instance (s : ByteArray) [hs : SB s] : PC Tryz.prog 72 [.string s] (.bool (wordS s)) := ⟨fun w => by
  have h63 := hs.h
  refine calls_of_W Tryz.func72 rfl rfl ?_
  repeat (first | (first | refine W_seq ?_ | refine W_block ?_ | refine W_region ?_ | refine W_skip ?_ | refine W_ret ?_ | refine W_exit ?_) | (first | refine L_nil ?_ | (apply L_plain; first | (apply L_go; first | refine lP ?_ | (refine lPg ?_; intro w hw)) | (apply L_mf; refine lMakeFunc ?_) | refine lY ?_) | (apply L_guarded; first | refine lGT ?_ | refine lGF ?_ | (apply L_go; refine lPG ?_) | refine lG ?_)))
  refine W_cond rfl (fun h => ?_) (fun h => ?_)
  · repeat (first | (first | refine W_seq ?_ | refine W_block ?_ | refine W_region ?_ | refine W_skip ?_ | refine W_ret ?_ | refine W_exit ?_) | (first | refine L_nil ?_ | (apply L_plain; first | (apply L_go; first | refine lP ?_ | (refine lPg ?_; intro w hw)) | (apply L_mf; refine lMakeFunc ?_) | refine lY ?_) | (apply L_guarded; first | refine lGT ?_ | refine lGF ?_ | (apply L_go; refine lPG ?_) | refine lG ?_)))
    refine ⟨_, rfl, ret_b rfl ?_, rfl⟩
    unfold wordS
    by_cases h0 : s = ⟨#[]⟩
    · subst h0; rfl
    · rw [show decide (s = ⟨#[]⟩) = false from by simpa using h0] at h
      have h1 : letterB (byteAt s 0) = false := by have h' : (false || !letterB (byteAt s 0)) = true := h; simpa using h'
      rw [h1]; simp
  · simp only [Bool.or_eq_false_iff, Bool.not_eq_false', decide_eq_false_iff_not, eq_nilB] at h
    have h1 : letterB (byteAt s 0) = true := h.2
    repeat (first | (first | refine W_seq ?_ | refine W_block ?_ | refine W_region ?_ | refine W_skip ?_ | refine W_ret ?_ | refine W_exit ?_) | (first | refine L_nil ?_ | (apply L_plain; first | (apply L_go; first | refine lP ?_ | (refine lPg ?_; intro w hw)) | (apply L_mf; refine lMakeFunc ?_) | refine lY ?_) | (apply L_guarded; first | refine lGT ?_ | refine lGF ?_ | (apply L_go; refine lPG ?_) | refine lG ?_)))
    refine W_loop (fun μ ρ w' => ∃ k : Nat, μ + k = s.size ∧ Has ρ [(0, .string s), (3, .int .i64 k)] ∧ w' = w ∧ 0 < k ∧ ∀ i, i < k → wordC (s.data.toList.getD i 0) = true) (s.size - 1) ⟨1, by omega, ⟨rfl, rfl, trivial⟩, rfl, by omega, fun i hi => ?_⟩ ?_
    · have : i = 0 := by omega
      subst this
      show (letterB (byteAt s 0) || _) = true
      rw [h1]; rfl
    rintro μ ρ w' ⟨k, hk, hρ, rfl, hk0, hi⟩
    rw [hρ.eq]
    repeat (first | (first | refine W_seq ?_ | refine W_block ?_ | refine W_region ?_ | refine W_skip ?_ | refine W_ret ?_ | refine W_exit ?_) | (first | refine L_nil ?_ | (apply L_plain; first | (apply L_go; first | refine lP ?_ | (refine lPg ?_; intro w hw)) | (apply L_mf; refine lMakeFunc ?_) | refine lY ?_) | (apply L_guarded; first | refine lGT ?_ | refine lGF ?_ | (apply L_go; refine lPG ?_) | refine lG ?_)))
    refine W_cond rfl (fun h2 => ?_) (fun h2 => ?_)
    · have h' : k < s.size := by simpa using h2
      repeat (first | (first | refine W_seq ?_ | refine W_block ?_ | refine W_region ?_ | refine W_skip ?_ | refine W_ret ?_ | refine W_exit ?_) | (first | refine L_nil ?_ | (apply L_plain; first | (apply L_go; first | refine lP ?_ | (refine lPg ?_; intro w hw)) | (apply L_mf; refine lMakeFunc ?_) | refine lY ?_) | (apply L_guarded; first | refine lGT ?_ | refine lGF ?_ | (apply L_go; refine lPG ?_) | refine lG ?_)))
      refine W_cond rfl (fun h3 => ?_) (fun h3 => ?_)
      · repeat (first | (first | refine W_seq ?_ | refine W_block ?_ | refine W_region ?_ | refine W_skip ?_ | refine W_ret ?_ | refine W_exit ?_) | (first | refine L_nil ?_ | (apply L_plain; first | (apply L_go; first | refine lP ?_ | (refine lPg ?_; intro w hw)) | (apply L_mf; refine lMakeFunc ?_) | refine lY ?_) | (apply L_guarded; first | refine lGT ?_ | refine lGF ?_ | (apply L_go; refine lPG ?_) | refine lG ?_)))
        refine ⟨_, rfl, ret_b rfl ?_, rfl⟩
        have h4 : wordC (s.data.toList.getD k 0) = false := by
          show (letterB (byteAt s k) || digitB (byteAt s k)) = false
          have h5 : (!letterB (byteAt s k) && !digitB (byteAt s k)) = true := h3
          simpa using h5
        have h6 : s.data.toList.all wordC = false := by
          rw [← Bool.not_eq_true, List.all_eq_true]
          intro hall
          have hm := hall (s.data.toList.getD k 0) (by
            rw [List.getD_eq_getElem?_getD, List.getElem?_eq_getElem (by rw [size_toList]; exact h')]
            exact List.getElem_mem _)
          rw [h4] at hm; cases hm
        unfold wordS; rw [h6]; simp
      · repeat (first | (first | refine W_seq ?_ | refine W_block ?_ | refine W_region ?_ | refine W_skip ?_ | refine W_ret ?_ | refine W_exit ?_) | (first | refine L_nil ?_ | (apply L_plain; first | (apply L_go; first | refine lP ?_ | (refine lPg ?_; intro w hw)) | (apply L_mf; refine lMakeFunc ?_) | refine lY ?_) | (apply L_guarded; first | refine lGT ?_ | refine lGF ?_ | (apply L_go; refine lPG ?_) | refine lG ?_)))
        refine ⟨μ - 1, by omega, k + 1, by omega, ⟨rfl, rfl, trivial⟩, rfl, by omega, fun i hi' => ?_⟩
        by_cases e : i = k
        · subst e
          have h5 : (!letterB (byteAt s i) && !digitB (byteAt s i)) = false := h3
          show (letterB (byteAt s i) || digitB (byteAt s i)) = true
          cases hl : letterB (byteAt s i) <;> cases hd : digitB (byteAt s i) <;> simp [hl, hd] at h5 ⊢
        · exact hi i (by omega)
    · repeat (first | (first | refine W_seq ?_ | refine W_block ?_ | refine W_region ?_ | refine W_skip ?_ | refine W_ret ?_ | refine W_exit ?_) | (first | refine L_nil ?_ | (apply L_plain; first | (apply L_go; first | refine lP ?_ | (refine lPg ?_; intro w hw)) | (apply L_mf; refine lMakeFunc ?_) | refine lY ?_) | (apply L_guarded; first | refine lGT ?_ | refine lGF ?_ | (apply L_go; refine lPG ?_) | refine lG ?_)))
      refine ⟨_, rfl, ret_b rfl ?_, rfl⟩
      have h' : ¬ k < s.size := by simpa using h2
      have h6 : s.data.toList.all wordC = true := by
        rw [List.all_eq_true]
        intro x hx
        obtain ⟨i, hil, rfl⟩ := List.getElem_of_mem hx
        have := hi i (by rw [size_toList] at hil; omega)
        rwa [List.getD_eq_getElem?_getD, List.getElem?_eq_getElem hil] at this
      unfold wordS; rw [h6, h1]
      simp; omega⟩
instance (s : ByteArray) [hs : SB s] : PC Tryz.prog 49 [.string s] (.bool (nameS s)) := ⟨fun w => by
  refine calls_of_W Tryz.func49 rfl rfl ?_
  repeat (first | (first | refine W_seq ?_ | refine W_block ?_ | refine W_region ?_ | refine W_skip ?_ | refine W_ret ?_ | refine W_exit ?_) | (first | refine L_nil ?_ | (apply L_plain; first | (apply L_go; first | refine lP ?_ | (refine lPg ?_; intro w hw)) | (apply L_mf; refine lMakeFunc ?_) | refine lY ?_) | (apply L_guarded; first | refine lGT ?_ | refine lGF ?_ | (apply L_go; refine lPG ?_) | refine lG ?_)))
  refine ⟨_, rfl, ret_b rfl ?_, rfl⟩
  unfold nameS
  congr 1
  rw [decide_eq_decide]; omega⟩

class PosL (n : Int) : Prop where h : 0 < n ∧ n ≤ 1099511627776
instance : PosL 3 := ⟨by decide⟩
instance : PosL 4 := ⟨by decide⟩
instance : PosL 5 := ⟨by decide⟩
instance : PosL 6 := ⟨by decide⟩
instance : PosL 8 := ⟨by decide⟩
instance : PosL 32 := ⟨by decide⟩
instance : PosL 100 := ⟨by decide⟩
instance (v n : Int) [hn : PosL n] : PC Tryz.prog 17 [.int .i64 v, .int .i64 n] (.int .i64 (v % n)) := ⟨fun w => by
  have h := hn.h
  have hm := Int.tmod_lt_of_pos v h.1
  have hm2 : -n < v.tmod n := by
    have := Int.tmod_lt_of_pos (-v) h.1
    rw [Int.neg_tmod] at this; omega
  have he : v % n = if v.tmod n < 0 then v.tmod n + n else v.tmod n := by
    have h3 : v % n = v.tmod n % n := by
      have h4 := Int.mul_tdiv_add_tmod v n
      have h5 := Int.mul_add_emod_self_left n (v.tdiv n) (v.tmod n)
      rw [h4] at h5; exact h5
    rw [h3]
    split
    · rw [← Int.add_emod_right]; exact Int.emod_eq_of_lt (by omega) (by omega)
    · exact Int.emod_eq_of_lt (by omega) hm
  refine calls_of_W Tryz.func17 rfl rfl ?_
  repeat (first | (first | refine W_seq ?_ | refine W_block ?_ | refine W_region ?_ | refine W_skip ?_ | refine W_ret ?_ | refine W_exit ?_) | (first | refine L_nil ?_ | (apply L_plain; first | (apply L_go; first | refine lP ?_ | (refine lPg ?_; intro w hw)) | (apply L_mf; refine lMakeFunc ?_) | refine lY ?_) | (apply L_guarded; first | refine lGT ?_ | refine lGF ?_ | (apply L_go; refine lPG ?_) | refine lG ?_)))
  refine W_cond rfl (fun h1 => ?_) (fun h1 => ?_)
  · repeat (first | (first | refine W_seq ?_ | refine W_block ?_ | refine W_region ?_ | refine W_skip ?_ | refine W_ret ?_ | refine W_exit ?_) | (first | refine L_nil ?_ | (apply L_plain; first | (apply L_go; first | refine lP ?_ | (refine lPg ?_; intro w hw)) | (apply L_mf; refine lMakeFunc ?_) | refine lY ?_) | (apply L_guarded; first | refine lGT ?_ | refine lGF ?_ | (apply L_go; refine lPG ?_) | refine lG ?_)))
    refine ⟨_, rfl, ret_i rfl ?_, rfl⟩
    rw [he, if_pos (by simpa using h1)]
  · repeat (first | (first | refine W_seq ?_ | refine W_block ?_ | refine W_region ?_ | refine W_skip ?_ | refine W_ret ?_ | refine W_exit ?_) | (first | refine L_nil ?_ | (apply L_plain; first | (apply L_go; first | refine lP ?_ | (refine lPg ?_; intro w hw)) | (apply L_mf; refine lMakeFunc ?_) | refine lY ?_) | (apply L_guarded; first | refine lGT ?_ | refine lGF ?_ | (apply L_go; refine lPG ?_) | refine lG ?_)))
    refine ⟨_, rfl, ret_i rfl ?_, rfl⟩
    rw [he, if_neg (by simpa using h1)]⟩

def coreS (n : Int) : Bool := decide (0 ≤ n) && decide (n < 32)
instance (n : Int) : PC Tryz.prog 46 [.int .i64 n] (.bool (coreS n)) := ⟨fun w => by
  refine calls_of_W Tryz.func46 rfl rfl ?_
  repeat (first | (first | refine W_seq ?_ | refine W_block ?_ | refine W_region ?_ | refine W_skip ?_ | refine W_ret ?_ | refine W_exit ?_) | (first | refine L_nil ?_ | (apply L_plain; first | (apply L_go; first | refine lP ?_ | (refine lPg ?_; intro w hw)) | (apply L_mf; refine lMakeFunc ?_) | refine lY ?_) | (apply L_guarded; first | refine lGT ?_ | refine lGF ?_ | (apply L_go; refine lPG ?_) | refine lG ?_)))
  exact ⟨_, rfl, rfl, rfl⟩⟩
instance (n : Int) : PC Tryz.prog 50 [.int .i64 n] (.bool (coreS n)) := ⟨fun w => by
  refine calls_of_W Tryz.func50 rfl rfl ?_
  repeat (first | (first | refine W_seq ?_ | refine W_block ?_ | refine W_region ?_ | refine W_skip ?_ | refine W_ret ?_ | refine W_exit ?_) | (first | refine L_nil ?_ | (apply L_plain; first | (apply L_go; first | refine lP ?_ | (refine lPg ?_; intro w hw)) | (apply L_mf; refine lMakeFunc ?_) | refine lY ?_) | (apply L_guarded; first | refine lGT ?_ | refine lGF ?_ | (apply L_go; refine lPG ?_) | refine lG ?_)))
  exact ⟨_, rfl, rfl, rfl⟩⟩
end Go.Proofs.YtekdbdhkpolooaaGreat
end
/- The data of the name server, and the search for a waiter. -/
section
open Go Mk
namespace Go.Proofs.YtekdbdhkpolooaaGreat
attribute [local irreducible] Calls

structure Waiter where
  Token : Int
  Core : Int
  Name : ByteArray
  deriving DecidableEq, Inhabited
instance : GoT Waiter where
  enc a := [.int .i64 a.Token, .int .i64 a.Core, .string a.Name]
  inj a b h := by cases a; cases b; simp at h; simp [h]
  ks := [5, 5, 1]
  kinds a := rfl
structure Service where
  Name : ByteArray
  Core : Int
  Object : Int
  Kind : Int
  deriving DecidableEq
instance : Inhabited Service := ⟨⟨⟨#[]⟩, 0, 0, 0⟩⟩
instance : GoT Service where
  enc a := [.string a.Name, .int .i64 a.Core, .int .i64 a.Object, .int .i64 a.Kind]
  inj a b h := by cases a; cases b; simp at h; simp [h]
  ks := [1, 5, 5, 5]
  kinds a := rfl
structure Found where
  Token : Int
  Core : Int
  Service : Service
  deriving DecidableEq, Inhabited
instance : GoT Found where
  enc a := [.int .i64 a.Token, .int .i64 a.Core, .string a.Service.Name, .int .i64 a.Service.Core, .int .i64 a.Service.Object, .int .i64 a.Service.Kind]
  inj a b h := by cases a with | mk a1 a2 a3 => cases b with | mk b1 b2 b3 => cases a3; cases b3; simp at h; simp [h]
  ks := [5, 5, 1, 5, 5, 5]
  kinds a := rfl
def svcV (s : Service) : Value := .agg (enc s).toArray

/-- What slices.IndexFunc answers. -/
def ixZ (o : Option Nat) : Int := match o with | some i => i | none => -1

theorem findIdx_at {α : Type} {p : α → Bool} {l : List α} {k : Nat} {x : α} (h : l[k]? = some x) (hp : p x = true) (hi : ∀ i y, i < k → l[i]? = some y → p y = false) : l.findIdx? p = some k := by
  obtain ⟨hk, rfl⟩ := List.getElem?_eq_some_iff.1 h
  rw [List.findIdx?_eq_some_iff_getElem]
  exact ⟨hk, hp, fun j hj => by have := hi j _ hj (List.getElem?_eq_getElem (by omega)); simp [this]⟩

/-- SS k: what is owned when the predicate has been asked k times; it may note what it is asked. -/
theorem IndexFunc_st (SS : Nat → List Res) (Γ : Gho) (w : World) (va : Value) (xs : List Waiter) (f : Nat) (fst cap : List Value) (p : Waiter → Bool) [FnOk Tryz.prog f] (hw : Wd Γ (SS 0) w) (ha : ∀ k, RdS Γ (SS k) va 3 (xs.map enc))
    (hp : ∀ k x w, xs[k]? = some x → Wd Γ (SS k) w → Calls Tryz.prog f (fst ++ [Value.agg (enc x).toArray] ++ cap).toArray w fun e w' => e = .returned (.bool (p x)) ∧ Wd Γ (SS (k + 1)) w') :
    Calls Tryz.prog 71 #[va, .func (.func f) fst.toArray cap.toArray] w fun e w' => e = .returned (.int .i64 (ixZ (xs.findIdx? p))) ∧ Wd Γ (SS (match xs.findIdx? p with | some k => k + 1 | none => xs.length)) w' := by
  obtain ⟨a, n, c, rfl, hn, hnc, hc⟩ := (ha 0).shape
  simp only [List.length_map] at hn
  refine calls_of_W Tryz.func71 rfl rfl ?_
  repeat (first | (first | refine W_seq ?_ | refine W_block ?_ | refine W_region ?_ | refine W_skip ?_ | refine W_ret ?_ | refine W_exit ?_) | (first | refine L_nil ?_ | (apply L_plain; first | (apply L_go; first | refine lP ?_ | (refine lPg ?_; intro w hw)) | (apply L_mf; refine lMakeFunc ?_) | refine lY ?_) | (apply L_guarded; first | refine lGT ?_ | refine lGF ?_ | (apply L_go; refine lPG ?_) | refine lG ?_)))
  refine W_loop (fun μ ρ w => ∃ k : Nat, μ + k = n ∧ Has ρ [(0, .slice a n c), (1, .func (.func f) fst.toArray cap.toArray), (7, .int .i64 n), (8, .int .i64 k)] ∧ Wd Γ (SS k) w ∧ ∀ i x, i < k → xs[i]? = some x → p x = false) n ⟨0, by omega, ⟨rfl, rfl, rfl, rfl, trivial⟩, hw, fun i x h => absurd h (Nat.not_lt_zero i)⟩ ?_
  rintro μ ρ w ⟨k, hk, hρ, hw, hi⟩
  rw [hρ.eq]
  have hr := ha k
  repeat (first | (first | refine W_seq ?_ | refine W_block ?_ | refine W_region ?_ | refine W_skip ?_ | refine W_ret ?_ | refine W_exit ?_) | (first | refine L_nil ?_ | (apply L_plain; first | (apply L_go; first | refine lP ?_ | (refine lPg ?_; intro w hw)) | (apply L_mf; refine lMakeFunc ?_) | refine lY ?_) | (apply L_guarded; first | refine lGT ?_ | refine lGF ?_ | (apply L_go; refine lPG ?_) | refine lG ?_)))
  refine W_cond rfl (fun h => ?_) (fun h => ?_)
  · have hkn : k < n := by simpa using h
    obtain ⟨x, hx⟩ := get_lt (l := xs) (k := k) (by omega)
    repeat (first | (first | refine W_seq ?_ | refine W_block ?_ | refine W_region ?_ | refine W_skip ?_ | refine W_ret ?_ | refine W_exit ?_) | (first | refine L_nil ?_ | (apply L_plain; first | (apply L_go; first | refine lP ?_ | (refine lPg ?_; intro w hw)) | (apply L_mf; refine lMakeFunc ?_) | refine lY ?_) | (apply L_guarded; first | refine lGT ?_ | refine lGF ?_ | (apply L_go; refine lPG ?_) | refine lG ?_)))
    refine lCallv ?_
    refine (hp k x _ hx hw).mono ?_
    rintro e w ⟨rfl, hw⟩
    refine ⟨_, rfl, ?_⟩
    repeat (first | (first | refine W_seq ?_ | refine W_block ?_ | refine W_region ?_ | refine W_skip ?_ | refine W_ret ?_ | refine W_exit ?_) | (first | refine L_nil ?_ | (apply L_plain; first | (apply L_go; first | refine lP ?_ | (refine lPg ?_; intro w hw)) | (apply L_mf; refine lMakeFunc ?_) | refine lY ?_) | (apply L_guarded; first | refine lGT ?_ | refine lGF ?_ | (apply L_go; refine lPG ?_) | refine lG ?_)))
    refine W_cond rfl (fun h2 => ?_) (fun h2 => ?_)
    · repeat (first | (first | refine W_seq ?_ | refine W_block ?_ | refine W_region ?_ | refine W_skip ?_ | refine W_ret ?_ | refine W_exit ?_) | (first | refine L_nil ?_ | (apply L_plain; first | (apply L_go; first | refine lP ?_ | (refine lPg ?_; intro w hw)) | (apply L_mf; refine lMakeFunc ?_) | refine lY ?_) | (apply L_guarded; first | refine lGT ?_ | refine lGF ?_ | (apply L_go; refine lPG ?_) | refine lG ?_)))
      have hf := findIdx_at hx h2 hi
      rw [hf]
      exact ⟨_, rfl, ret_i rfl rfl, hw⟩
    · repeat (first | (first | refine W_seq ?_ | refine W_block ?_ | refine W_region ?_ | refine W_skip ?_ | refine W_ret ?_ | refine W_exit ?_) | (first | refine L_nil ?_ | (apply L_plain; first | (apply L_go; first | refine lP ?_ | (refine lPg ?_; intro w hw)) | (apply L_mf; refine lMakeFunc ?_) | refine lY ?_) | (apply L_guarded; first | refine lGT ?_ | refine lGF ?_ | (apply L_go; refine lPG ?_) | refine lG ?_)))
      refine ⟨μ - 1, by omega, k + 1, by omega, ⟨rfl, rfl, rfl, rfl, trivial⟩, hw, fun i y hi' hy => ?_⟩
      by_cases e : i = k
      · subst e; rw [hx] at hy; cases hy; exact h2
      · exact hi i y (by omega) hy
  · repeat (first | (first | refine W_seq ?_ | refine W_block ?_ | refine W_region ?_ | refine W_skip ?_ | refine W_ret ?_ | refine W_exit ?_) | (first | refine L_nil ?_ | (apply L_plain; first | (apply L_go; first | refine lP ?_ | (refine lPg ?_; intro w hw)) | (apply L_mf; refine lMakeFunc ?_) | refine lY ?_) | (apply L_guarded; first | refine lGT ?_ | refine lGF ?_ | (apply L_go; refine lPG ?_) | refine lG ?_)))
    have hkn : ¬ k < n := by simpa using h
    have hf : xs.findIdx? p = none := List.findIdx?_eq_none_iff.2 (fun x hx => by
      obtain ⟨i, hil, rfl⟩ := List.getElem_of_mem hx
      exact hi i _ (by omega) (List.getElem?_eq_getElem hil))
    rw [hf]
    refine ⟨_, rfl, ret_i rfl rfl, ?_⟩
    have : k = xs.length := by omega
    rw [this] at hw; exact hw
theorem IndexFunc_any (Γ : Gho) (S : List Res) (w : World) (va : Value) (xs : List Waiter) (f : Nat) (fst cap : List Value) (p : Waiter → Bool) [FnOk Tryz.prog f] (hw : Wd Γ S w) (ha : RdS Γ S va 3 (xs.map enc))
    (hp : ∀ x w, Wd Γ S w → Calls Tryz.prog f (fst ++ [Value.agg (enc x).toArray] ++ cap).toArray w fun e w' => e = .returned (.bool (p x)) ∧ Wd Γ S w') :
    Calls Tryz.prog 71 #[va, .func (.func f) fst.toArray cap.toArray] w fun e w' => e = .returned (.int .i64 (ixZ (xs.findIdx? p))) ∧ Wd Γ S w' :=
  IndexFunc_st (fun _ => S) Γ w va xs f fst cap p hw (fun _ => ha) (fun _ x w _ hw => hp x w hw)

def isW (token core : Int) (x : Waiter) : Bool := decide (x.Token = token) && decide (x.Core = core)
theorem waiter1_any (Γ : Gho) (S : List Res) (w : World) (bt bc : Nat) (token core : Int) (x : Waiter) (hw : Wd Γ (.blk bc (.cells #[.int .i64 core] 3) :: .blk bt (.cells #[.int .i64 token] 3) :: S) w) :
    Calls Tryz.prog 73 #[.agg (enc x).toArray, .pointer (some ⟨bt, 0, none⟩), .pointer (some ⟨bc, 0, none⟩)] w fun e w' => e = .returned (.bool (isW token core x)) ∧ Wd Γ (.blk bc (.cells #[.int .i64 core] 3) :: .blk bt (.cells #[.int .i64 token] 3) :: S) w' := by
  refine calls_of_W Tryz.func73 rfl rfl ?_
  repeat (first | (first | refine W_seq ?_ | refine W_block ?_ | refine W_region ?_ | refine W_skip ?_ | refine W_ret ?_ | refine W_exit ?_) | (first | refine L_nil ?_ | (apply L_plain; first | (apply L_go; first | refine lP ?_ | (refine lPg ?_; intro w hw)) | (apply L_mf; refine lMakeFunc ?_) | refine lY ?_) | (apply L_guarded; first | refine lGT ?_ | refine lGF ?_ | (apply L_go; refine lPG ?_) | refine lG ?_)))
  refine lBox ?_
  intro b w hw
  repeat (first | (first | refine W_seq ?_ | refine W_block ?_ | refine W_region ?_ | refine W_skip ?_ | refine W_ret ?_ | refine W_exit ?_) | (first | refine L_nil ?_ | (apply L_plain; first | (apply L_go; first | refine lP ?_ | (refine lPg ?_; intro w hw)) | (apply L_mf; refine lMakeFunc ?_) | refine lY ?_) | (apply L_guarded; first | refine lGT ?_ | refine lGF ?_ | (apply L_go; refine lPG ?_) | refine lG ?_)))
  exact ⟨_, rfl, rfl, hw.drop⟩

/-- A name server in memory: the pointer b, its map and its slice. -/
def srvL (b bm : Nat) (vs : Value) (m : List (ByteArray × Service)) (ws : List Waiter) : List Res := [.blk b (.cells #[.map (some bm), vs] 48), Res.ms svcV bm m, .own vs 34 3 (ws.map enc)]

theorem waiter_any (Γ : Gho) (S : List Res) (w : World) (b bm : Nat) (vs : Value) (m : List (ByteArray × Service)) (ws : List Waiter) (token core : Int) (hw : Wd Γ (srvL b bm vs m ws ++ S) w) :
    Calls Tryz.prog 52 #[.pointer (some ⟨b, 0, none⟩), .int .i64 token, .int .i64 core] w fun e w' => e = .returned (.int .i64 (ixZ (ws.findIdx? (isW token core)))) ∧ Wd Γ (srvL b bm vs m ws ++ S) w' := by
  unfold srvL at *
  refine calls_of_W Tryz.func52 rfl rfl ?_
  repeat (first | (first | refine W_seq ?_ | refine W_block ?_ | refine W_region ?_ | refine W_skip ?_ | refine W_ret ?_ | refine W_exit ?_) | (first | refine L_nil ?_ | (apply L_plain; first | (apply L_go; first | refine lP ?_ | (refine lPg ?_; intro w hw)) | (apply L_mf; refine lMakeFunc ?_) | refine lY ?_) | (apply L_guarded; first | refine lGT ?_ | refine lGF ?_ | (apply L_go; refine lPG ?_) | refine lG ?_)))
  refine lBox ?_
  intro bt w hw
  refine lBox ?_
  intro bc w hw
  repeat (first | (first | refine W_seq ?_ | refine W_block ?_ | refine W_region ?_ | refine W_skip ?_ | refine W_ret ?_ | refine W_exit ?_) | (first | refine L_nil ?_ | (apply L_plain; first | (apply L_go; first | refine lP ?_ | (refine lPg ?_; intro w hw)) | (apply L_mf; refine lMakeFunc ?_) | refine lY ?_) | (apply L_guarded; first | refine lGT ?_ | refine lGF ?_ | (apply L_go; refine lPG ?_) | refine lG ?_)))
  refine lCall ?_
  refine (IndexFunc_any Γ _ w _ ws 73 [] [.pointer (some ⟨bt, 0, none⟩), .pointer (some ⟨bc, 0, none⟩)] (isW token core) hw (RdS.own (i := 4) hw rfl) (fun x w hw => waiter1_any Γ _ w bt bc token core x hw)).mono ?_
  rintro e w ⟨rfl, hw⟩
  refine ⟨_, rfl, ?_⟩
  repeat (first | (first | refine W_seq ?_ | refine W_block ?_ | refine W_region ?_ | refine W_skip ?_ | refine W_ret ?_ | refine W_exit ?_) | (first | refine L_nil ?_ | (apply L_plain; first | (apply L_go; first | refine lP ?_ | (refine lPg ?_; intro w hw)) | (apply L_mf; refine lMakeFunc ?_) | refine lY ?_) | (apply L_guarded; first | refine lGT ?_ | refine lGF ?_ | (apply L_go; refine lPG ?_) | refine lG ?_)))
  exact ⟨_, rfl, rfl, hw.drop.drop⟩
end Go.Proofs.YtekdbdhkpolooaaGreat
end
/- Deleting the elements of a slice that a predicate names. -/
section
open Go Mk
namespace Go.Proofs.YtekdbdhkpolooaaGreat
attribute [local irreducible] Calls
set_option maxHeartbeats 4000000

theorem DeleteFunc_any (T : Nat → List Res) (Γ : Gho) (w : World) (va : Value) (xs : List Waiter) (f : Nat) (fst cap : List Value) (p : Waiter → Bool) [FnOk Tryz.prog f] (hw : Wd Γ (.own va 34 3 (xs.map enc) :: T 0) w)
    (hp : ∀ (R : List Res) k x w, xs[k]? = some x → Wd Γ (R ++ T k) w → Calls Tryz.prog f (fst ++ [Value.agg (enc x).toArray] ++ cap).toArray w fun e w' => e = .returned (.bool (p x)) ∧ Wd Γ (R ++ T (k + 1)) w') :
    Calls Tryz.prog 47 #[va, .func (.func f) fst.toArray cap.toArray] w fun e w' => ∃ v', e = .returned v' ∧ Wd Γ (.own v' 34 3 ((xs.filter fun x => !p x).map enc) :: T xs.length) w' := by
  obtain ⟨a, n, c, rfl, hn, hnc, hc⟩ := hw.own_shape (i := 0) rfl
  simp only [List.length_map] at hn
  refine calls_of_W Tryz.func47 rfl rfl ?_
  repeat (first | (first | refine W_seq ?_ | refine W_block ?_ | refine W_region ?_ | refine W_skip ?_ | refine W_ret ?_ | refine W_exit ?_) | (first | refine L_nil ?_ | (apply L_plain; first | (apply L_go; first | refine lP ?_ | (refine lPg ?_; intro w hw)) | (apply L_mf; refine lMakeFunc ?_) | refine lY ?_) | (apply L_guarded; first | refine lGT ?_ | refine lGF ?_ | (apply L_go; refine lPG ?_) | refine lG ?_)))
  refine lCall ?_
  refine (IndexFunc_st (fun k => .own (.slice a n c) 34 3 (xs.map enc) :: T k) Γ w _ xs f fst cap p hw (fun k => ?_) (fun k x w hx hw => hp [_] k x w hx hw)).mono ?_
  · exact RdS.ownI (i := 0) rfl (by rw [List.length_map]; exact hn) hnc hc
  rintro e w ⟨rfl, hw⟩
  refine ⟨_, rfl, ?_⟩
  revert hw
  generalize hf : xs.findIdx? p = o
  intro hw
  cases o with
  | none =>
    repeat (first | (first | refine W_seq ?_ | refine W_block ?_ | refine W_region ?_ | refine W_skip ?_ | refine W_ret ?_ | refine W_exit ?_) | (first | refine L_nil ?_ | (apply L_plain; first | (apply L_go; first | refine lP ?_ | (refine lPg ?_; intro w hw)) | (apply L_mf; refine lMakeFunc ?_) | refine lY ?_) | (apply L_guarded; first | refine lGT ?_ | refine lGF ?_ | (apply L_go; refine lPG ?_) | refine lG ?_)))
    refine W_cond_true rfl ?_
    repeat (first | (first | refine W_seq ?_ | refine W_block ?_ | refine W_region ?_ | refine W_skip ?_ | refine W_ret ?_ | refine W_exit ?_) | (first | refine L_nil ?_ | (apply L_plain; first | (apply L_go; first | refine lP ?_ | (refine lPg ?_; intro w hw)) | (apply L_mf; refine lMakeFunc ?_) | refine lY ?_) | (apply L_guarded; first | refine lGT ?_ | refine lGF ?_ | (apply L_go; refine lPG ?_) | refine lG ?_)))
    have : (xs.filter fun x => !p x) = xs := List.filter_eq_self.2 fun x hx => by
      have := (List.findIdx?_eq_none_iff.1 hf) x hx
      simp [this]
    exact ⟨_, rfl, _, rfl, by rw [this]; exact hw⟩
  | some i0 =>
    obtain ⟨hi0, hpi, hbef⟩ := List.findIdx?_eq_some_iff_getElem.1 hf
    simp only at hw
    have hz : ixZ (some i0) = (i0 : Int) := rfl
    have ht0 : xs.take i0 = (xs.take (i0 + 1)).filter fun x => !p x := by
      rw [List.take_add_one, List.getElem?_eq_getElem hi0, List.filter_append]
      have h1 : ((xs.take i0).filter fun x => !p x) = xs.take i0 := List.filter_eq_self.2 fun x hx => by
        obtain ⟨k, hk, rfl⟩ := List.getElem_of_mem hx
        simp only [List.length_take] at hk
        have := hbef k (by omega)
        simp only [List.getElem_take]
        simpa using this
      rw [h1]
      simp [hpi]
    repeat (first | (first | refine W_seq ?_ | refine W_block ?_ | refine W_region ?_ | refine W_skip ?_ | refine W_ret ?_ | refine W_exit ?_) | (first | refine L_nil ?_ | (apply L_plain; first | (apply L_go; first | refine lP ?_ | (refine lPg ?_; intro w hw)) | (apply L_mf; refine lMakeFunc ?_) | refine lY ?_) | (apply L_guarded; first | refine lGT ?_ | refine lGF ?_ | (apply L_go; refine lPG ?_) | refine lG ?_)))
    refine W_cond rfl (fun h => ?_) (fun h => ?_)
    · simp [ixZ] at h
    repeat (first | (first | refine W_seq ?_ | refine W_block ?_ | refine W_region ?_ | refine W_skip ?_ | refine W_ret ?_ | refine W_exit ?_) | (first | refine L_nil ?_ | (apply L_plain; first | (apply L_go; first | refine lP ?_ | (refine lPg ?_; intro w hw)) | (apply L_mf; refine lMakeFunc ?_) | refine lY ?_) | (apply L_guarded; first | refine lGT ?_ | refine lGF ?_ | (apply L_go; refine lPG ?_) | refine lG ?_)))
    refine W_loop (fun μ ρ w => ∃ (i j : Nat) (cur : List Waiter), μ + j = n ∧ i < j ∧ cur.length = n ∧ cur.take i = ((xs.take j).filter fun x => !p x) ∧ (∀ k, j ≤ k → cur[k]? = xs[k]?) ∧ Has ρ [(0, .slice a n c), (1, .func (.func f) fst.toArray cap.toArray), (5, .int .i64 i), (6, .int .i64 j)] ∧ Wd Γ (.own (.slice a n c) 34 3 (cur.map enc) :: T j) w) (n - (i0 + 1)) ⟨i0, i0 + 1, xs, by omega, by omega, hn.symm, ht0, fun _ _ => rfl, ⟨rfl, rfl, rfl, rfl, trivial⟩, hw⟩ ?_
    rintro μ ρ w ⟨i, j, cur, hμ, hij, hcl, hcur, hrest, hρ, hw⟩
    rw [hρ.eq]
    have hcn : n = cur.length := hcl.symm
    repeat (first | (first | refine W_seq ?_ | refine W_block ?_ | refine W_region ?_ | refine W_skip ?_ | refine W_ret ?_ | refine W_exit ?_) | (first | refine L_nil ?_ | (apply L_plain; first | (apply L_go; first | refine lP ?_ | (refine lPg ?_; intro w hw)) | (apply L_mf; refine lMakeFunc ?_) | refine lY ?_) | (apply L_guarded; first | refine lGT ?_ | refine lGF ?_ | (apply L_go; refine lPG ?_) | refine lG ?_)))
    refine W_cond rfl (fun h => ?_) (fun h => ?_)
    · have hjn : j < n := by simpa using h
      obtain ⟨x, hx⟩ := get_lt (l := cur) (k := j) (by omega)
      have hxx : xs[j]? = some x := by rw [← hrest j (Nat.le_refl _)]; exact hx
      have htk : xs.take (j + 1) = xs.take j ++ [x] := by rw [List.take_add_one, hxx]; rfl
      repeat (first | (first | refine W_seq ?_ | refine W_block ?_ | refine W_region ?_ | refine W_skip ?_ | refine W_ret ?_ | refine W_exit ?_) | (first | refine L_nil ?_ | (apply L_plain; first | (apply L_go; first | refine lP ?_ | (refine lPg ?_; intro w hw)) | (apply L_mf; refine lMakeFunc ?_) | refine lY ?_) | (apply L_guarded; first | refine lGT ?_ | refine lGF ?_ | (apply L_go; refine lPG ?_) | refine lG ?_)))
      refine lAlloc ?_
      intro b w hw
      refine lStore ?_
      intro w hw
      repeat (first | (first | refine W_seq ?_ | refine W_block ?_ | refine W_region ?_ | refine W_skip ?_ | refine W_ret ?_ | refine W_exit ?_) | (first | refine L_nil ?_ | (apply L_plain; first | (apply L_go; first | refine lP ?_ | (refine lPg ?_; intro w hw)) | (apply L_mf; refine lMakeFunc ?_) | refine lY ?_) | (apply L_guarded; first | refine lGT ?_ | refine lGF ?_ | (apply L_go; refine lPG ?_) | refine lG ?_)))
      refine lCallv ?_
      refine (hp [_, _] j x w hxx hw).mono ?_
      rintro e w ⟨rfl, hw⟩
      have hw : Wd Γ (.blk b (.cells (enc x).toArray 34) :: .own (.slice a n c) 34 3 (cur.map enc) :: T (j + 1)) w := hw
      refine ⟨_, rfl, ?_⟩
      repeat (first | (first | refine W_seq ?_ | refine W_block ?_ | refine W_region ?_ | refine W_skip ?_ | refine W_ret ?_ | refine W_exit ?_) | (first | refine L_nil ?_ | (apply L_plain; first | (apply L_go; first | refine lP ?_ | (refine lPg ?_; intro w hw)) | (apply L_mf; refine lMakeFunc ?_) | refine lY ?_) | (apply L_guarded; first | refine lGT ?_ | refine lGF ?_ | (apply L_go; refine lPG ?_) | refine lG ?_)))
      refine W_cond rfl (fun h2 => ?_) (fun h2 => ?_)
      · have hpx : p x = false := by simpa using h2
        repeat (first | (first | refine W_seq ?_ | refine W_block ?_ | refine W_region ?_ | refine W_skip ?_ | refine W_ret ?_ | refine W_exit ?_) | (first | refine L_nil ?_ | (apply L_plain; first | (apply L_go; first | refine lP ?_ | (refine lPg ?_; intro w hw)) | (apply L_mf; refine lMakeFunc ?_) | refine lY ?_) | (apply L_guarded; first | refine lGT ?_ | refine lGF ?_ | (apply L_go; refine lPG ?_) | refine lG ?_)))
        refine lStoreE ?_
        intro w hw
        repeat (first | (first | refine W_seq ?_ | refine W_block ?_ | refine W_region ?_ | refine W_skip ?_ | refine W_ret ?_ | refine W_exit ?_) | (first | refine L_nil ?_ | (apply L_plain; first | (apply L_go; first | refine lP ?_ | (refine lPg ?_; intro w hw)) | (apply L_mf; refine lMakeFunc ?_) | refine lY ?_) | (apply L_guarded; first | refine lGT ?_ | refine lGF ?_ | (apply L_go; refine lPG ?_) | refine lG ?_)))
        refine ⟨μ - 1, by omega, i + 1, j + 1, cur.set i x, by omega, by omega, by simpa using hcl, ?_, fun k hk => ?_, ⟨rfl, rfl, rfl, rfl, trivial⟩, ?_⟩
        · have hij2 : i < cur.length := by omega
          rw [List.take_add_one, List.getElem?_set_self hij2, htk, List.filter_append, ← hcur, List.take_set_of_le (Nat.le_refl _)]
          simp [hpx]
        · rw [List.getElem?_set_ne (by omega)]
          exact hrest k (by omega)
        · rw [List.map_set]
          exact hw.drop
      · have hpx : p x = true := by simpa using h2
        repeat (first | (first | refine W_seq ?_ | refine W_block ?_ | refine W_region ?_ | refine W_skip ?_ | refine W_ret ?_ | refine W_exit ?_) | (first | refine L_nil ?_ | (apply L_plain; first | (apply L_go; first | refine lP ?_ | (refine lPg ?_; intro w hw)) | (apply L_mf; refine lMakeFunc ?_) | refine lY ?_) | (apply L_guarded; first | refine lGT ?_ | refine lGF ?_ | (apply L_go; refine lPG ?_) | refine lG ?_)))
        refine ⟨μ - 1, by omega, i, j + 1, cur, by omega, by omega, hcl, ?_, fun k hk => hrest k (by omega), ⟨rfl, rfl, rfl, rfl, trivial⟩, hw.drop⟩
        rw [hcur, htk, List.filter_append]
        simp [hpx]
    · have hjn : ¬ j < n := by simpa using h
      repeat (first | (first | refine W_seq ?_ | refine W_block ?_ | refine W_region ?_ | refine W_skip ?_ | refine W_ret ?_ | refine W_exit ?_) | (first | refine L_nil ?_ | (apply L_plain; first | (apply L_go; first | refine lP ?_ | (refine lPg ?_; intro w hw)) | (apply L_mf; refine lMakeFunc ?_) | refine lY ?_) | (apply L_guarded; first | refine lGT ?_ | refine lGF ?_ | (apply L_go; refine lPG ?_) | refine lG ?_)))
      have hw := Wd.own_take (i := 0) hw rfl (show i ≤ n by omega)
      refine lClear ?_
      intro w hw
      repeat (first | (first | refine W_seq ?_ | refine W_block ?_ | refine W_region ?_ | refine W_skip ?_ | refine W_ret ?_ | refine W_exit ?_) | (first | refine L_nil ?_ | (apply L_plain; first | (apply L_go; first | refine lP ?_ | (refine lPg ?_; intro w hw)) | (apply L_mf; refine lMakeFunc ?_) | refine lY ?_) | (apply L_guarded; first | refine lGT ?_ | refine lGF ?_ | (apply L_go; refine lPG ?_) | refine lG ?_)))
      refine ⟨_, rfl, _, rfl, ?_⟩
      have hj : j = xs.length := by omega
      rw [hj] at hw
      rw [hj, List.take_length] at hcur
      rw [← hcur, List.map_take]
      exact hw
end Go.Proofs.YtekdbdhkpolooaaGreat
end
/- A service is registered. -/
section
open Go Mk
namespace Go.Proofs.YtekdbdhkpolooaaGreat
set_option maxHeartbeats 4000000
attribute [local irreducible] Calls

/-- The variable 'found' of Register. -/
def Rf (bf : Nat) (l : List Found) : Res := Res.ex fun fv : Value => [.blk bf (.cells #[fv] 52), .own fv 83 6 (l.map enc)]
def mkF (v : Service) (x : Waiter) : Found := ⟨x.Token, x.Core, v⟩
def foundOf (v : Service) (ws : List Waiter) : List Found := (ws.filter fun x => decide (x.Name = v.Name)).map (mkF v)

theorem Register1_any (Γ : Gho) (S : List Res) (w : World) (bf bv : Nat) (v : Service) (l : List Found) (x : Waiter) (hl : l.length ≤ 1000) (hw : Wd Γ (Rf bf l :: .blk bv (.cells (enc v).toArray 32) :: S) w) :
    Calls Tryz.prog 48 #[.agg (enc x).toArray, .pointer (some ⟨bv, 0, none⟩), .pointer (some ⟨bf, 0, none⟩)] w fun e w' => e = .returned (.bool (decide (x.Name = v.Name))) ∧ Wd Γ (Rf bf (l ++ if x.Name = v.Name then [mkF v x] else []) :: .blk bv (.cells (enc v).toArray 32) :: S) w' := by
  obtain ⟨fv, hw⟩ := hw.openEx
  obtain ⟨a, n, c, rfl, hn, hnc, hc⟩ := hw.own_shape (i := 1) rfl
  simp only [List.length_map] at hn
  refine calls_of_W Tryz.func48 rfl rfl ?_
  repeat (first | (first | refine W_seq ?_ | refine W_block ?_ | refine W_region ?_ | refine W_skip ?_ | refine W_ret ?_ | refine W_exit ?_) | (first | refine L_nil ?_ | (apply L_plain; first | (apply L_go; first | refine lP ?_ | (refine lPg ?_; intro w hw)) | (apply L_mf; refine lMakeFunc ?_) | refine lY ?_) | (apply L_guarded; first | refine lGT ?_ | refine lGF ?_ | (apply L_go; refine lPG ?_) | refine lG ?_)))
  refine lBox ?_
  intro b w hw
  repeat (first | (first | refine W_seq ?_ | refine W_block ?_ | refine W_region ?_ | refine W_skip ?_ | refine W_ret ?_ | refine W_exit ?_) | (first | refine L_nil ?_ | (apply L_plain; first | (apply L_go; first | refine lP ?_ | (refine lPg ?_; intro w hw)) | (apply L_mf; refine lMakeFunc ?_) | refine lY ?_) | (apply L_guarded; first | refine lGT ?_ | refine lGF ?_ | (apply L_go; refine lPG ?_) | refine lG ?_)))
  refine W_cond rfl (fun h => ?_) (fun h => ?_)
  · have hne : ¬ x.Name = v.Name := by simpa using h
    repeat (first | (first | refine W_seq ?_ | refine W_block ?_ | refine W_region ?_ | refine W_skip ?_ | refine W_ret ?_ | refine W_exit ?_) | (first | refine L_nil ?_ | (apply L_plain; first | (apply L_go; first | refine lP ?_ | (refine lPg ?_; intro w hw)) | (apply L_mf; refine lMakeFunc ?_) | refine lY ?_) | (apply L_guarded; first | refine lGT ?_ | refine lGF ?_ | (apply L_go; refine lPG ?_) | refine lG ?_)))
    refine ⟨_, rfl, ret_b rfl (by simp [hne]), ?_⟩
    rw [if_neg hne, List.append_nil]
    exact Wd.closeEx (X := fun fv : Value => [.blk bf (.cells #[fv] 52), .own fv 83 6 (l.map enc)]) _ hw.drop
  · have he : x.Name = v.Name := by simpa using h
    repeat (first | (first | refine W_seq ?_ | refine W_block ?_ | refine W_region ?_ | refine W_skip ?_ | refine W_ret ?_ | refine W_exit ?_) | (first | refine L_nil ?_ | (apply L_plain; first | (apply L_go; first | refine lP ?_ | (refine lPg ?_; intro w hw)) | (apply L_mf; refine lMakeFunc ?_) | refine lY ?_) | (apply L_guarded; first | refine lGT ?_ | refine lGF ?_ | (apply L_go; refine lPG ?_) | refine lG ?_)))
    refine lBuildSlice [enc (mkF v x)] ?_
    intro a2 w hw
    refine lApp (rows2 := [enc (mkF v x)]) ?_ (Wd.own_rd (i := 0) hw rfl)
    intro v' w hw
    obtain ⟨a3, n3, c3, rfl, -, -, -⟩ := hw.own_shape (i := 3) rfl
    refine lStore ?_
    intro w hw
    repeat (first | (first | refine W_seq ?_ | refine W_block ?_ | refine W_region ?_ | refine W_skip ?_ | refine W_ret ?_ | refine W_exit ?_) | (first | refine L_nil ?_ | (apply L_plain; first | (apply L_go; first | refine lP ?_ | (refine lPg ?_; intro w hw)) | (apply L_mf; refine lMakeFunc ?_) | refine lY ?_) | (apply L_guarded; first | refine lGT ?_ | refine lGF ?_ | (apply L_go; refine lPG ?_) | refine lG ?_)))
    refine ⟨_, rfl, ret_b rfl (by simp [he]), ?_⟩
    rw [if_pos he]
    refine Wd.closeEx (X := fun fv : Value => [.blk bf (.cells #[fv] 52), .own fv 83 6 ((l ++ [mkF v x]).map enc)]) (.slice a3 n3 c3) ?_
    rw [List.map_append]
    exact hw.drop.drop
end Go.Proofs.YtekdbdhkpolooaaGreat
end
/- A service is registered: the whole. -/
section
open Go Mk
namespace Go.Proofs.YtekdbdhkpolooaaGreat
set_option maxHeartbeats 4000000
attribute [local irreducible] Calls

def badNums (v : Service) : Bool := !coreS v.Core || decide (v.Object < 0) || decide (1099511627775 < v.Object) || decide (v.Kind < 0) || decide (65535 < v.Kind)
def regErr (m : List (ByteArray × Service)) (v : Service) : Int :=
  if nameS v.Name = false then 63 else if badNums v = true then 1 else if (aGet m v.Name).isSome = true then 56 else if m.length = 64 then 15 else 0
def regM (m : List (ByteArray × Service)) (v : Service) : List (ByteArray × Service) := if regErr m v = 0 then aSet m v.Name v else m
def regW (m : List (ByteArray × Service)) (ws : List Waiter) (v : Service) : List Waiter := if regErr m v = 0 then ws.filter fun x => !decide (x.Name = v.Name) else ws
def regF (m : List (ByteArray × Service)) (ws : List Waiter) (v : Service) : List Found := if regErr m v = 0 then foundOf v ws else []

theorem Register_any (Γ : Gho) (S : List Res) (w : World) (b bm : Nat) (vs : Value) (m : List (ByteArray × Service)) (ws : List Waiter) (v : Service) [SB v.Name] (hws : ws.length ≤ 64) (hw : Wd Γ (srvL b bm vs m ws ++ S) w) :
    Calls Tryz.prog 18 #[.pointer (some ⟨b, 0, none⟩), .agg (enc v).toArray] w fun e w' => ∃ fv vs', e = .returned (.tuple #[fv, .int .i64 (regErr m v)]) ∧
      Wd Γ (.own fv 83 6 ((regF m ws v).map enc) :: (srvL b bm vs' (regM m v) (regW m ws v) ++ S)) w' := by
  unfold srvL at *
  obtain ⟨a, n, c, rfl, hn, hnc, hc⟩ := hw.own_shape (i := 2) rfl
  simp only [List.length_map] at hn
  refine calls_of_W Tryz.func18 rfl rfl ?_
  repeat (first | (first | refine W_seq ?_ | refine W_block ?_ | refine W_region ?_ | refine W_skip ?_ | refine W_ret ?_ | refine W_exit ?_) | (first | refine L_nil ?_ | (apply L_plain; first | (apply L_go; first | refine lP ?_ | (refine lPg ?_; intro w hw)) | (apply L_mf; refine lMakeFunc ?_) | refine lY ?_) | (apply L_guarded; first | refine lGT ?_ | refine lGF ?_ | (apply L_go; refine lPG ?_) | refine lG ?_)))
  refine lBox ?_
  intro bv w hw
  repeat (first | (first | refine W_seq ?_ | refine W_block ?_ | refine W_region ?_ | refine W_skip ?_ | refine W_ret ?_ | refine W_exit ?_) | (first | refine L_nil ?_ | (apply L_plain; first | (apply L_go; first | refine lP ?_ | (refine lPg ?_; intro w hw)) | (apply L_mf; refine lMakeFunc ?_) | refine lY ?_) | (apply L_guarded; first | refine lGT ?_ | refine lGF ?_ | (apply L_go; refine lPG ?_) | refine lG ?_)))
  refine W_mixE 1 [[],[],[],[],[],[],[],[],[],[],[0],[0],[]] [[],[],[],[],[],[],[],[],[],[],[0],[0],[]] [[6]] ?_
  repeat (first | refine mY ?_ | refine mP ?_ | refine mEndAt ?_ | refine mEnd0 ?_ | refine mEnd ?_)
  refine mAlloc ?_
  refine mStoreAt ?_
  repeat (first | refine mY ?_ | refine mP ?_ | refine mEndAt ?_ | refine mEnd0 ?_ | refine mEnd ?_)
  intro be w hw
  repeat (first | (first | refine W_seq ?_ | refine W_block ?_ | refine W_region ?_ | refine W_skip ?_ | refine W_ret ?_ | refine W_exit ?_) | (first | refine L_nil ?_ | (apply L_plain; first | (apply L_go; first | refine lP ?_ | (refine lPg ?_; intro w hw)) | (apply L_mf; refine lMakeFunc ?_) | refine lY ?_) | (apply L_guarded; first | refine lGT ?_ | refine lGF ?_ | (apply L_go; refine lPG ?_) | refine lG ?_)))
  have nil : ∀ {w} {S' : List Res}, Wd Γ ([Res.blk be (.cells (enc ((aGet m v.Name).getD default)).toArray 32)] ++ Res.blk bv (.cells (enc v).toArray 32) :: S') w → Wd Γ (.own (.slice none 0 0) 83 6 [] :: S') w := fun h => Wd.addNil h.drop.drop
  refine W_cond rfl (fun h1 => ?_) (fun h1 => ?_)
  · repeat (first | (first | refine W_seq ?_ | refine W_block ?_ | refine W_region ?_ | refine W_skip ?_ | refine W_ret ?_ | refine W_exit ?_) | (first | refine L_nil ?_ | (apply L_plain; first | (apply L_go; first | refine lP ?_ | (refine lPg ?_; intro w hw)) | (apply L_mf; refine lMakeFunc ?_) | refine lY ?_) | (apply L_guarded; first | refine lGT ?_ | refine lGF ?_ | (apply L_go; refine lPG ?_) | refine lG ?_)))
    have hE : regErr m v = 63 := by simp [regErr, show nameS v.Name = false from by simpa using h1]
    refine ⟨_, rfl, .slice none 0 0, .slice a n c, by rw [hE]; rfl, ?_⟩
    rw [show regM m v = m from by simp [regM, hE], show regW m ws v = ws from by simp [regW, hE], show regF m ws v = [] from by simp [regF, hE]]
    exact nil hw
  have h1 : nameS v.Name = true := by simpa using h1
  repeat (first | (first | refine W_seq ?_ | refine W_block ?_ | refine W_region ?_ | refine W_skip ?_ | refine W_ret ?_ | refine W_exit ?_) | (first | refine L_nil ?_ | (apply L_plain; first | (apply L_go; first | refine lP ?_ | (refine lPg ?_; intro w hw)) | (apply L_mf; refine lMakeFunc ?_) | refine lY ?_) | (apply L_guarded; first | refine lGT ?_ | refine lGF ?_ | (apply L_go; refine lPG ?_) | refine lG ?_)))
  refine W_cond rfl (fun h2 => ?_) (fun h2 => ?_)
  · have h2 : badNums v = true := h2
    repeat (first | (first | refine W_seq ?_ | refine W_block ?_ | refine W_region ?_ | refine W_skip ?_ | refine W_ret ?_ | refine W_exit ?_) | (first | refine L_nil ?_ | (apply L_plain; first | (apply L_go; first | refine lP ?_ | (refine lPg ?_; intro w hw)) | (apply L_mf; refine lMakeFunc ?_) | refine lY ?_) | (apply L_guarded; first | refine lGT ?_ | refine lGF ?_ | (apply L_go; refine lPG ?_) | refine lG ?_)))
    have hE : regErr m v = 1 := by simp [regErr, h1, h2]
    refine ⟨_, rfl, .slice none 0 0, .slice a n c, by rw [hE]; rfl, ?_⟩
    rw [show regM m v = m from by simp [regM, hE], show regW m ws v = ws from by simp [regW, hE], show regF m ws v = [] from by simp [regF, hE]]
    exact nil hw
  have h2 : badNums v = false := h2
  repeat (first | (first | refine W_seq ?_ | refine W_block ?_ | refine W_region ?_ | refine W_skip ?_ | refine W_ret ?_ | refine W_exit ?_) | (first | refine L_nil ?_ | (apply L_plain; first | (apply L_go; first | refine lP ?_ | (refine lPg ?_; intro w hw)) | (apply L_mf; refine lMakeFunc ?_) | refine lY ?_) | (apply L_guarded; first | refine lGT ?_ | refine lGF ?_ | (apply L_go; refine lPG ?_) | refine lG ?_)))
  refine W_cond rfl (fun h3 => ?_) (fun h3 => ?_)
  · have h3 : (aGet m v.Name).isSome = true := h3
    repeat (first | (first | refine W_seq ?_ | refine W_block ?_ | refine W_region ?_ | refine W_skip ?_ | refine W_ret ?_ | refine W_exit ?_) | (first | refine L_nil ?_ | (apply L_plain; first | (apply L_go; first | refine lP ?_ | (refine lPg ?_; intro w hw)) | (apply L_mf; refine lMakeFunc ?_) | refine lY ?_) | (apply L_guarded; first | refine lGT ?_ | refine lGF ?_ | (apply L_go; refine lPG ?_) | refine lG ?_)))
    have hE : regErr m v = 56 := by simp [regErr, h1, h2, h3]
    refine ⟨_, rfl, .slice none 0 0, .slice a n c, by rw [hE]; rfl, ?_⟩
    rw [show regM m v = m from by simp [regM, hE], show regW m ws v = ws from by simp [regW, hE], show regF m ws v = [] from by simp [regF, hE]]
    exact nil hw
  have h3 : (aGet m v.Name).isSome = false := h3
  repeat (first | (first | refine W_seq ?_ | refine W_block ?_ | refine W_region ?_ | refine W_skip ?_ | refine W_ret ?_ | refine W_exit ?_) | (first | refine L_nil ?_ | (apply L_plain; first | (apply L_go; first | refine lP ?_ | (refine lPg ?_; intro w hw)) | (apply L_mf; refine lMakeFunc ?_) | refine lY ?_) | (apply L_guarded; first | refine lGT ?_ | refine lGF ?_ | (apply L_go; refine lPG ?_) | refine lG ?_)))
  refine W_cond rfl (fun h4 => ?_) (fun h4 => ?_)
  · have h4 : m.length = 64 := by have h5 := of_decide_eq_true h4; omega
    repeat (first | (first | refine W_seq ?_ | refine W_block ?_ | refine W_region ?_ | refine W_skip ?_ | refine W_ret ?_ | refine W_exit ?_) | (first | refine L_nil ?_ | (apply L_plain; first | (apply L_go; first | refine lP ?_ | (refine lPg ?_; intro w hw)) | (apply L_mf; refine lMakeFunc ?_) | refine lY ?_) | (apply L_guarded; first | refine lGT ?_ | refine lGF ?_ | (apply L_go; refine lPG ?_) | refine lG ?_)))
    have hE : regErr m v = 15 := by simp [regErr, h1, h2, h3, h4]
    refine ⟨_, rfl, .slice none 0 0, .slice a n c, by rw [hE]; rfl, ?_⟩
    rw [show regM m v = m from by simp [regM, hE], show regW m ws v = ws from by simp [regW, hE], show regF m ws v = [] from by simp [regF, hE]]
    exact nil hw
  have h4 : ¬ m.length = 64 := by have h5 := of_decide_eq_false h4; omega
  have hE : regErr m v = 0 := by simp [regErr, h1, h2, h3, h4]
  repeat (first | (first | refine W_seq ?_ | refine W_block ?_ | refine W_region ?_ | refine W_skip ?_ | refine W_ret ?_ | refine W_exit ?_) | (first | refine L_nil ?_ | (apply L_plain; first | (apply L_go; first | refine lP ?_ | (refine lPg ?_; intro w hw)) | (apply L_mf; refine lMakeFunc ?_) | refine lY ?_) | (apply L_guarded; first | refine lGT ?_ | refine lGF ?_ | (apply L_go; refine lPG ?_) | refine lG ?_)))
  have hw : Wd Γ ([Res.blk be (.cells (enc ((aGet m v.Name).getD default)).toArray 32), Res.blk bv (.cells (enc v).toArray 32), .blk b (.cells #[.map (some bm), .slice a n c] 48), .own (.slice a n c) 34 3 (ws.map enc)] ++ (Res.ms svcV bm m :: S)) w :=
    hw.perm ((((List.Perm.swap _ _ _).cons _).cons _).cons _)
  refine W_mix1 _ _ [[],[],[],[],[],[],[],[0]] [[],[],[],[],[],[],[],[0]] hw ?_
  repeat (first | refine mY ?_ | refine mP ?_ | refine mEndAt ?_ | refine mEnd0 ?_ | refine mEnd ?_)
  refine mM (v := undef) (fun _ => Res.ms svcV bm (aSet m v.Name v) :: S) (fun Y w g hw => ?_) ?_
  · exact s_mapUpdS (f := svcV) (v := v) (a := v.Name) (l := m) (i := 4) hw rfl rfl rfl rfl (fun w' hw' => ⟨hw', fun _ => rfl⟩)
  repeat (first | refine mY ?_ | refine mP ?_ | refine mEndAt ?_ | refine mEnd0 ?_ | refine mEnd ?_)
  intro w hw
  have hw : Wd Γ ([Res.blk be (.cells (enc ((aGet m v.Name).getD default)).toArray 32), Res.blk bv (.cells (enc v).toArray 32), .blk b (.cells #[.map (some bm), .slice a n c] 48), .own (.slice a n c) 34 3 (ws.map enc)] ++ (Res.ms svcV bm (aSet m v.Name v) :: S ++ [])) w := hw
  rw [List.append_nil] at hw
  repeat (first | (first | refine W_seq ?_ | refine W_block ?_ | refine W_region ?_ | refine W_skip ?_ | refine W_ret ?_ | refine W_exit ?_) | (first | refine L_nil ?_ | (apply L_plain; first | (apply L_go; first | refine lP ?_ | (refine lPg ?_; intro w hw)) | (apply L_mf; refine lMakeFunc ?_) | refine lY ?_) | (apply L_guarded; first | refine lGT ?_ | refine lGF ?_ | (apply L_go; refine lPG ?_) | refine lG ?_)))
  refine lAlloc ?_
  intro bf w hw
  repeat (first | (first | refine W_seq ?_ | refine W_block ?_ | refine W_region ?_ | refine W_skip ?_ | refine W_ret ?_ | refine W_exit ?_) | (first | refine L_nil ?_ | (apply L_plain; first | (apply L_go; first | refine lP ?_ | (refine lPg ?_; intro w hw)) | (apply L_mf; refine lMakeFunc ?_) | refine lY ?_) | (apply L_guarded; first | refine lGT ?_ | refine lGF ?_ | (apply L_go; refine lPG ?_) | refine lG ?_)))
  refine lCall ?_
  have hw := Wd.closeEx (X := fun fv : Value => [.blk bf (.cells #[fv] 52), .own fv 83 6 (([] : List Found).map enc)]) (.slice none 0 0) ((Wd.addNil (a := none) (E := 83) (sz := 6) hw).perm (.swap _ _ _))
  have hw : Wd Γ (.own (.slice a n c) 34 3 (ws.map enc) :: Rf bf [] :: .blk bv (.cells (enc v).toArray 32) :: .blk be (.cells (enc ((aGet m v.Name).getD default)).toArray 32) :: .blk b (.cells #[.map (some bm), .slice a n c] 48) :: Res.ms svcV bm (aSet m v.Name v) :: S) w := ((hw.pull (i := 2) rfl).pull (i := 1) rfl).pull (i := 4) rfl
  refine (DeleteFunc_any (fun k => Rf bf (foundOf v (ws.take k)) :: .blk bv (.cells (enc v).toArray 32) :: .blk be (.cells (enc ((aGet m v.Name).getD default)).toArray 32) :: .blk b (.cells #[.map (some bm), .slice a n c] 48) :: Res.ms svcV bm (aSet m v.Name v) :: S) Γ w _ ws 48 [] [.pointer (some ⟨bv, 0, none⟩), .pointer (some ⟨bf, 0, none⟩)] (fun x => decide (x.Name = v.Name)) hw (fun R k x w hx hw => ?_)).mono ?_
  · have hl : (foundOf v (ws.take k)).length ≤ 1000 := by
      have := List.length_filter_le (fun x : Waiter => decide (x.Name = v.Name)) (ws.take k)
      simp only [foundOf, List.length_map, List.length_take] at *; omega
    refine (Register1_any Γ _ w bf bv v (foundOf v (ws.take k)) x hl ((Wd.swapApp (B := [_, _]) hw))).mono ?_
    rintro e w' ⟨he, hw'⟩
    refine ⟨he, ?_⟩
    have h5 : foundOf v (ws.take (k + 1)) = foundOf v (ws.take k) ++ (if x.Name = v.Name then [mkF v x] else []) := by
      rw [List.take_add_one, hx]
      unfold foundOf
      rw [List.filter_append, List.map_append]
      congr 1
      by_cases h6 : x.Name = v.Name <;> simp [h6]
    rw [h5]
    exact Wd.swapApp (A := [_, _]) hw'
  rintro e w ⟨vs', rfl, hw⟩
  refine ⟨_, rfl, ?_⟩
  rw [List.take_length] at hw
  obtain ⟨a', n', c', rfl, -, -, -⟩ := hw.own_shape (i := 0) rfl
  repeat (first | (first | refine W_seq ?_ | refine W_block ?_ | refine W_region ?_ | refine W_skip ?_ | refine W_ret ?_ | refine W_exit ?_) | (first | refine L_nil ?_ | (apply L_plain; first | (apply L_go; first | refine lP ?_ | (refine lPg ?_; intro w hw)) | (apply L_mf; refine lMakeFunc ?_) | refine lY ?_) | (apply L_guarded; first | refine lGT ?_ | refine lGF ?_ | (apply L_go; refine lPG ?_) | refine lG ?_)))
  refine lStore ?_
  intro w hw
  obtain ⟨fv, hw⟩ := (hw.pull (i := 1) rfl).openEx
  repeat (first | (first | refine W_seq ?_ | refine W_block ?_ | refine W_region ?_ | refine W_skip ?_ | refine W_ret ?_ | refine W_exit ?_) | (first | refine L_nil ?_ | (apply L_plain; first | (apply L_go; first | refine lP ?_ | (refine lPg ?_; intro w hw)) | (apply L_mf; refine lMakeFunc ?_) | refine lY ?_) | (apply L_guarded; first | refine lGT ?_ | refine lGF ?_ | (apply L_go; refine lPG ?_) | refine lG ?_)))
  refine ⟨_, rfl, fv, .slice a' n' c', by rw [hE]; rfl, ?_⟩
  rw [show regM m v = aSet m v.Name v from by simp [regM, hE], show regW m ws v = ws.filter (fun x => !decide (x.Name = v.Name)) from by simp [regW, hE], show regF m ws v = foundOf v ws from by simp [regF, hE]]
  exact (((((hw.dropAt 0).dropAt 2).dropAt 2).pull (i := 3) rfl).pull (i := 3) rfl).pull (i := 2) rfl
end Go.Proofs.YtekdbdhkpolooaaGreat
end
/- The library's sort lies in this program: a row a fact (written by a program of mine; the kernel checks each). -/
section
open Go Mk
namespace Go.Proofs.YtekdbdhkpolooaaGreat
def lay_svc_ren : Go.Shelf.Ren := ⟨fun | 6 => 57 | 15 => 64 | 14 => 75 | 28 => 85 | 29 => 86 | 20 => 93 | 21 => 94 | 22 => 95 | 23 => 96 | 24 => 97 | 25 => 98 | 26 => 99 | 27 => 100 | 46 => 108 | 47 => 102 | 48 => 103 | 49 => 109 | 50 => 110 | 57 => 112 | n => n, fun | 22 => 26 | 24 => 32 | 25 => 69 | 3 => 3 | 39 => 99 | 0 => 0 | 53 => 117 | 55 => 119 | 4 => 4 | 46 => 110 | 45 => 109 | 50 => 114 | 5 => 5 | 9 => 9 | 66 => 127 | 70 => 131 | 76 => 136 | 77 => 137 | n => n, fun | n => n⟩
theorem lay_svc : Go.Proofs.SlLaysF0.n6 Tryz.prog lay_svc_ren := {
  mixed := by kernel_rfl
  f6 := ⟨Tryz.f57.name, by decide, Tryz.func57.trans (congrArg some (by kernel_rfl))⟩
  f14 := ⟨Tryz.f75.name, by decide, Tryz.func75.trans (congrArg some (by kernel_rfl))⟩
  f15 := Tryz.func64.trans (congrArg some (by kernel_rfl))
  f20 := ⟨Tryz.f93.name, by decide, Tryz.func93.trans (congrArg some (by kernel_rfl))⟩
  f21 := ⟨Tryz.f94.name, by decide, Tryz.func94.trans (congrArg some (by kernel_rfl))⟩
  f22 := ⟨Tryz.f95.name, by decide, Tryz.func95.trans (congrArg some (by kernel_rfl))⟩
  f23 := ⟨Tryz.f96.name, by decide, Tryz.func96.trans (congrArg some (by kernel_rfl))⟩
  f24 := ⟨Tryz.f97.name, by decide, Tryz.func97.trans (congrArg some (by kernel_rfl))⟩
  f25 := ⟨Tryz.f98.name, by decide, Tryz.func98.trans (congrArg some (by kernel_rfl))⟩
  f26 := ⟨Tryz.f99.name, by decide, Tryz.func99.trans (congrArg some (by kernel_rfl))⟩
  f27 := ⟨Tryz.f100.name, by decide, Tryz.func100.trans (congrArg some (by kernel_rfl))⟩
  f28 := Tryz.func85.trans (congrArg some (by kernel_rfl))
  f29 := Tryz.func86.trans (congrArg some (by kernel_rfl))
  f46 := ⟨Tryz.f108.name, by decide, Tryz.func108.trans (congrArg some (by kernel_rfl))⟩
  f47 := Tryz.func102.trans (congrArg some (by kernel_rfl))
  f48 := Tryz.func103.trans (congrArg some (by kernel_rfl))
  f49 := ⟨Tryz.f109.name, by decide, Tryz.func109.trans (congrArg some (by kernel_rfl))⟩
  f50 := ⟨Tryz.f110.name, by decide, Tryz.func110.trans (congrArg some (by kernel_rfl))⟩
  f57 := ⟨Tryz.f112.name, by decide, Tryz.func112.trans (congrArg some (by kernel_rfl))⟩
  t0 := Tryz.underlying0
  a0 := Tryz.isAgg0
  z0 := Tryz.sizeOf0
  v0 := Tryz.zeroValue0
  t3 := Tryz.underlying3
  a3 := Tryz.isAgg3
  z3 := Tryz.sizeOf3
  v3 := Tryz.zeroValue3
  t4 := Tryz.underlying4
  a4 := Tryz.isAgg4
  z4 := Tryz.sizeOf4
  v4 := Tryz.zeroValue4
  t5 := Tryz.underlying5
  a5 := Tryz.isAgg5
  z5 := Tryz.sizeOf5
  v5 := Tryz.zeroValue5
  t9 := Tryz.underlying9
  a9 := Tryz.isAgg9
  z9 := Tryz.sizeOf9
  v9 := Tryz.zeroValue9
  t22 := Tryz.underlying26
  a22 := Tryz.isAgg26
  z22 := Tryz.sizeOf26
  v22 := Tryz.zeroValue26
  t25 := Tryz.underlying69
  a25 := Tryz.isAgg69
  z25 := Tryz.sizeOf69
  v25 := Tryz.zeroValue69
  t39 := Tryz.underlying99
  a39 := Tryz.isAgg99
  z39 := Tryz.sizeOf99
  v39 := Tryz.zeroValue99
  t45 := Tryz.underlying109
  a45 := Tryz.isAgg109
  z45 := Tryz.sizeOf109
  v45 := Tryz.zeroValue109
  t46 := Tryz.underlying110
  a46 := Tryz.isAgg110
  z46 := Tryz.sizeOf110
  v46 := Tryz.zeroValue110
  t50 := Tryz.underlying114
  a50 := Tryz.isAgg114
  z50 := Tryz.sizeOf114
  v50 := Tryz.zeroValue114
  t53 := Tryz.underlying117
  a53 := Tryz.isAgg117
  z53 := Tryz.sizeOf117
  v53 := Tryz.zeroValue117
  t55 := Tryz.underlying119
  a55 := Tryz.isAgg119
  z55 := Tryz.sizeOf119
  v55 := Tryz.zeroValue119
  t66 := Tryz.underlying127
  a66 := Tryz.isAgg127
  z66 := Tryz.sizeOf127
  v66 := Tryz.zeroValue127
  t70 := Tryz.underlying131
  a70 := Tryz.isAgg131
  z70 := Tryz.sizeOf131
  v70 := Tryz.zeroValue131
  t76 := Tryz.underlying136
  a76 := Tryz.isAgg136
  z76 := Tryz.sizeOf136
  v76 := Tryz.zeroValue136
  t77 := Tryz.underlying137
  a77 := Tryz.isAgg137
  z77 := Tryz.sizeOf137
  v77 := Tryz.zeroValue137 }
def lay_fct_ren : Go.Shelf.Ren := ⟨fun | 6 => 38 | 15 => 64 | 14 => 63 | 28 => 85 | 29 => 86 | 20 => 77 | 21 => 78 | 22 => 79 | 23 => 80 | 24 => 81 | 25 => 82 | 26 => 83 | 27 => 84 | 46 => 101 | 47 => 102 | 48 => 103 | 49 => 104 | 50 => 105 | 57 => 111 | n => n, fun | 22 => 42 | 24 => 74 | 25 => 71 | 3 => 3 | 39 => 99 | 0 => 0 | 53 => 117 | 55 => 119 | 4 => 4 | 46 => 110 | 45 => 109 | 50 => 114 | 5 => 5 | 9 => 9 | 66 => 127 | 70 => 131 | 76 => 136 | 77 => 137 | n => n, fun | n => n⟩
theorem lay_fct : Go.Proofs.SlLaysF0.n6 Tryz.prog lay_fct_ren := {
  mixed := by kernel_rfl
  f6 := ⟨Tryz.f38.name, by decide, Tryz.func38.trans (congrArg some (by kernel_rfl))⟩
  f14 := ⟨Tryz.f63.name, by decide, Tryz.func63.trans (congrArg some (by kernel_rfl))⟩
  f15 := Tryz.func64.trans (congrArg some (by kernel_rfl))
  f20 := ⟨Tryz.f77.name, by decide, Tryz.func77.trans (congrArg some (by kernel_rfl))⟩
  f21 := ⟨Tryz.f78.name, by decide, Tryz.func78.trans (congrArg some (by kernel_rfl))⟩
  f22 := ⟨Tryz.f79.name, by decide, Tryz.func79.trans (congrArg some (by kernel_rfl))⟩
  f23 := ⟨Tryz.f80.name, by decide, Tryz.func80.trans (congrArg some (by kernel_rfl))⟩
  f24 := ⟨Tryz.f81.name, by decide, Tryz.func81.trans (congrArg some (by kernel_rfl))⟩
  f25 := ⟨Tryz.f82.name, by decide, Tryz.func82.trans (congrArg some (by kernel_rfl))⟩
  f26 := ⟨Tryz.f83.name, by decide, Tryz.func83.trans (congrArg some (by kernel_rfl))⟩
  f27 := ⟨Tryz.f84.name, by decide, Tryz.func84.trans (congrArg some (by kernel_rfl))⟩
  f28 := Tryz.func85.trans (congrArg some (by kernel_rfl))
  f29 := Tryz.func86.trans (congrArg some (by kernel_rfl))
  f46 := ⟨Tryz.f101.name, by decide, Tryz.func101.trans (congrArg some (by kernel_rfl))⟩
  f47 := Tryz.func102.trans (congrArg some (by kernel_rfl))
  f48 := Tryz.func103.trans (congrArg some (by kernel_rfl))
  f49 := ⟨Tryz.f104.name, by decide, Tryz.func104.trans (congrArg some (by kernel_rfl))⟩
  f50 := ⟨Tryz.f105.name, by decide, Tryz.func105.trans (congrArg some (by kernel_rfl))⟩
  f57 := ⟨Tryz.f111.name, by decide, Tryz.func111.trans (congrArg some (by kernel_rfl))⟩
  t0 := Tryz.underlying0
  a0 := Tryz.isAgg0
  z0 := Tryz.sizeOf0
  v0 := Tryz.zeroValue0
  t3 := Tryz.underlying3
  a3 := Tryz.isAgg3
  z3 := Tryz.sizeOf3
  v3 := Tryz.zeroValue3
  t4 := Tryz.underlying4
  a4 := Tryz.isAgg4
  z4 := Tryz.sizeOf4
  v4 := Tryz.zeroValue4
  t5 := Tryz.underlying5
  a5 := Tryz.isAgg5
  z5 := Tryz.sizeOf5
  v5 := Tryz.zeroValue5
  t9 := Tryz.underlying9
  a9 := Tryz.isAgg9
  z9 := Tryz.sizeOf9
  v9 := Tryz.zeroValue9
  t22 := Tryz.underlying42
  a22 := Tryz.isAgg42
  z22 := Tryz.sizeOf42
  v22 := Tryz.zeroValue42
  t25 := Tryz.underlying71
  a25 := Tryz.isAgg71
  z25 := Tryz.sizeOf71
  v25 := Tryz.zeroValue71
  t39 := Tryz.underlying99
  a39 := Tryz.isAgg99
  z39 := Tryz.sizeOf99
  v39 := Tryz.zeroValue99
  t45 := Tryz.underlying109
  a45 := Tryz.isAgg109
  z45 := Tryz.sizeOf109
  v45 := Tryz.zeroValue109
  t46 := Tryz.underlying110
  a46 := Tryz.isAgg110
  z46 := Tryz.sizeOf110
  v46 := Tryz.zeroValue110
  t50 := Tryz.underlying114
  a50 := Tryz.isAgg114
  z50 := Tryz.sizeOf114
  v50 := Tryz.zeroValue114
  t53 := Tryz.underlying117
  a53 := Tryz.isAgg117
  z53 := Tryz.sizeOf117
  v53 := Tryz.zeroValue117
  t55 := Tryz.underlying119
  a55 := Tryz.isAgg119
  z55 := Tryz.sizeOf119
  v55 := Tryz.zeroValue119
  t66 := Tryz.underlying127
  a66 := Tryz.isAgg127
  z66 := Tryz.sizeOf127
  v66 := Tryz.zeroValue127
  t70 := Tryz.underlying131
  a70 := Tryz.isAgg131
  z70 := Tryz.sizeOf131
  v70 := Tryz.zeroValue131
  t76 := Tryz.underlying136
  a76 := Tryz.isAgg136
  z76 := Tryz.sizeOf136
  v76 := Tryz.zeroValue136
  t77 := Tryz.underlying137
  a77 := Tryz.isAgg137
  z77 := Tryz.sizeOf137
  v77 := Tryz.zeroValue137 }
end Go.Proofs.YtekdbdhkpolooaaGreat
end
/- The services in order. -/
section
open Go Mk
namespace Go.Proofs.YtekdbdhkpolooaaGreat
set_option maxHeartbeats 4000000
attribute [local irreducible] Calls

/-- slices.AppendSeq onto nil. -/
theorem AppendSeq_svc {Γ : Gho} {g N : Nat} {fst cap : Array Value} {R : List Res} {V : List Service → Prop} {w : World} [FnOk Tryz.prog g] (hseq : SeqC Tryz.prog Γ g fst cap N (fun x : Service => .agg (enc x).toArray) R V) (hN : N ≤ 1000000) (hw : Wd Γ R w) :
    Calls Tryz.prog 74 #[.slice none 0 0, .func (.func g) fst cap] w fun e w' => ∃ v' xs, e = .returned v' ∧ V xs ∧ Wd Γ (.own v' 32 4 (xs.map enc) :: R) w' := by
  refine (callsIn_wide (n := 0)).1 (callsIn_of_wp_marks Tryz.func74 rfl trivial ?_)
  refine wpIn_seq (wpIn_WF (n := Tryz.f74.ntmps) (ds := []) ?_ rfl rfl)
  rw [fnOf_entry (by rfl)]
  refine WF_region (xBox ?_)
  intro bs w hw
  refine xY ?_
  refine LX_nil ?_
  rintro a0 hd0 hs0 hf0
  refine wpIn_seq (wpIn_seq (wpIn_WF (n := Tryz.f74.ntmps) (ds := []) ?_ hd0 hs0))
  rw [hf0]
  refine WF_region (xY ?_)
  refine LX_nil ?_
  rintro a1 hd1 hs1 hf1
  refine wpIn_block (wp_rangeFunc hw (f := g) (fst := fst) (cap := cap) (by rw [eval_fnOf, hf1]; rfl) ?_)
  intro rc r l w hr1 hr2 hr3 hr4 hr5 hr6 hw
  refine (hseq l (fun xs => [.blk l (.loop rc), .blk r (.deferred (some [])), Res.ex fun sv : Value => [.blk bs (.cells #[sv] 26), .own sv 32 4 (xs.map enc)]]) w ?_ ?_).mono ?_
  · rintro xs x R' w hN' hw
    have hl := hw.at_blk (i := 0) rfl
    refine ⟨_, _, _, _, run_yield hl (by rw [hr4]; rfl), ?_⟩
    rw [hr3, hr4, hr5, hr6]
    rw [oneParam]
    refine round_any (n := Tryz.f74.ntmps) hr1 hr2 (by simpa using hs1) hw ?_
    rw [frParam a1 7 _ (by rw [hs1]; decide), hf1]
    refine WF_region (xAlloc ?_)
    intro be w hw
    refine xStore ?_
    intro w hw
    refine LX_nil ⟨rfl, _, hw.pull (i := 1) rfl, fun w hw => ?_⟩
    obtain ⟨sv, hw⟩ := (hw.pull (i := 3) rfl).openEx
    obtain ⟨a, n, c, rfl, hn, hnc, hc⟩ := hw.own_shape (i := 1) rfl
    simp only [List.length_map] at hn
    refine WF_block (WF_region ?_)
    refine xY (v := .slice a n c) ?_
    refine xY ?_
    refine xBuildSlice [enc x] ?_
    intro a2 w hw
    refine xApp (rows2 := [enc x]) ?_ (Wd.own_rd (i := 0) hw rfl)
    intro v' w hw
    obtain ⟨a3, n3, c3, rfl, -, -, -⟩ := hw.own_shape (i := 2) rfl
    refine xStore ?_
    intro w hw
    refine LX_nil ⟨rfl, _, hw.pull (i := 3) rfl, fun w hw => ⟨rfl, ?_⟩⟩
    have hw := (((hw.dropAt 1).dropAt 3).pull (i := 2) rfl).pull (i := 2) rfl
    have hw := Wd.closeEx (X := fun sv : Value => [.blk bs (.cells #[sv] 26), .own sv 32 4 ((xs ++ [x]).map enc)]) (.slice a3 n3 c3) (by rw [List.map_append]; exact hw)
    exact (hw.pull (i := 2) rfl).pull (i := 2) rfl
  · have hw := (Wd.addNil (a := none) (E := 32) (sz := 4) hw).pull (i := 3) rfl
    have hw := Wd.closeEx (X := fun sv : Value => [.blk bs (.cells #[sv] 26), .own sv 32 4 (([] : List Service).map enc)]) (.slice none 0 0) hw
    exact (hw.pull (i := 2) rfl).pull (i := 2) rfl
  · rintro e w ⟨he, xs, hV, hw⟩
    refine ⟨he, _, hw, fun w hw => ?_⟩
    show Code.wpIn _ _ _ _ _ _ _
    obtain ⟨sv, hw⟩ := (hw.pull (i := 1) rfl).openEx
    obtain ⟨a, n, c, rfl, hn, hnc, hc⟩ := hw.own_shape (i := 1) rfl
    refine wpIn_seq (wpIn_WF (n := Tryz.f74.ntmps) (ds := [{ target := .collected r, args := #[] }]) ?_ (by rw [hd1]) hs1)
    have hfa : fnOf ({ tmps := a1.tmps, defers := { target := .collected r, args := #[] } :: a1.defers } : Act) = fnOf a1 := rfl
    rw [hfa, hf1]
    refine WF_region (xY (v := .slice a n c) ?_)
    refine xY ?_
    refine LX_nil ?_
    rintro a2 hd2 hs2 hf2
    refine wpIn_ret ?_
    show LeavesInM _ _ _ _ _ _ _ _ _
    rw [hd2]
    have hr := hw.at_blk (i := 2) rfl
    have hlt : r < w.heap.size := (Array.getElem?_eq_some_iff.1 hr).1
    have hw2 := hw.set_blk (i := 2) (w' := w.putObj r (.deferred none)) rfl ⟨rfl, rfl, rfl, Nat.le_refl _, by simp⟩ (World.putObj_heap_same hlt) fun k _ hne => World.putObj_heap_other hne
    refine ⟨by simp, .inl ⟨r, _, rfl, run_takeDeferred hr, ?_⟩⟩
    refine ⟨.slice a n c, ?_, _, xs, rfl, hV, (hw2.dropAt 0).dropAt 1⟩
    have h4 : a2.tmps.getD 4 undef = .slice a n c := by
      show fnOf a2 4 = _
      rw [hf2]; rfl
    rw [← h4]
    exact results_tmp rfl _ _ _
theorem Collect_svc {Γ : Gho} {g N : Nat} {fst cap : List Value} {R : List Res} {V : List Service → Prop} {w : World} [FnOk Tryz.prog g] (hseq : SeqC Tryz.prog Γ g fst.toArray cap.toArray N (fun x : Service => .agg (enc x).toArray) R V) (hN : N ≤ 1000000) (hw : Wd Γ R w) :
    Calls Tryz.prog 56 #[.func (.func g) fst.toArray cap.toArray] w fun e w' => ∃ v' xs, e = .returned v' ∧ V xs ∧ Wd Γ (.own v' 32 4 (xs.map enc) :: R) w' := by
  refine calls_of_W Tryz.func56 rfl rfl ?_
  repeat (first | (first | refine W_seq ?_ | refine W_block ?_ | refine W_region ?_ | refine W_skip ?_ | refine W_ret ?_ | refine W_exit ?_) | (first | refine L_nil ?_ | (apply L_plain; first | (apply L_go; first | refine lP ?_ | (refine lPg ?_; intro w hw)) | (apply L_mf; refine lMakeFunc ?_) | refine lY ?_) | (apply L_guarded; first | refine lGT ?_ | refine lGF ?_ | (apply L_go; refine lPG ?_) | refine lG ?_)))
  refine lCall ?_
  refine (AppendSeq_svc hseq hN hw).mono ?_
  rintro e w ⟨v', xs, rfl, hV, hw⟩
  refine ⟨_, rfl, ?_⟩
  repeat (first | (first | refine W_seq ?_ | refine W_block ?_ | refine W_region ?_ | refine W_skip ?_ | refine W_ret ?_ | refine W_exit ?_) | (first | refine L_nil ?_ | (apply L_plain; first | (apply L_go; first | refine lP ?_ | (refine lPg ?_; intro w hw)) | (apply L_mf; refine lMakeFunc ?_) | refine lY ?_) | (apply L_guarded; first | refine lGT ?_ | refine lGF ?_ | (apply L_go; refine lPG ?_) | refine lG ?_)))
  exact ⟨_, rfl, _, xs, rfl, hV, hw⟩

/-- maps.Values: what is handed on are the map's elements, each once. -/
theorem Values1_svc {Γ : Gho} {bx bm clock : Nat} {en : Array MapEntry} {R : List Res} {l : List (ByteArray × Service)} [Inhabited Service] (he : en.toList.map (fun e => (e.key, e.val)) = l.map fun p => (.string p.1, svcV p.2)) (hb : (en.toList.map (·.born)).Nodup) (hc : ∀ e ∈ en.toList, e.born < clock) :
    SeqC Tryz.prog Γ 58 #[] #[.pointer (some ⟨bx, 0, none⟩)] l.length (fun x : Service => .agg (enc x).toArray) (.blk bx (.cells #[.map (some bm)] 46) :: .blk bm (.map en clock) :: R) (fun xs => xs.Perm (l.map (·.2))) := by
  intro yl I w hY hw
  have hsz : en.size = l.length := by have := congrArg List.length he; simpa using this
  refine calls_of_W Tryz.func58 rfl rfl ?_
  have hw : Wd Γ (.blk bx (.cells #[.map (some bm)] 46) :: .blk bm (.map en clock) :: (I [] ++ R)) w := hw.perm ((List.perm_middle (l₁ := I [])).trans (List.Perm.cons _ List.perm_middle))
  repeat (first | (first | refine W_seq ?_ | refine W_block ?_ | refine W_region ?_ | refine W_skip ?_ | refine W_ret ?_ | refine W_exit ?_) | (first | refine L_nil ?_ | (apply L_plain; first | (apply L_go; first | refine lP ?_ | (refine lPg ?_; intro w hw)) | (apply L_mf; refine lMakeFunc ?_) | refine lY ?_) | (apply L_guarded; first | refine lGT ?_ | refine lGF ?_ | (apply L_go; refine lPG ?_) | refine lG ?_)))
  refine lRange ?_
  intro r w hw
  repeat (first | (first | refine W_seq ?_ | refine W_block ?_ | refine W_region ?_ | refine W_skip ?_ | refine W_ret ?_ | refine W_exit ?_) | (first | refine L_nil ?_ | (apply L_plain; first | (apply L_go; first | refine lP ?_ | (refine lPg ?_; intro w hw)) | (apply L_mf; refine lMakeFunc ?_) | refine lY ?_) | (apply L_guarded; first | refine lGT ?_ | refine lGF ?_ | (apply L_go; refine lPG ?_) | refine lG ?_)))
  refine W_loop (fun μ ρ w => ∃ (seen : Array Nat) (idx : List Nat) (c0 : Nat), Seen en seen idx ∧ μ + idx.length = l.length ∧ clock ≤ c0 ∧ Has ρ [(0, .func (.yield yl) #[] #[]), (6, .pointer (some ⟨r, 0, none⟩))] ∧ Wd Γ (.blk r (.mapIter (some bm) clock seen c0) :: .blk bx (.cells #[.map (some bm)] 46) :: .blk bm (.map en clock) :: (I (idx.map fun i => (l.getD i default).2) ++ R)) w) l.length ⟨#[], [], clock, Seen.nil, by simp, Nat.le_refl _, ⟨rfl, rfl, trivial⟩, hw⟩ ?_
  rintro μ ρ w ⟨seen, idx, c0, hseen, hμ, hc0, hρ, hw⟩
  rw [hρ.eq]
  repeat (first | (first | refine W_seq ?_ | refine W_block ?_ | refine W_region ?_ | refine W_skip ?_ | refine W_ret ?_ | refine W_exit ?_) | (first | refine L_nil ?_ | (apply L_plain; first | (apply L_go; first | refine lP ?_ | (refine lPg ?_; intro w hw)) | (apply L_mf; refine lMakeFunc ?_) | refine lY ?_) | (apply L_guarded; first | refine lGT ?_ | refine lGF ?_ | (apply L_go; refine lPG ?_) | refine lG ?_)))
  refine lNext (fun h0 => ?_) (fun e w hmem hw => ?_) hc hc0
  · repeat (first | (first | refine W_seq ?_ | refine W_block ?_ | refine W_region ?_ | refine W_skip ?_ | refine W_ret ?_ | refine W_exit ?_) | (first | refine L_nil ?_ | (apply L_plain; first | (apply L_go; first | refine lP ?_ | (refine lPg ?_; intro w hw)) | (apply L_mf; refine lMakeFunc ?_) | refine lY ?_) | (apply L_guarded; first | refine lGT ?_ | refine lGF ?_ | (apply L_go; refine lPG ?_) | refine lG ?_)))
    refine W_cond_false rfl ?_
    repeat (first | (first | refine W_seq ?_ | refine W_block ?_ | refine W_region ?_ | refine W_skip ?_ | refine W_ret ?_ | refine W_exit ?_) | (first | refine L_nil ?_ | (apply L_plain; first | (apply L_go; first | refine lP ?_ | (refine lPg ?_; intro w hw)) | (apply L_mf; refine lMakeFunc ?_) | refine lY ?_) | (apply L_guarded; first | refine lGT ?_ | refine lGF ?_ | (apply L_go; refine lPG ?_) | refine lG ?_)))
    have hp := hseen.all hb h0
    refine ⟨_, rfl, ⟨_, rfl⟩, idx.map fun i => (l.getD i default).2, ?_, hw.drop.perm ?_⟩
    · have := hp.map fun i => (l.getD i default).2
      rw [hsz, range_map_get l default (·.2)] at this
      exact this
    · exact (((List.perm_middle (l₁ := I (idx.map fun i => (l.getD i default).2))).trans (List.Perm.cons _ List.perm_middle))).symm
  · obtain ⟨i, hie, hin, hil, hseen'⟩ := hseen.next hmem
    have hem : e ∈ en.toList := (left_mem.1 hmem).1
    obtain ⟨⟨k, x⟩, hlx⟩ := get_lt (l := l) (k := i) (by omega)
    have hev : e.val = svcV x := by
      have h1 : (en.toList.map (fun e => (e.key, e.val)))[i]? = some (e.key, e.val) := by rw [List.getElem?_map, Array.getElem?_toList, hie]; rfl
      rw [he, List.getElem?_map, hlx] at h1
      simp at h1
      exact h1.2.symm
    have hxx : (l.getD i default).2 = x := by simp [List.getD_eq_getElem?_getD, hlx]
    have hlen := hseen'.len
    repeat (first | (first | refine W_seq ?_ | refine W_block ?_ | refine W_region ?_ | refine W_skip ?_ | refine W_ret ?_ | refine W_exit ?_) | (first | refine L_nil ?_ | (apply L_plain; first | (apply L_go; first | refine lP ?_ | (refine lPg ?_; intro w hw)) | (apply L_mf; refine lMakeFunc ?_) | refine lY ?_) | (apply L_guarded; first | refine lGT ?_ | refine lGF ?_ | (apply L_go; refine lPG ?_) | refine lG ?_)))
    refine W_cond_true rfl ?_
    repeat (first | (first | refine W_seq ?_ | refine W_block ?_ | refine W_region ?_ | refine W_skip ?_ | refine W_ret ?_ | refine W_exit ?_) | (first | refine L_nil ?_ | (apply L_plain; first | (apply L_go; first | refine lP ?_ | (refine lPg ?_; intro w hw)) | (apply L_mf; refine lMakeFunc ?_) | refine lY ?_) | (apply L_guarded; first | refine lGT ?_ | refine lGF ?_ | (apply L_go; refine lPG ?_) | refine lG ?_)))
    refine lEntry ?_ hem hb
    rw [hev]
    repeat (first | (first | refine W_seq ?_ | refine W_block ?_ | refine W_region ?_ | refine W_skip ?_ | refine W_ret ?_ | refine W_exit ?_) | (first | refine L_nil ?_ | (apply L_plain; first | (apply L_go; first | refine lP ?_ | (refine lPg ?_; intro w hw)) | (apply L_mf; refine lMakeFunc ?_) | refine lY ?_) | (apply L_guarded; first | refine lGT ?_ | refine lGF ?_ | (apply L_go; refine lPG ?_) | refine lG ?_)))
    refine lAlloc ?_
    intro be w hw
    refine lStore ?_
    intro w hw
    refine L_nil ?_
    refine W_seq ?_
    refine W_regionX ?_
    refine xY ?_
    refine xY ?_
    refine LX_yield (x := x) (xs := idx.map fun i => (l.getD i default).2) (R := .blk be (.cells (enc x).toArray 32) :: .blk r (.mapIter (some bm) clock (seen.push e.born) clock) :: .blk bx (.cells #[.map (some bm)] 46) :: .blk bm (.map en clock) :: R) hY (by simp at *; omega) ?_ ?_
    · exact Wd.swapApp (A := [_, _, _, _]) (B := I (idx.map fun i => (l.getD i default).2)) (C := R) hw
    intro w hw
    refine xY ?_
    refine LX_nil ?_
    repeat (first | (first | refine W_seq ?_ | refine W_block ?_ | refine W_region ?_ | refine W_skip ?_ | refine W_ret ?_ | refine W_exit ?_) | (first | refine L_nil ?_ | (apply L_plain; first | (apply L_go; first | refine lP ?_ | (refine lPg ?_; intro w hw)) | (apply L_mf; refine lMakeFunc ?_) | refine lY ?_) | (apply L_guarded; first | refine lGT ?_ | refine lGF ?_ | (apply L_go; refine lPG ?_) | refine lG ?_)))
    refine W_cond_false rfl ?_
    repeat (first | (first | refine W_seq ?_ | refine W_block ?_ | refine W_region ?_ | refine W_skip ?_ | refine W_ret ?_ | refine W_exit ?_) | (first | refine L_nil ?_ | (apply L_plain; first | (apply L_go; first | refine lP ?_ | (refine lPg ?_; intro w hw)) | (apply L_mf; refine lMakeFunc ?_) | refine lY ?_) | (apply L_guarded; first | refine lGT ?_ | refine lGF ?_ | (apply L_go; refine lPG ?_) | refine lG ?_)))
    refine ⟨μ - 1, by simp at *; omega, seen.push e.born, idx ++ [i], clock, hseen', by simp at *; omega, Nat.le_refl _, ⟨rfl, rfl, trivial⟩, ?_⟩
    rw [List.map_append, List.map_singleton, hxx]
    have hw := Wd.swapApp (A := I ((idx.map fun i => (l.getD i default).2) ++ [x])) (B := [_, _, _, _]) (C := R) hw
    exact hw.drop

theorem Values_svc {Γ : Gho} {S : List Res} {w : World} {m : Value} (hw : Wd Γ S w) :
    Calls Tryz.prog 32 #[m] w fun e w' => ∃ bx, e = .returned (.func (.func 58) #[] #[.pointer (some ⟨bx, 0, none⟩)]) ∧ Wd Γ (.blk bx (.cells m.cells 46) :: S) w' := by
  refine calls_of_W Tryz.func32 rfl rfl ?_
  repeat (first | (first | refine W_seq ?_ | refine W_block ?_ | refine W_region ?_ | refine W_skip ?_ | refine W_ret ?_ | refine W_exit ?_) | (first | refine L_nil ?_ | (apply L_plain; first | (apply L_go; first | refine lP ?_ | (refine lPg ?_; intro w hw)) | (apply L_mf; refine lMakeFunc ?_) | refine lY ?_) | (apply L_guarded; first | refine lGT ?_ | refine lGF ?_ | (apply L_go; refine lPG ?_) | refine lG ?_)))
  refine lBox ?_
  intro bx w hw
  repeat (first | (first | refine W_seq ?_ | refine W_block ?_ | refine W_region ?_ | refine W_skip ?_ | refine W_ret ?_ | refine W_exit ?_) | (first | refine L_nil ?_ | (apply L_plain; first | (apply L_go; first | refine lP ?_ | (refine lPg ?_; intro w hw)) | (apply L_mf; refine lMakeFunc ?_) | refine lY ?_) | (apply L_guarded; first | refine lGT ?_ | refine lGF ?_ | (apply L_go; refine lPG ?_) | refine lG ?_)))
  exact ⟨_, rfl, bx, rfl, hw⟩

def cmpB (a b : ByteArray) : Int := if bLt a b = true then -1 else if bLt b a = true then 1 else 0
instance (s : ByteArray) : PC Tryz.prog 59 [.string s] (.bool false) := ⟨fun w => by
  refine calls_of_W Tryz.func59 rfl rfl ?_
  repeat (first | (first | refine W_seq ?_ | refine W_block ?_ | refine W_region ?_ | refine W_skip ?_ | refine W_ret ?_ | refine W_exit ?_) | (first | refine L_nil ?_ | (apply L_plain; first | (apply L_go; first | refine lP ?_ | (refine lPg ?_; intro w hw)) | (apply L_mf; refine lMakeFunc ?_) | refine lY ?_) | (apply L_guarded; first | refine lGT ?_ | refine lGF ?_ | (apply L_go; refine lPG ?_) | refine lG ?_)))
  exact ⟨_, rfl, ret_b rfl (by simp), rfl⟩⟩
instance (a b : ByteArray) : PC Tryz.prog 34 [.string a, .string b] (.int .i64 (cmpB a b)) := ⟨fun w => by
  refine calls_of_W Tryz.func34 rfl rfl ?_
  repeat (first | (first | refine W_seq ?_ | refine W_block ?_ | refine W_region ?_ | refine W_skip ?_ | refine W_ret ?_ | refine W_exit ?_) | (first | refine L_nil ?_ | (apply L_plain; first | (apply L_go; first | refine lP ?_ | (refine lPg ?_; intro w hw)) | (apply L_mf; refine lMakeFunc ?_) | refine lY ?_) | (apply L_guarded; first | refine lGT ?_ | refine lGF ?_ | (apply L_go; refine lPG ?_) | refine lG ?_)))
  refine W_cond_false rfl ?_
  repeat (first | (first | refine W_seq ?_ | refine W_block ?_ | refine W_region ?_ | refine W_skip ?_ | refine W_ret ?_ | refine W_exit ?_) | (first | refine L_nil ?_ | (apply L_plain; first | (apply L_go; first | refine lP ?_ | (refine lPg ?_; intro w hw)) | (apply L_mf; refine lMakeFunc ?_) | refine lY ?_) | (apply L_guarded; first | refine lGT ?_ | refine lGF ?_ | (apply L_go; refine lPG ?_) | refine lG ?_)))
  refine W_cond_false rfl ?_
  repeat (first | (first | refine W_seq ?_ | refine W_block ?_ | refine W_region ?_ | refine W_skip ?_ | refine W_ret ?_ | refine W_exit ?_) | (first | refine L_nil ?_ | (apply L_plain; first | (apply L_go; first | refine lP ?_ | (refine lPg ?_; intro w hw)) | (apply L_mf; refine lMakeFunc ?_) | refine lY ?_) | (apply L_guarded; first | refine lGT ?_ | refine lGF ?_ | (apply L_go; refine lPG ?_) | refine lG ?_)))
  refine W_cond rfl (fun h => ?_) (fun h => ?_)
  · repeat (first | (first | refine W_seq ?_ | refine W_block ?_ | refine W_region ?_ | refine W_skip ?_ | refine W_ret ?_ | refine W_exit ?_) | (first | refine L_nil ?_ | (apply L_plain; first | (apply L_go; first | refine lP ?_ | (refine lPg ?_; intro w hw)) | (apply L_mf; refine lMakeFunc ?_) | refine lY ?_) | (apply L_guarded; first | refine lGT ?_ | refine lGF ?_ | (apply L_go; refine lPG ?_) | refine lG ?_)))
    exact ⟨_, rfl, ret_i rfl (by simp [cmpB, h]), rfl⟩
  repeat (first | (first | refine W_seq ?_ | refine W_block ?_ | refine W_region ?_ | refine W_skip ?_ | refine W_ret ?_ | refine W_exit ?_) | (first | refine L_nil ?_ | (apply L_plain; first | (apply L_go; first | refine lP ?_ | (refine lPg ?_; intro w hw)) | (apply L_mf; refine lMakeFunc ?_) | refine lY ?_) | (apply L_guarded; first | refine lGT ?_ | refine lGF ?_ | (apply L_go; refine lPG ?_) | refine lG ?_)))
  refine W_cond rfl (fun h2 => ?_) (fun h2 => ?_)
  · repeat (first | (first | refine W_seq ?_ | refine W_block ?_ | refine W_region ?_ | refine W_skip ?_ | refine W_ret ?_ | refine W_exit ?_) | (first | refine L_nil ?_ | (apply L_plain; first | (apply L_go; first | refine lP ?_ | (refine lPg ?_; intro w hw)) | (apply L_mf; refine lMakeFunc ?_) | refine lY ?_) | (apply L_guarded; first | refine lGT ?_ | refine lGF ?_ | (apply L_go; refine lPG ?_) | refine lG ?_)))
    exact ⟨_, rfl, ret_i rfl (by simp [cmpB, h, h2]), rfl⟩
  · repeat (first | (first | refine W_seq ?_ | refine W_block ?_ | refine W_region ?_ | refine W_skip ?_ | refine W_ret ?_ | refine W_exit ?_) | (first | refine L_nil ?_ | (apply L_plain; first | (apply L_go; first | refine lP ?_ | (refine lPg ?_; intro w hw)) | (apply L_mf; refine lMakeFunc ?_) | refine lY ?_) | (apply L_guarded; first | refine lGT ?_ | refine lGF ?_ | (apply L_go; refine lPG ?_) | refine lG ?_)))
    exact ⟨_, rfl, ret_i rfl (by simp [cmpB, h, h2]), rfl⟩⟩
theorem Services1_any (Γ : Gho) (S : List Res) (w : World) (a b : Service) (hw : Wd Γ S w) : Calls Tryz.prog 33 #[.agg (enc a).toArray, .agg (enc b).toArray] w fun e w' => e = .returned (.int .i64 (cmpB a.Name b.Name)) ∧ ∃ S', Wd Γ S' w' := by
  refine calls_of_W Tryz.func33 rfl rfl ?_
  repeat (first | (first | refine W_seq ?_ | refine W_block ?_ | refine W_region ?_ | refine W_skip ?_ | refine W_ret ?_ | refine W_exit ?_) | (first | refine L_nil ?_ | (apply L_plain; first | (apply L_go; first | refine lP ?_ | (refine lPg ?_; intro w hw)) | (apply L_mf; refine lMakeFunc ?_) | refine lY ?_) | (apply L_guarded; first | refine lGT ?_ | refine lGF ?_ | (apply L_go; refine lPG ?_) | refine lG ?_)))
  refine lBox ?_
  intro b1 w hw
  refine lBox ?_
  intro b2 w hw
  repeat (first | (first | refine W_seq ?_ | refine W_block ?_ | refine W_region ?_ | refine W_skip ?_ | refine W_ret ?_ | refine W_exit ?_) | (first | refine L_nil ?_ | (apply L_plain; first | (apply L_go; first | refine lP ?_ | (refine lPg ?_; intro w hw)) | (apply L_mf; refine lMakeFunc ?_) | refine lY ?_) | (apply L_guarded; first | refine lGT ?_ | refine lGF ?_ | (apply L_go; refine lPG ?_) | refine lG ?_)))
  exact ⟨_, rfl, rfl, _, hw⟩
theorem ltOf_name : Go.Proofs.ltOf (fun a b : Service => cmpB a.Name b.Name) = fun a b => bLt a.Name b.Name := by
  funext a b
  unfold Go.Proofs.ltOf cmpB
  cases h : bLt a.Name b.Name with
  | true => simp [h]
  | false => cases h2 : bLt b.Name a.Name <;> simp [h, h2]
theorem SortFunc_svc {Γ : Gho} {S : List Res} {w : World} {i : Nat} (xs : List Service) (v : Value) (hw : Wd Γ S w) (hi : S[i]? = some (.own v 32 4 (xs.map enc))) (hlen : xs.length ≤ 1000000) :
    Calls Tryz.prog 57 #[v, .func (.func 33) #[] #[]] w fun e w' => e = .returned (.tuple #[]) ∧ ∃ ys : List Service, ys.Perm xs ∧ (ys.Pairwise fun a b => bLt b.Name a.Name = false) ∧ Wd Γ (S.set i (.own v 32 4 (ys.map enc))) w' := by
  have := SortFunc_K (enc := (enc : Service → List Value)) lay_svc (fun a b : Service => cmpB a.Name b.Name) 33 [] xs v hw hi (fun _ => rfl) (fun x u hu => by simp [enc, GoT.enc] at hu; rcases hu with rfl | rfl | rfl | rfl <;> rfl) (by show TA Tryz.prog 32 4; infer_instance)
    (by rw [ltOf_name]; exact ⟨fun x => bLt_irrefl _, fun x y z h k => bLt_trans h k, fun x y z h k => by
      cases hh : bLt x.Name z.Name with
      | false => rfl
      | true =>
        cases h2 : bLt y.Name x.Name with
        | true => have := bLt_trans h2 hh; rw [this] at k; cases k
        | false => rw [bLt_total h h2] at hh; rw [hh] at k; cases k⟩)
    (by omega) (fun dk w' hw' x y => Services1_any (allG w') [] w' x y (allG_wd w'))
  rw [ltOf_name] at this
  exact this

/-- The services in the order of their names. -/
structure Sorted (m : List (ByteArray × Service)) (ys : List Service) : Prop where
  perm : ys.Perm (m.map (·.2))
  asc : ys.Pairwise fun a b => bLt b.Name a.Name = false

theorem Services_any (Γ : Gho) (S : List Res) (w : World) (b bm : Nat) (vs : Value) (m : List (ByteArray × Service)) (ws : List Waiter) (hm : m.length ≤ 64) (hw : Wd Γ (srvL b bm vs m ws ++ S) w) :
    Calls Tryz.prog 7 #[.pointer (some ⟨b, 0, none⟩)] w fun e w' => ∃ v ys, e = .returned v ∧ Sorted m ys ∧ Wd Γ (.own v 32 4 (ys.map enc) :: (srvL b bm vs m ws ++ S)) w' := by
  unfold srvL at *
  refine calls_of_W Tryz.func7 rfl rfl ?_
  repeat (first | (first | refine W_seq ?_ | refine W_block ?_ | refine W_region ?_ | refine W_skip ?_ | refine W_ret ?_ | refine W_exit ?_) | (first | refine L_nil ?_ | (apply L_plain; first | (apply L_go; first | refine lP ?_ | (refine lPg ?_; intro w hw)) | (apply L_mf; refine lMakeFunc ?_) | refine lY ?_) | (apply L_guarded; first | refine lGT ?_ | refine lGF ?_ | (apply L_go; refine lPG ?_) | refine lG ?_)))
  refine lCall ?_
  refine (Values_svc hw).mono ?_
  rintro e w ⟨bx, rfl, hw⟩
  refine ⟨_, rfl, ?_⟩
  repeat (first | (first | refine W_seq ?_ | refine W_block ?_ | refine W_region ?_ | refine W_skip ?_ | refine W_ret ?_ | refine W_exit ?_) | (first | refine L_nil ?_ | (apply L_plain; first | (apply L_go; first | refine lP ?_ | (refine lPg ?_; intro w hw)) | (apply L_mf; refine lMakeFunc ?_) | refine lY ?_) | (apply L_guarded; first | refine lGT ?_ | refine lGF ?_ | (apply L_go; refine lPG ?_) | refine lG ?_)))
  refine lCall ?_
  refine calls_of_W Tryz.func31 rfl rfl ?_
  repeat (first | (first | refine W_seq ?_ | refine W_block ?_ | refine W_region ?_ | refine W_skip ?_ | refine W_ret ?_ | refine W_exit ?_) | (first | refine L_nil ?_ | (apply L_plain; first | (apply L_go; first | refine lP ?_ | (refine lPg ?_; intro w hw)) | (apply L_mf; refine lMakeFunc ?_) | refine lY ?_) | (apply L_guarded; first | refine lGT ?_ | refine lGF ?_ | (apply L_go; refine lPG ?_) | refine lG ?_)))
  refine lCall ?_
  obtain ⟨en, clock, hw, he, hb, hc⟩ := Wd.openMp (hw.pull (i := 2) rfl)
  refine (Collect_svc (cap := [.pointer (some ⟨bx, 0, none⟩)]) (fst := []) (Values1_svc (bx := bx) (bm := bm) (l := m) he hb hc) (by omega) (hw.pull (i := 1) rfl)).mono ?_
  rintro e w ⟨v', xs, rfl, hV, hw⟩
  refine ⟨_, rfl, ?_⟩
  repeat (first | (first | refine W_seq ?_ | refine W_block ?_ | refine W_region ?_ | refine W_skip ?_ | refine W_ret ?_ | refine W_exit ?_) | (first | refine L_nil ?_ | (apply L_plain; first | (apply L_go; first | refine lP ?_ | (refine lPg ?_; intro w hw)) | (apply L_mf; refine lMakeFunc ?_) | refine lY ?_) | (apply L_guarded; first | refine lGT ?_ | refine lGF ?_ | (apply L_go; refine lPG ?_) | refine lG ?_)))
  refine lCall ?_
  refine (SortFunc_svc xs v' hw (i := 0) rfl (by have := hV.length_eq; simp at this; omega)).mono ?_
  rintro e w ⟨rfl, ys, hp, hs, hw⟩
  refine ⟨_, rfl, ?_⟩
  repeat (first | (first | refine W_seq ?_ | refine W_block ?_ | refine W_region ?_ | refine W_skip ?_ | refine W_ret ?_ | refine W_exit ?_) | (first | refine L_nil ?_ | (apply L_plain; first | (apply L_go; first | refine lP ?_ | (refine lPg ?_; intro w hw)) | (apply L_mf; refine lMakeFunc ?_) | refine lY ?_) | (apply L_guarded; first | refine lGT ?_ | refine lGF ?_ | (apply L_go; refine lPG ?_) | refine lG ?_)))
  refine ⟨_, rfl, _, rfl, ?_⟩
  repeat (first | (first | refine W_seq ?_ | refine W_block ?_ | refine W_region ?_ | refine W_skip ?_ | refine W_ret ?_ | refine W_exit ?_) | (first | refine L_nil ?_ | (apply L_plain; first | (apply L_go; first | refine lP ?_ | (refine lPg ?_; intro w hw)) | (apply L_mf; refine lMakeFunc ?_) | refine lY ?_) | (apply L_guarded; first | refine lGT ?_ | refine lGF ?_ | (apply L_go; refine lPG ?_) | refine lG ?_)))
  refine ⟨_, rfl, v', ys, rfl, ⟨hp.trans hV, hs⟩, ?_⟩
  have hw := Wd.closeMp (hw.pull (i := 2) rfl) he hb hc
  exact (((hw.pull (i := 1) rfl).dropAt 2).pull (i := 2) rfl).pull (i := 1) rfl
end Go.Proofs.YtekdbdhkpolooaaGreat
end
/- A new server; look-ups; a service is taken off. -/
section
open Go Mk
namespace Go.Proofs.YtekdbdhkpolooaaGreat
set_option maxHeartbeats 4000000
attribute [local irreducible] Calls

theorem New_any (Γ : Gho) (S : List Res) (w : World) (hw : Wd Γ S w) :
    Calls Tryz.prog 4 #[] w fun e w' => ∃ b bm, e = .returned (.pointer (some ⟨b, 0, none⟩)) ∧ Wd Γ (srvL b bm (.slice none 0 0) [] [] ++ S) w' := by
  refine calls_of_W Tryz.func4 rfl rfl ?_
  repeat (first | (first | refine W_seq ?_ | refine W_block ?_ | refine W_region ?_ | refine W_skip ?_ | refine W_ret ?_ | refine W_exit ?_) | (first | refine L_nil ?_ | (apply L_plain; first | (apply L_go; first | refine lP ?_ | (refine lPg ?_; intro w hw)) | (apply L_mf; refine lMakeFunc ?_) | refine lY ?_) | (apply L_guarded; first | refine lGT ?_ | refine lGF ?_ | (apply L_go; refine lPG ?_) | refine lG ?_)))
  refine lMakeMapS svcV ?_
  intro bm w hw
  repeat (first | (first | refine W_seq ?_ | refine W_block ?_ | refine W_region ?_ | refine W_skip ?_ | refine W_ret ?_ | refine W_exit ?_) | (first | refine L_nil ?_ | (apply L_plain; first | (apply L_go; first | refine lP ?_ | (refine lPg ?_; intro w hw)) | (apply L_mf; refine lMakeFunc ?_) | refine lY ?_) | (apply L_guarded; first | refine lGT ?_ | refine lGF ?_ | (apply L_go; refine lPG ?_) | refine lG ?_)))
  refine lBox ?_
  intro b w hw
  repeat (first | (first | refine W_seq ?_ | refine W_block ?_ | refine W_region ?_ | refine W_skip ?_ | refine W_ret ?_ | refine W_exit ?_) | (first | refine L_nil ?_ | (apply L_plain; first | (apply L_go; first | refine lP ?_ | (refine lPg ?_; intro w hw)) | (apply L_mf; refine lMakeFunc ?_) | refine lY ?_) | (apply L_guarded; first | refine lGT ?_ | refine lGF ?_ | (apply L_go; refine lPG ?_) | refine lG ?_)))
  refine ⟨_, rfl, b, bm, rfl, ?_⟩
  have hw := (Wd.addNil (a := none) (E := 34) (sz := 3) hw).pull (i := 2) rfl
  exact hw.pull (i := 2) rfl

def unErr (m : List (ByteArray × Service)) (name : ByteArray) (core : Int) : Int := match aGet m name with | none => 17 | some v => if v.Core = core then 0 else 8
def unM (m : List (ByteArray × Service)) (name : ByteArray) (core : Int) : List (ByteArray × Service) := if unErr m name core = 0 then aDel m name else m

theorem Unregister_any (Γ : Gho) (S : List Res) (w : World) (b bm : Nat) (vs : Value) (m : List (ByteArray × Service)) (ws : List Waiter) (name : ByteArray) (core : Int) (hw : Wd Γ (srvL b bm vs m ws ++ S) w) :
    Calls Tryz.prog 21 #[.pointer (some ⟨b, 0, none⟩), .string name, .int .i64 core] w fun e w' => e = .returned (.int .i64 (unErr m name core)) ∧ Wd Γ (srvL b bm vs (unM m name core) ws ++ S) w' := by
  unfold srvL at *
  refine calls_of_W Tryz.func21 rfl rfl ?_
  repeat (first | (first | refine W_seq ?_ | refine W_block ?_ | refine W_region ?_ | refine W_skip ?_ | refine W_ret ?_ | refine W_exit ?_) | (first | refine L_nil ?_ | (apply L_plain; first | (apply L_go; first | refine lP ?_ | (refine lPg ?_; intro w hw)) | (apply L_mf; refine lMakeFunc ?_) | refine lY ?_) | (apply L_guarded; first | refine lGT ?_ | refine lGF ?_ | (apply L_go; refine lPG ?_) | refine lG ?_)))
  refine lAlloc ?_
  intro be w hw
  refine lStore ?_
  intro w hw
  repeat (first | (first | refine W_seq ?_ | refine W_block ?_ | refine W_region ?_ | refine W_skip ?_ | refine W_ret ?_ | refine W_exit ?_) | (first | refine L_nil ?_ | (apply L_plain; first | (apply L_go; first | refine lP ?_ | (refine lPg ?_; intro w hw)) | (apply L_mf; refine lMakeFunc ?_) | refine lY ?_) | (apply L_guarded; first | refine lGT ?_ | refine lGF ?_ | (apply L_go; refine lPG ?_) | refine lG ?_)))
  refine W_cond rfl (fun h1 => ?_) (fun h1 => ?_)
  · repeat (first | (first | refine W_seq ?_ | refine W_block ?_ | refine W_region ?_ | refine W_skip ?_ | refine W_ret ?_ | refine W_exit ?_) | (first | refine L_nil ?_ | (apply L_plain; first | (apply L_go; first | refine lP ?_ | (refine lPg ?_; intro w hw)) | (apply L_mf; refine lMakeFunc ?_) | refine lY ?_) | (apply L_guarded; first | refine lGT ?_ | refine lGF ?_ | (apply L_go; refine lPG ?_) | refine lG ?_)))
    have h2 : aGet m name = none := by cases hg : aGet m name <;> simp [hg] at h1 ⊢
    refine ⟨_, rfl, ret_i rfl (by simp [unErr, h2]), ?_⟩
    rw [show unM m name core = m from by simp [unM, unErr, h2]]
    exact hw.drop
  obtain ⟨v, hv⟩ : ∃ v, aGet m name = some v := by cases hg : aGet m name <;> simp [hg] at h1 ⊢
  rw [hv] at hw
  repeat (first | (first | refine W_seq ?_ | refine W_block ?_ | refine W_region ?_ | refine W_skip ?_ | refine W_ret ?_ | refine W_exit ?_) | (first | refine L_nil ?_ | (apply L_plain; first | (apply L_go; first | refine lP ?_ | (refine lPg ?_; intro w hw)) | (apply L_mf; refine lMakeFunc ?_) | refine lY ?_) | (apply L_guarded; first | refine lGT ?_ | refine lGF ?_ | (apply L_go; refine lPG ?_) | refine lG ?_)))
  refine W_cond rfl (fun h2 => ?_) (fun h2 => ?_)
  · repeat (first | (first | refine W_seq ?_ | refine W_block ?_ | refine W_region ?_ | refine W_skip ?_ | refine W_ret ?_ | refine W_exit ?_) | (first | refine L_nil ?_ | (apply L_plain; first | (apply L_go; first | refine lP ?_ | (refine lPg ?_; intro w hw)) | (apply L_mf; refine lMakeFunc ?_) | refine lY ?_) | (apply L_guarded; first | refine lGT ?_ | refine lGF ?_ | (apply L_go; refine lPG ?_) | refine lG ?_)))
    have h2 : ¬ v.Core = core := of_decide_eq_true h2
    refine ⟨_, rfl, ret_i rfl (by simp [unErr, hv, h2]), ?_⟩
    rw [show unM m name core = m from by simp [unM, unErr, hv, h2]]
    exact hw.drop
  have h2 : v.Core = core := by simpa using h2
  repeat (first | (first | refine W_seq ?_ | refine W_block ?_ | refine W_region ?_ | refine W_skip ?_ | refine W_ret ?_ | refine W_exit ?_) | (first | refine L_nil ?_ | (apply L_plain; first | (apply L_go; first | refine lP ?_ | (refine lPg ?_; intro w hw)) | (apply L_mf; refine lMakeFunc ?_) | refine lY ?_) | (apply L_guarded; first | refine lGT ?_ | refine lGF ?_ | (apply L_go; refine lPG ?_) | refine lG ?_)))
  refine lDelS ?_
  intro w hw
  repeat (first | (first | refine W_seq ?_ | refine W_block ?_ | refine W_region ?_ | refine W_skip ?_ | refine W_ret ?_ | refine W_exit ?_) | (first | refine L_nil ?_ | (apply L_plain; first | (apply L_go; first | refine lP ?_ | (refine lPg ?_; intro w hw)) | (apply L_mf; refine lMakeFunc ?_) | refine lY ?_) | (apply L_guarded; first | refine lGT ?_ | refine lGF ?_ | (apply L_go; refine lPG ?_) | refine lG ?_)))
  refine ⟨_, rfl, ret_i rfl (by simp [unErr, hv, h2]), ?_⟩
  rw [show unM m name core = aDel m name from by simp [unM, unErr, hv, h2]]
  exact hw.drop

def lkErr (m : List (ByteArray × Service)) (name : ByteArray) : Int := if (aGet m name).isSome then 0 else 17
theorem Lookup_any (Γ : Gho) (S : List Res) (w : World) (b bm : Nat) (vs : Value) (m : List (ByteArray × Service)) (ws : List Waiter) (name : ByteArray) (hw : Wd Γ (srvL b bm vs m ws ++ S) w) :
    Calls Tryz.prog 23 #[.pointer (some ⟨b, 0, none⟩), .string name] w fun e w' => e = .returned (.tuple #[svcV ((aGet m name).getD default), .int .i64 (lkErr m name)]) ∧ Wd Γ (srvL b bm vs m ws ++ S) w' := by
  unfold srvL at *
  refine calls_of_WC Tryz.func23 rfl rfl ?_
  repeat (first | (first | refine W_seq ?_ | refine W_block ?_ | refine W_region ?_ | refine W_skip ?_ | refine W_ret ?_ | refine W_exit ?_) | (first | refine L_nil ?_ | (apply L_plain; first | (apply L_go; first | refine lP ?_ | (refine lPg ?_; intro w hw)) | (apply L_mf; refine lMakeFunc ?_) | refine lY ?_) | (apply L_guarded; first | refine lGT ?_ | refine lGF ?_ | (apply L_go; refine lPG ?_) | refine lG ?_)) | (refine lAlloc ?_; intro _ w hw) | (refine lBox ?_; intro _ w hw) | (refine lStore ?_; intro w hw))
  refine W_cond rfl (fun h1 => ?_) (fun h1 => ?_)
  · repeat (first | (first | refine W_seq ?_ | refine W_block ?_ | refine W_region ?_ | refine W_skip ?_ | refine W_ret ?_ | refine W_exit ?_) | (first | refine L_nil ?_ | (apply L_plain; first | (apply L_go; first | refine lP ?_ | (refine lPg ?_; intro w hw)) | (apply L_mf; refine lMakeFunc ?_) | refine lY ?_) | (apply L_guarded; first | refine lGT ?_ | refine lGF ?_ | (apply L_go; refine lPG ?_) | refine lG ?_)) | (refine lAlloc ?_; intro _ w hw) | (refine lBox ?_; intro _ w hw) | (refine lStore ?_; intro w hw))
    have h2 : aGet m name = none := by cases hg : aGet m name <;> simp [hg] at h1 ⊢
    refine ⟨[svcV ((aGet m name).getD default), .int .i64 (lkErr m name)], ⟨?_, ?_, trivial⟩, rfl, hw.drop.drop⟩
    · rw [h2]; exact resC (i := 1) hw rfl rfl rfl
    · simp [lkErr, h2]; rfl
  · have h2 : (aGet m name).isSome = true := by simpa using h1
    repeat (first | (first | refine W_seq ?_ | refine W_block ?_ | refine W_region ?_ | refine W_skip ?_ | refine W_ret ?_ | refine W_exit ?_) | (first | refine L_nil ?_ | (apply L_plain; first | (apply L_go; first | refine lP ?_ | (refine lPg ?_; intro w hw)) | (apply L_mf; refine lMakeFunc ?_) | refine lY ?_) | (apply L_guarded; first | refine lGT ?_ | refine lGF ?_ | (apply L_go; refine lPG ?_) | refine lG ?_)) | (refine lAlloc ?_; intro _ w hw) | (refine lBox ?_; intro _ w hw) | (refine lStore ?_; intro w hw))
    refine ⟨[svcV ((aGet m name).getD default), .int .i64 (lkErr m name)], ⟨?_, ?_, trivial⟩, rfl, hw.drop.drop⟩
    · exact resC (i := 1) hw rfl rfl rfl
    · simp [lkErr, h2]; rfl

def awErr (m : List (ByteArray × Service)) (ws : List Waiter) (x : Waiter) : Int :=
  if nameS x.Name = false then 63 else if (!coreS x.Core || decide (x.Token ≤ 0)) = true then 1 else if (ws.findIdx? (isW x.Token x.Core)).isSome then 56 else if (aGet m x.Name).isNone ∧ ws.length = 64 then 15 else 0
def awW (m : List (ByteArray × Service)) (ws : List Waiter) (x : Waiter) : List Waiter := if awErr m ws x = 0 ∧ (aGet m x.Name).isNone then ws ++ [x] else ws
def awF (m : List (ByteArray × Service)) (ws : List Waiter) (x : Waiter) : Bool := decide (awErr m ws x = 0) && (aGet m x.Name).isSome
def awS (m : List (ByteArray × Service)) (ws : List Waiter) (x : Waiter) : Service := if awErr m ws x = 0 then (aGet m x.Name).getD default else default
theorem ixZ_ge {o : Option Nat} : decide (0 ≤ ixZ o) = o.isSome := by cases o <;> simp [ixZ]

theorem Await_any (Γ : Gho) (S : List Res) (w : World) (b bm : Nat) (vs : Value) (m : List (ByteArray × Service)) (ws : List Waiter) (x : Waiter) [SB x.Name] (hws : ws.length ≤ 64) (hw : Wd Γ (srvL b bm vs m ws ++ S) w) :
    Calls Tryz.prog 25 #[.pointer (some ⟨b, 0, none⟩), .agg (enc x).toArray] w fun e w' => ∃ vs', e = .returned (.tuple #[svcV (awS m ws x), .bool (awF m ws x), .int .i64 (awErr m ws x)]) ∧ Wd Γ (srvL b bm vs' m (awW m ws x) ++ S) w' := by
  have hw0 := hw
  unfold srvL at hw
  obtain ⟨a, n, c, rfl, hn, hnc, hc⟩ := hw.own_shape (i := 2) rfl
  simp only [List.length_map] at hn
  refine calls_of_WC Tryz.func25 rfl rfl ?_
  repeat (first | (first | refine W_seq ?_ | refine W_block ?_ | refine W_region ?_ | refine W_skip ?_ | refine W_ret ?_ | refine W_exit ?_) | (first | refine L_nil ?_ | (apply L_plain; first | (apply L_go; first | refine lP ?_ | (refine lPg ?_; intro w hw)) | (apply L_mf; refine lMakeFunc ?_) | refine lY ?_) | (apply L_guarded; first | refine lGT ?_ | refine lGF ?_ | (apply L_go; refine lPG ?_) | refine lG ?_)))
  refine lBox ?_
  intro bx w hw
  refine lAlloc ?_
  intro br w hw
  repeat (first | (first | refine W_seq ?_ | refine W_block ?_ | refine W_region ?_ | refine W_skip ?_ | refine W_ret ?_ | refine W_exit ?_) | (first | refine L_nil ?_ | (apply L_plain; first | (apply L_go; first | refine lP ?_ | (refine lPg ?_; intro w hw)) | (apply L_mf; refine lMakeFunc ?_) | refine lY ?_) | (apply L_guarded; first | refine lGT ?_ | refine lGF ?_ | (apply L_go; refine lPG ?_) | refine lG ?_)))
  refine W_mix1 _ [_] [[],[],[],[],[],[],[],[],[],[],[0],[]] [[],[],[],[],[],[],[],[],[],[],[0],[]] hw.toEnd ?_
  repeat (first | refine mY ?_ | refine mP ?_ | refine mEndAt ?_ | refine mEnd0 ?_ | refine mEnd ?_)
  refine mStoreC ?_
  repeat (first | refine mY ?_ | refine mP ?_ | refine mEndAt ?_ | refine mEnd0 ?_ | refine mEnd ?_)
  intro w hw
  have hw := hw.toFront
  repeat (first | (first | refine W_seq ?_ | refine W_block ?_ | refine W_region ?_ | refine W_skip ?_ | refine W_ret ?_ | refine W_exit ?_) | (first | refine L_nil ?_ | (apply L_plain; first | (apply L_go; first | refine lP ?_ | (refine lPg ?_; intro w hw)) | (apply L_mf; refine lMakeFunc ?_) | refine lY ?_) | (apply L_guarded; first | refine lGT ?_ | refine lGF ?_ | (apply L_go; refine lPG ?_) | refine lG ?_)))
  have fin : ∀ {e : Int} {w} {S' : List Res}, awErr m ws x = e → e ≠ 0 → Wd Γ (S' ++ (srvL b bm (.slice a n c) m ws ++ S)) w → Wd Γ (srvL b bm (.slice a n c) m (awW m ws x) ++ S) w ∧ awF m ws x = false ∧ awS m ws x = default := fun h1 h2 h3 => by
    subst h1
    exact ⟨by rw [show awW m ws x = ws from by simp [awW, h2]]; exact h3.right, by simp [awF, h2], by simp [awS, h2]⟩
  refine W_cond rfl (fun h1 => ?_) (fun h1 => ?_)
  · have hE : awErr m ws x = 63 := by simp [awErr, show nameS x.Name = false from by simpa using h1]
    repeat (first | (first | refine W_seq ?_ | refine W_block ?_ | refine W_region ?_ | refine W_skip ?_ | refine W_ret ?_ | refine W_exit ?_) | (first | refine L_nil ?_ | (apply L_plain; first | (apply L_go; first | refine lP ?_ | (refine lPg ?_; intro w hw)) | (apply L_mf; refine lMakeFunc ?_) | refine lY ?_) | (apply L_guarded; first | refine lGT ?_ | refine lGF ?_ | (apply L_go; refine lPG ?_) | refine lG ?_)))
    refine W_cond_true rfl ?_
    repeat (first | (first | refine W_seq ?_ | refine W_block ?_ | refine W_region ?_ | refine W_skip ?_ | refine W_ret ?_ | refine W_exit ?_) | (first | refine L_nil ?_ | (apply L_plain; first | (apply L_go; first | refine lP ?_ | (refine lPg ?_; intro w hw)) | (apply L_mf; refine lMakeFunc ?_) | refine lY ?_) | (apply L_guarded; first | refine lGT ?_ | refine lGF ?_ | (apply L_go; refine lPG ?_) | refine lG ?_)) | (refine lAlloc ?_; intro _ w hw) | (refine lBox ?_; intro _ w hw) | (refine lStore ?_; intro w hw))
    obtain ⟨f1, f2, f3⟩ := fin (S' := [_, _]) hE (by decide) hw
    rw [f2, f3, hE]
    exact ⟨[svcV default, .bool false, .int .i64 63], ⟨resC (i := 0) hw rfl rfl rfl, rfl, rfl, trivial⟩, _, rfl, f1⟩
  have h1 : nameS x.Name = true := by simpa using h1
  repeat (first | (first | refine W_seq ?_ | refine W_block ?_ | refine W_region ?_ | refine W_skip ?_ | refine W_ret ?_ | refine W_exit ?_) | (first | refine L_nil ?_ | (apply L_plain; first | (apply L_go; first | refine lP ?_ | (refine lPg ?_; intro w hw)) | (apply L_mf; refine lMakeFunc ?_) | refine lY ?_) | (apply L_guarded; first | refine lGT ?_ | refine lGF ?_ | (apply L_go; refine lPG ?_) | refine lG ?_)))
  refine W_cond rfl (fun h2 => ?_) (fun h2 => ?_)
  · have h2 : (!coreS x.Core || decide (x.Token ≤ 0)) = true := h2
    have hE : awErr m ws x = 1 := by simp only [awErr, h1, h2]; simp
    repeat (first | (first | refine W_seq ?_ | refine W_block ?_ | refine W_region ?_ | refine W_skip ?_ | refine W_ret ?_ | refine W_exit ?_) | (first | refine L_nil ?_ | (apply L_plain; first | (apply L_go; first | refine lP ?_ | (refine lPg ?_; intro w hw)) | (apply L_mf; refine lMakeFunc ?_) | refine lY ?_) | (apply L_guarded; first | refine lGT ?_ | refine lGF ?_ | (apply L_go; refine lPG ?_) | refine lG ?_)))
    refine W_cond_true rfl ?_
    repeat (first | (first | refine W_seq ?_ | refine W_block ?_ | refine W_region ?_ | refine W_skip ?_ | refine W_ret ?_ | refine W_exit ?_) | (first | refine L_nil ?_ | (apply L_plain; first | (apply L_go; first | refine lP ?_ | (refine lPg ?_; intro w hw)) | (apply L_mf; refine lMakeFunc ?_) | refine lY ?_) | (apply L_guarded; first | refine lGT ?_ | refine lGF ?_ | (apply L_go; refine lPG ?_) | refine lG ?_)) | (refine lAlloc ?_; intro _ w hw) | (refine lBox ?_; intro _ w hw) | (refine lStore ?_; intro w hw))
    obtain ⟨f1, f2, f3⟩ := fin (S' := [_, _]) hE (by decide) hw
    rw [f2, f3, hE]
    exact ⟨[svcV default, .bool false, .int .i64 1], ⟨resC (i := 0) hw rfl rfl rfl, rfl, rfl, trivial⟩, _, rfl, f1⟩
  have h2 : (!coreS x.Core || decide (x.Token ≤ 0)) = false := h2
  repeat (first | (first | refine W_seq ?_ | refine W_block ?_ | refine W_region ?_ | refine W_skip ?_ | refine W_ret ?_ | refine W_exit ?_) | (first | refine L_nil ?_ | (apply L_plain; first | (apply L_go; first | refine lP ?_ | (refine lPg ?_; intro w hw)) | (apply L_mf; refine lMakeFunc ?_) | refine lY ?_) | (apply L_guarded; first | refine lGT ?_ | refine lGF ?_ | (apply L_go; refine lPG ?_) | refine lG ?_)))
  refine lCall ?_
  refine (waiter_any Γ ([Res.blk br _, Res.blk bx _] ++ S) w b bm _ m ws x.Token x.Core (Wd.swapApp (A := [_, _]) hw)).mono ?_
  rintro e w ⟨rfl, hw⟩
  have hw := Wd.swapApp (B := [_, _]) hw
  refine ⟨_, rfl, ?_⟩
  repeat (first | (first | refine W_seq ?_ | refine W_block ?_ | refine W_region ?_ | refine W_skip ?_ | refine W_ret ?_ | refine W_exit ?_) | (first | refine L_nil ?_ | (apply L_plain; first | (apply L_go; first | refine lP ?_ | (refine lPg ?_; intro w hw)) | (apply L_mf; refine lMakeFunc ?_) | refine lY ?_) | (apply L_guarded; first | refine lGT ?_ | refine lGF ?_ | (apply L_go; refine lPG ?_) | refine lG ?_)))
  refine W_cond rfl (fun h3 => ?_) (fun h3 => ?_)
  · rw [ixZ_ge] at h3
    have hE : awErr m ws x = 56 := by simp only [awErr, h1, h2, h3]; simp
    repeat (first | (first | refine W_seq ?_ | refine W_block ?_ | refine W_region ?_ | refine W_skip ?_ | refine W_ret ?_ | refine W_exit ?_) | (first | refine L_nil ?_ | (apply L_plain; first | (apply L_go; first | refine lP ?_ | (refine lPg ?_; intro w hw)) | (apply L_mf; refine lMakeFunc ?_) | refine lY ?_) | (apply L_guarded; first | refine lGT ?_ | refine lGF ?_ | (apply L_go; refine lPG ?_) | refine lG ?_)))
    refine W_cond_true rfl ?_
    repeat (first | (first | refine W_seq ?_ | refine W_block ?_ | refine W_region ?_ | refine W_skip ?_ | refine W_ret ?_ | refine W_exit ?_) | (first | refine L_nil ?_ | (apply L_plain; first | (apply L_go; first | refine lP ?_ | (refine lPg ?_; intro w hw)) | (apply L_mf; refine lMakeFunc ?_) | refine lY ?_) | (apply L_guarded; first | refine lGT ?_ | refine lGF ?_ | (apply L_go; refine lPG ?_) | refine lG ?_)) | (refine lAlloc ?_; intro _ w hw) | (refine lBox ?_; intro _ w hw) | (refine lStore ?_; intro w hw))
    obtain ⟨f1, f2, f3⟩ := fin (S' := [_, _]) hE (by decide) hw
    rw [f2, f3, hE]
    exact ⟨[svcV default, .bool false, .int .i64 56], ⟨resC (i := 0) hw rfl rfl rfl, rfl, rfl, trivial⟩, _, rfl, f1⟩
  rw [ixZ_ge] at h3
  repeat (first | (first | refine W_seq ?_ | refine W_block ?_ | refine W_region ?_ | refine W_skip ?_ | refine W_ret ?_ | refine W_exit ?_) | (first | refine L_nil ?_ | (apply L_plain; first | (apply L_go; first | refine lP ?_ | (refine lPg ?_; intro w hw)) | (apply L_mf; refine lMakeFunc ?_) | refine lY ?_) | (apply L_guarded; first | refine lGT ?_ | refine lGF ?_ | (apply L_go; refine lPG ?_) | refine lG ?_)))
  unfold srvL at hw
  repeat (first | (first | refine W_seq ?_ | refine W_block ?_ | refine W_region ?_ | refine W_skip ?_ | refine W_ret ?_ | refine W_exit ?_) | (first | refine L_nil ?_ | (apply L_plain; first | (apply L_go; first | refine lP ?_ | (refine lPg ?_; intro w hw)) | (apply L_mf; refine lMakeFunc ?_) | refine lY ?_) | (apply L_guarded; first | refine lGT ?_ | refine lGF ?_ | (apply L_go; refine lPG ?_) | refine lG ?_)))
  refine W_cond rfl (fun h4 => ?_) (fun h4 => ?_)
  · have h4 : (!(aGet m x.Name).isSome && decide ((n : Int) = 64)) = true := h4
    have hE : awErr m ws x = 15 := by
      simp only [Bool.and_eq_true, Bool.not_eq_true', decide_eq_true_eq] at h4
      have h5 : (aGet m x.Name).isNone = true := by rw [← Option.not_isSome]; simp [h4.1]
      simp only [awErr, h1, h2, h3]
      simp [h5]; omega
    repeat (first | (first | refine W_seq ?_ | refine W_block ?_ | refine W_region ?_ | refine W_skip ?_ | refine W_ret ?_ | refine W_exit ?_) | (first | refine L_nil ?_ | (apply L_plain; first | (apply L_go; first | refine lP ?_ | (refine lPg ?_; intro w hw)) | (apply L_mf; refine lMakeFunc ?_) | refine lY ?_) | (apply L_guarded; first | refine lGT ?_ | refine lGF ?_ | (apply L_go; refine lPG ?_) | refine lG ?_)))
    refine W_cond_true rfl ?_
    repeat (first | (first | refine W_seq ?_ | refine W_block ?_ | refine W_region ?_ | refine W_skip ?_ | refine W_ret ?_ | refine W_exit ?_) | (first | refine L_nil ?_ | (apply L_plain; first | (apply L_go; first | refine lP ?_ | (refine lPg ?_; intro w hw)) | (apply L_mf; refine lMakeFunc ?_) | refine lY ?_) | (apply L_guarded; first | refine lGT ?_ | refine lGF ?_ | (apply L_go; refine lPG ?_) | refine lG ?_)) | (refine lAlloc ?_; intro _ w hw) | (refine lBox ?_; intro _ w hw) | (refine lStore ?_; intro w hw))
    obtain ⟨f1, f2, f3⟩ := fin (S' := [_, _]) hE (by decide) hw
    rw [f2, f3, hE]
    exact ⟨[svcV default, .bool false, .int .i64 15], ⟨resC (i := 0) hw rfl rfl rfl, rfl, rfl, trivial⟩, _, rfl, f1⟩
  have h4 : (!(aGet m x.Name).isSome && decide ((n : Int) = 64)) = false := h4
  have hE : awErr m ws x = 0 := by
    simp only [awErr, h1, h2, h3]
    cases hg : (aGet m x.Name).isSome with
    | true => have : (aGet m x.Name).isNone = false := by rw [← Option.not_isSome, hg]; rfl
              simp [this]
    | false =>
      rw [hg] at h4
      have : ¬ (n : Int) = 64 := by simpa using h4
      simp; intro; omega
  repeat (first | (first | refine W_seq ?_ | refine W_block ?_ | refine W_region ?_ | refine W_skip ?_ | refine W_ret ?_ | refine W_exit ?_) | (first | refine L_nil ?_ | (apply L_plain; first | (apply L_go; first | refine lP ?_ | (refine lPg ?_; intro w hw)) | (apply L_mf; refine lMakeFunc ?_) | refine lY ?_) | (apply L_guarded; first | refine lGT ?_ | refine lGF ?_ | (apply L_go; refine lPG ?_) | refine lG ?_)))
  refine W_cond rfl (fun h5 => ?_) (fun h5 => ?_)
  · have h5 : (aGet m x.Name).isSome = false := by simpa using h5
    refine W_mix2 [_, _, _] _ [[],[],[],[],[],[],[1],[0],[],[],[0]] [[],[],[],[],[0],[],[1],[0,1],[],[],[0]] [[61], [60]] (hw.ps [3]) ?_
    repeat (first | refine mY ?_ | refine mP ?_ | refine mEndAt ?_ | refine mEnd0 ?_ | refine mEnd ?_)
    refine mBuild [enc x] ?_
    refine mApp ?_
    repeat (first | refine mY ?_ | refine mP ?_ | refine mEndAt ?_ | refine mEnd0 ?_ | refine mEnd ?_)
    refine mStoreV ?_
    refine mEnd fun w g hw => ?_
    have hw : Wd Γ (Res.blk br _ :: Res.blk bx _ :: .blk b (.cells #[.map (some bm), g 61] 48) :: Res.ms svcV bm m :: .own (g 61) 34 3 (ws.map enc ++ [enc x]) :: S) w := (Wd.dropEnd hw).ps [4, 1, 4, 4, 4]
    rw [show ws.map enc ++ [enc x] = (ws ++ [x]).map enc from by simp] at hw
    generalize g 61 = vs' at hw
    repeat (first | (first | refine W_seq ?_ | refine W_block ?_ | refine W_region ?_ | refine W_skip ?_ | refine W_ret ?_ | refine W_exit ?_) | (first | refine L_nil ?_ | (apply L_plain; first | (apply L_go; first | refine lP ?_ | (refine lPg ?_; intro w hw)) | (apply L_mf; refine lMakeFunc ?_) | refine lY ?_) | (apply L_guarded; first | refine lGT ?_ | refine lGF ?_ | (apply L_go; refine lPG ?_) | refine lG ?_)))
    refine W_cond_false rfl ?_
    repeat (first | (first | refine W_seq ?_ | refine W_block ?_ | refine W_region ?_ | refine W_skip ?_ | refine W_ret ?_ | refine W_exit ?_) | (first | refine L_nil ?_ | (apply L_plain; first | (apply L_go; first | refine lP ?_ | (refine lPg ?_; intro w hw)) | (apply L_mf; refine lMakeFunc ?_) | refine lY ?_) | (apply L_guarded; first | refine lGT ?_ | refine lGF ?_ | (apply L_go; refine lPG ?_) | refine lG ?_)) | (refine lAlloc ?_; intro _ w hw) | (refine lBox ?_; intro _ w hw) | (refine lStore ?_; intro w hw))
    have h6 : aGet m x.Name = none := by simpa using h5
    refine ⟨[svcV default, .bool false, .int .i64 0], ⟨?_, by show Value.bool (aGet m x.Name).isSome = _; rw [h6]; rfl, rfl, trivial⟩, vs', ?_, ?_⟩
    · rw [h6] at hw
      exact resC (i := 0) hw rfl rfl rfl
    · rw [show awS m ws x = default from by simp [awS, h6], show awF m ws x = false from by simp [awF, h6], hE]; rfl
    · rw [show awW m ws x = ws ++ [x] from by simp [awW, hE, h6]]
      exact hw.drop.drop
  · have h5 : (aGet m x.Name).isSome = true := by simpa using h5
    repeat (first | (first | refine W_seq ?_ | refine W_block ?_ | refine W_region ?_ | refine W_skip ?_ | refine W_ret ?_ | refine W_exit ?_) | (first | refine L_nil ?_ | (apply L_plain; first | (apply L_go; first | refine lP ?_ | (refine lPg ?_; intro w hw)) | (apply L_mf; refine lMakeFunc ?_) | refine lY ?_) | (apply L_guarded; first | refine lGT ?_ | refine lGF ?_ | (apply L_go; refine lPG ?_) | refine lG ?_)))
    refine W_cond_false rfl ?_
    repeat (first | (first | refine W_seq ?_ | refine W_block ?_ | refine W_region ?_ | refine W_skip ?_ | refine W_ret ?_ | refine W_exit ?_) | (first | refine L_nil ?_ | (apply L_plain; first | (apply L_go; first | refine lP ?_ | (refine lPg ?_; intro w hw)) | (apply L_mf; refine lMakeFunc ?_) | refine lY ?_) | (apply L_guarded; first | refine lGT ?_ | refine lGF ?_ | (apply L_go; refine lPG ?_) | refine lG ?_)) | (refine lAlloc ?_; intro _ w hw) | (refine lBox ?_; intro _ w hw) | (refine lStore ?_; intro w hw))
    obtain ⟨v, hv⟩ := Option.isSome_iff_exists.1 h5
    refine ⟨[svcV v, .bool true, .int .i64 0], ⟨?_, ?_, rfl, trivial⟩, .slice a n c, ?_, ?_⟩
    · rw [hv] at hw
      exact resC (i := 0) hw rfl rfl rfl
    · show Value.bool (aGet m x.Name).isSome = _
      rw [h5]
    · rw [show awS m ws x = v from by simp [awS, hE, hv], show awF m ws x = true from by simp [awF, hE, hv], hE]; rfl
    · rw [show awW m ws x = ws from by simp [awW, hv]]
      exact hw.drop.drop
end Go.Proofs.YtekdbdhkpolooaaGreat
end
/- The list of waiters: copied, one taken out. -/
section
open Go Mk
namespace Go.Proofs.YtekdbdhkpolooaaGreat
set_option maxHeartbeats 4000000
attribute [local irreducible] Calls

theorem Clone_wtr {Γ : Gho} {S : List Res} {w : World} {v : Value} {xs : List Waiter} (hw : Wd Γ S w) (hr : RdS Γ S v 3 (xs.map enc)) (hN : xs.length ≤ 1000000) :
    Calls Tryz.prog 35 #[v] w fun e w' => ∃ v', e = .returned v' ∧ Wd Γ (.own v' 34 3 (xs.map enc) :: S) w' := by
  obtain ⟨a, n, c, rfl, hn, hnc, hc⟩ := hr.shape
  simp only [List.length_map] at hn
  refine calls_of_W Tryz.func35 rfl rfl ?_
  repeat (first | (first | refine W_seq ?_ | refine W_block ?_ | refine W_region ?_ | refine W_skip ?_ | refine W_ret ?_ | refine W_exit ?_) | (first | refine L_nil ?_ | (apply L_plain; first | (apply L_go; first | refine lP ?_ | (refine lPg ?_; intro w hw)) | (apply L_mf; refine lMakeFunc ?_) | refine lY ?_) | (apply L_guarded; first | refine lGT ?_ | refine lGF ?_ | (apply L_go; refine lPG ?_) | refine lG ?_)))
  refine W_cond rfl (fun h => ?_) (fun h => ?_)
  · repeat (first | (first | refine W_seq ?_ | refine W_block ?_ | refine W_region ?_ | refine W_skip ?_ | refine W_ret ?_ | refine W_exit ?_) | (first | refine L_nil ?_ | (apply L_plain; first | (apply L_go; first | refine lP ?_ | (refine lPg ?_; intro w hw)) | (apply L_mf; refine lMakeFunc ?_) | refine lY ?_) | (apply L_guarded; first | refine lGT ?_ | refine lGF ?_ | (apply L_go; refine lPG ?_) | refine lG ?_)))
    have hx : xs = [] := by
      cases a with
      | none =>
        cases xs with
        | nil => rfl
        | cons x xs => have := (hr.rd hw).at_ (by simp); cases this
      | some a => cases h
    subst hx
    exact ⟨_, rfl, _, rfl, Wd.addNil hw⟩
  · repeat (first | (first | refine W_seq ?_ | refine W_block ?_ | refine W_region ?_ | refine W_skip ?_ | refine W_ret ?_ | refine W_exit ?_) | (first | refine L_nil ?_ | (apply L_plain; first | (apply L_go; first | refine lP ?_ | (refine lPg ?_; intro w hw)) | (apply L_mf; refine lMakeFunc ?_) | refine lY ?_) | (apply L_guarded; first | refine lGT ?_ | refine lGF ?_ | (apply L_go; refine lPG ?_) | refine lG ?_)))
    refine lBuildSlice [] ?_
    intro a2 w hw
    repeat (first | (first | refine W_seq ?_ | refine W_block ?_ | refine W_region ?_ | refine W_skip ?_ | refine W_ret ?_ | refine W_exit ?_) | (first | refine L_nil ?_ | (apply L_plain; first | (apply L_go; first | refine lP ?_ | (refine lPg ?_; intro w hw)) | (apply L_mf; refine lMakeFunc ?_) | refine lY ?_) | (apply L_guarded; first | refine lGT ?_ | refine lGF ?_ | (apply L_go; refine lPG ?_) | refine lG ?_)))
    refine lApp (i := 0) (rows2 := xs.map enc) ?_ ((RdS.cons hr).rd hw) rfl rfl hw rfl (encs_one xs) (by simpa using hn)
    intro v' w hw
    repeat (first | (first | refine W_seq ?_ | refine W_block ?_ | refine W_region ?_ | refine W_skip ?_ | refine W_ret ?_ | refine W_exit ?_) | (first | refine L_nil ?_ | (apply L_plain; first | (apply L_go; first | refine lP ?_ | (refine lPg ?_; intro w hw)) | (apply L_mf; refine lMakeFunc ?_) | refine lY ?_) | (apply L_guarded; first | refine lGT ?_ | refine lGF ?_ | (apply L_go; refine lPG ?_) | refine lG ?_)))
    exact ⟨_, rfl, v', rfl, by simpa using hw⟩

theorem Delete_wtr {Γ : Gho} {S : List Res} {w : World} {v : Value} {xs : List Waiter} (k : Nat) (hw : Wd Γ (.own v 34 3 (xs.map enc) :: S) w) (hk : k < xs.length) (hN : xs.length ≤ 1000000) :
    Calls Tryz.prog 54 #[v, .int .i64 k, .int .i64 (k + 1 : Nat)] w fun e w' => ∃ v', e = .returned v' ∧ Wd Γ (.own v' 34 3 ((xs.eraseIdx k).map enc) :: S) w' := by
  obtain ⟨a, n, c, rfl, hn, hnc, hc⟩ := hw.own_shape (i := 0) rfl
  simp only [List.length_map] at hn
  refine calls_of_W Tryz.func54 rfl rfl ?_
  repeat (first | (first | refine W_seq ?_ | refine W_block ?_ | refine W_region ?_ | refine W_skip ?_ | refine W_ret ?_ | refine W_exit ?_) | (first | refine L_nil ?_ | (apply L_plain; first | (apply L_go; first | refine lP ?_ | (refine lPg ?_; intro w hw)) | (apply L_mf; refine lMakeFunc ?_) | refine lY ?_) | (apply L_guarded; first | refine lGT ?_ | refine lGF ?_ | (apply L_go; refine lPG ?_) | refine lG ?_)))
  refine W_cond_false (by simp [ev, putO, upd]; omega) ?_
  repeat (first | (first | refine W_seq ?_ | refine W_block ?_ | refine W_region ?_ | refine W_skip ?_ | refine W_ret ?_ | refine W_exit ?_) | (first | refine L_nil ?_ | (apply L_plain; first | (apply L_go; first | refine lP ?_ | (refine lPg ?_; intro w hw)) | (apply L_mf; refine lMakeFunc ?_) | refine lY ?_) | (apply L_guarded; first | refine lGT ?_ | refine lGF ?_ | (apply L_go; refine lPG ?_) | refine lG ?_)))
  refine W_mix1 [] (.own (.slice a n c) 34 3 (xs.map enc) :: S) [[],[],[],[],[],[],[0],[]] [[],[],[],[],[],[],[0],[]] hw ?_
  repeat (first | refine mY ?_ | refine mP ?_ | refine mEndAt ?_ | refine mEnd0 ?_ | refine mEnd ?_)
  refine mM (v := .slice a (k + (n - (k + 1))) c) (fun _ => .own (.slice a (k + (n - (k + 1))) c) 34 3 ((xs.eraseIdx k).map enc) :: S) (fun Y w g hw => ?_) ?_
  · have hrd := (Wd.own_rd (i := 0) hw rfl).cut (c := c) (by simp; omega) (k + 1) (by simp; omega)
    have hw2 := Wd.own_take (i := 0) (m := k) hw rfl (by omega)
    refine s_appendF (i := 0) hw2 rfl rfl rfl hrd (by simp; omega) (fun u hu => ?_) (by omega) (by omega) fun v' w' hfit hw' => ?_
    · have := List.all_eq_true.1 (encs_one (xs.drop (k + 1))) u
      rw [List.map_drop] at this
      exact this hu
    · have hv := hfit (by show k + (n - (k + 1)) ≤ c; omega)
      have hv : v' = .slice a (k + (n - (k + 1))) c := hv
      subst hv
      refine ⟨?_, fun _ => rfl⟩
      have he : (xs.map enc).take k ++ (xs.map enc).drop (k + 1) = (xs.eraseIdx k).map enc := by
        rw [← List.map_take, ← List.map_drop, ← List.map_append, List.eraseIdx_eq_take_drop_succ]
      rw [he] at hw'
      exact hw'
  repeat (first | refine mY ?_ | refine mP ?_ | refine mEndAt ?_ | refine mEnd0 ?_ | refine mEnd ?_)
  intro w hw
  have hw : Wd Γ (.own (.slice a (k + (n - (k + 1))) c) 34 3 ((xs.eraseIdx k).map enc) :: S ++ []) w := hw
  rw [List.append_nil] at hw
  repeat (first | (first | refine W_seq ?_ | refine W_block ?_ | refine W_region ?_ | refine W_skip ?_ | refine W_ret ?_ | refine W_exit ?_) | (first | refine L_nil ?_ | (apply L_plain; first | (apply L_go; first | refine lP ?_ | (refine lPg ?_; intro w hw)) | (apply L_mf; refine lMakeFunc ?_) | refine lY ?_) | (apply L_guarded; first | refine lGT ?_ | refine lGF ?_ | (apply L_go; refine lPG ?_) | refine lG ?_)))
  refine lClear ?_
  intro w hw
  repeat (first | (first | refine W_seq ?_ | refine W_block ?_ | refine W_region ?_ | refine W_skip ?_ | refine W_ret ?_ | refine W_exit ?_) | (first | refine L_nil ?_ | (apply L_plain; first | (apply L_go; first | refine lP ?_ | (refine lPg ?_; intro w hw)) | (apply L_mf; refine lMakeFunc ?_) | refine lY ?_) | (apply L_guarded; first | refine lGT ?_ | refine lGF ?_ | (apply L_go; refine lPG ?_) | refine lG ?_)))
  exact ⟨_, rfl, _, rfl, hw⟩

theorem Waiters_any (Γ : Gho) (S : List Res) (w : World) (b bm : Nat) (vs : Value) (m : List (ByteArray × Service)) (ws : List Waiter) (hws : ws.length ≤ 64) (hw : Wd Γ (srvL b bm vs m ws ++ S) w) :
    Calls Tryz.prog 10 #[.pointer (some ⟨b, 0, none⟩)] w fun e w' => ∃ v, e = .returned v ∧ Wd Γ (.own v 34 3 (ws.map enc) :: (srvL b bm vs m ws ++ S)) w' := by
  unfold srvL at *
  obtain ⟨a, n, c, rfl, hn, hnc, hc⟩ := hw.own_shape (i := 2) rfl
  refine calls_of_W Tryz.func10 rfl rfl ?_
  repeat (first | (first | refine W_seq ?_ | refine W_block ?_ | refine W_region ?_ | refine W_skip ?_ | refine W_ret ?_ | refine W_exit ?_) | (first | refine L_nil ?_ | (apply L_plain; first | (apply L_go; first | refine lP ?_ | (refine lPg ?_; intro w hw)) | (apply L_mf; refine lMakeFunc ?_) | refine lY ?_) | (apply L_guarded; first | refine lGT ?_ | refine lGF ?_ | (apply L_go; refine lPG ?_) | refine lG ?_)))
  refine lCall ?_
  refine (Clone_wtr hw (RdS.own (i := 2) hw rfl) (by omega)).mono ?_
  rintro e w ⟨v, rfl, hw⟩
  refine ⟨_, rfl, ?_⟩
  repeat (first | (first | refine W_seq ?_ | refine W_block ?_ | refine W_region ?_ | refine W_skip ?_ | refine W_ret ?_ | refine W_exit ?_) | (first | refine L_nil ?_ | (apply L_plain; first | (apply L_go; first | refine lP ?_ | (refine lPg ?_; intro w hw)) | (apply L_mf; refine lMakeFunc ?_) | refine lY ?_) | (apply L_guarded; first | refine lGT ?_ | refine lGF ?_ | (apply L_go; refine lPG ?_) | refine lG ?_)))
  exact ⟨_, rfl, _, rfl, hw⟩
end Go.Proofs.YtekdbdhkpolooaaGreat
end
