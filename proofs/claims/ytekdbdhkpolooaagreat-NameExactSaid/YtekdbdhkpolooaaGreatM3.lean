/- Texts of this proof, one behind another. -/
import Derived.Test.YtekdbdhkpolooaaGreatM2
import Derived.RangeFuncRecord
import Derived.Maps.RangeRun
import Derived.Shelf.SlSortCmp.NoneTotal
import Derived.Shelf.SlMaps.Clone
/- Calls of functions that change nothing and always answer the same: found as instances. -/
section
open Go
namespace Mk
attribute [local irreducible] Calls

theorem eq_nilB {s : ByteArray} : (s = ⟨#[]⟩) ↔ s.size = 0 := by
  constructor
  · intro h; rw [h]; rfl
  · intro h
    cases s with
    | mk d =>
      have : d.size = 0 := h
      rw [Array.eq_empty_of_size_eq_zero this]
theorem ne_nilB {s : ByteArray} : (s ≠ ⟨#[]⟩) ↔ 0 < s.size := by
  rw [Ne, eq_nilB]; omega

class PC (P : Program) (f : Nat) (args : List Value) (v : outParam Value) : Prop where
  h : ∀ w, Calls P f args.toArray w fun e w' => e = .returned v ∧ w' = w

section
variable {P : Program} {n : Nat} {ops : List Oper} {opa : Array Oper} {Γ : Gho} {S K : List Res} {Q : Fr → World → Prop} {QQ : Exit → Fr → World → Prop} {ρ : Fr} {w : World} {rest : List Oper} {wr tc stab : List (List Nat)} {i : Nat} {M : Nat → Fr → List Res}
variable {d : Option Tmp} {ty : TypeId} {pos : String} {es : Array Edge} {v : Value} {f : Nat} {args : List Operand} {tys : Array TypeId} {vs : List Value} {j dj : Nat} {want c : Bool} {g : Option (Nat × Bool)}

theorem s_pc [FnOk P f] [hp : PC P f vs v] (ha : EvL ρ args vs) : Step P ⟨d, .call { callee := .value (.func f), args := args.toArray, argTypes := tys }, ty, pos, es, g⟩ ρ w fun u w' => u = v ∧ w' = w :=
  s_call ha.eqA ((hp.h w).mono fun e w' ⟨h1, h2⟩ => ⟨v, h1, rfl, h2⟩)
theorem lP [FnOk P f] (h : L P n opa QQ rest (putO ρ d v) w) (ha : EvL ρ args vs := by first | exact EvL.nil | exact (EvL.cons (by first | exact (rfl : _ = Value.int _ _) | exact (rfl : _ = Value.bool _) | exact (rfl : _ = Value.string _) | exact (rfl : _ = Value.slice _ _ _) | exact (rfl : _ = Value.pointer _) | exact (rfl : _ = Value.agg _) | exact (rfl : _ = Value.map _) | exact (rfl : _ = Value.tuple _) | exact (rfl : _ = Value.func _ _ _) | exact (rfl : _ = gv _ _) | exact rfl) EvL.nil) | exact (EvL.cons (by first | exact (rfl : _ = Value.int _ _) | exact (rfl : _ = Value.bool _) | exact (rfl : _ = Value.string _) | exact (rfl : _ = Value.slice _ _ _) | exact (rfl : _ = Value.pointer _) | exact (rfl : _ = Value.agg _) | exact (rfl : _ = Value.map _) | exact (rfl : _ = Value.tuple _) | exact (rfl : _ = Value.func _ _ _) | exact (rfl : _ = gv _ _) | exact rfl) (EvL.cons (by first | exact (rfl : _ = Value.int _ _) | exact (rfl : _ = Value.bool _) | exact (rfl : _ = Value.string _) | exact (rfl : _ = Value.slice _ _ _) | exact (rfl : _ = Value.pointer _) | exact (rfl : _ = Value.agg _) | exact (rfl : _ = Value.map _) | exact (rfl : _ = Value.tuple _) | exact (rfl : _ = Value.func _ _ _) | exact (rfl : _ = gv _ _) | exact rfl) EvL.nil)) | exact (EvL.cons (by first | exact (rfl : _ = Value.int _ _) | exact (rfl : _ = Value.bool _) | exact (rfl : _ = Value.string _) | exact (rfl : _ = Value.slice _ _ _) | exact (rfl : _ = Value.pointer _) | exact (rfl : _ = Value.agg _) | exact (rfl : _ = Value.map _) | exact (rfl : _ = Value.tuple _) | exact (rfl : _ = Value.func _ _ _) | exact (rfl : _ = gv _ _) | exact rfl) (EvL.cons (by first | exact (rfl : _ = Value.int _ _) | exact (rfl : _ = Value.bool _) | exact (rfl : _ = Value.string _) | exact (rfl : _ = Value.slice _ _ _) | exact (rfl : _ = Value.pointer _) | exact (rfl : _ = Value.agg _) | exact (rfl : _ = Value.map _) | exact (rfl : _ = Value.tuple _) | exact (rfl : _ = Value.func _ _ _) | exact (rfl : _ = gv _ _) | exact rfl) (EvL.cons (by first | exact (rfl : _ = Value.int _ _) | exact (rfl : _ = Value.bool _) | exact (rfl : _ = Value.string _) | exact (rfl : _ = Value.slice _ _ _) | exact (rfl : _ = Value.pointer _) | exact (rfl : _ = Value.agg _) | exact (rfl : _ = Value.map _) | exact (rfl : _ = Value.tuple _) | exact (rfl : _ = Value.func _ _ _) | exact (rfl : _ = gv _ _) | exact rfl) EvL.nil))) | exact (EvL.cons (by first | exact (rfl : _ = Value.int _ _) | exact (rfl : _ = Value.bool _) | exact (rfl : _ = Value.string _) | exact (rfl : _ = Value.slice _ _ _) | exact (rfl : _ = Value.pointer _) | exact (rfl : _ = Value.agg _) | exact (rfl : _ = Value.map _) | exact (rfl : _ = Value.tuple _) | exact (rfl : _ = Value.func _ _ _) | exact (rfl : _ = gv _ _) | exact rfl) (EvL.cons (by first | exact (rfl : _ = Value.int _ _) | exact (rfl : _ = Value.bool _) | exact (rfl : _ = Value.string _) | exact (rfl : _ = Value.slice _ _ _) | exact (rfl : _ = Value.pointer _) | exact (rfl : _ = Value.agg _) | exact (rfl : _ = Value.map _) | exact (rfl : _ = Value.tuple _) | exact (rfl : _ = Value.func _ _ _) | exact (rfl : _ = gv _ _) | exact rfl) (EvL.cons (by first | exact (rfl : _ = Value.int _ _) | exact (rfl : _ = Value.bool _) | exact (rfl : _ = Value.string _) | exact (rfl : _ = Value.slice _ _ _) | exact (rfl : _ = Value.pointer _) | exact (rfl : _ = Value.agg _) | exact (rfl : _ = Value.map _) | exact (rfl : _ = Value.tuple _) | exact (rfl : _ = Value.func _ _ _) | exact (rfl : _ = gv _ _) | exact rfl) (EvL.cons (by first | exact (rfl : _ = Value.int _ _) | exact (rfl : _ = Value.bool _) | exact (rfl : _ = Value.string _) | exact (rfl : _ = Value.slice _ _ _) | exact (rfl : _ = Value.pointer _) | exact (rfl : _ = Value.agg _) | exact (rfl : _ = Value.map _) | exact (rfl : _ = Value.tuple _) | exact (rfl : _ = Value.func _ _ _) | exact (rfl : _ = gv _ _) | exact rfl) EvL.nil)))) | exact (EvL.cons (by first | exact (rfl : _ = Value.int _ _) | exact (rfl : _ = Value.bool _) | exact (rfl : _ = Value.string _) | exact (rfl : _ = Value.slice _ _ _) | exact (rfl : _ = Value.pointer _) | exact (rfl : _ = Value.agg _) | exact (rfl : _ = Value.map _) | exact (rfl : _ = Value.tuple _) | exact (rfl : _ = Value.func _ _ _) | exact (rfl : _ = gv _ _) | exact rfl) (EvL.cons (by first | exact (rfl : _ = Value.int _ _) | exact (rfl : _ = Value.bool _) | exact (rfl : _ = Value.string _) | exact (rfl : _ = Value.slice _ _ _) | exact (rfl : _ = Value.pointer _) | exact (rfl : _ = Value.agg _) | exact (rfl : _ = Value.map _) | exact (rfl : _ = Value.tuple _) | exact (rfl : _ = Value.func _ _ _) | exact (rfl : _ = gv _ _) | exact rfl) (EvL.cons (by first | exact (rfl : _ = Value.int _ _) | exact (rfl : _ = Value.bool _) | exact (rfl : _ = Value.string _) | exact (rfl : _ = Value.slice _ _ _) | exact (rfl : _ = Value.pointer _) | exact (rfl : _ = Value.agg _) | exact (rfl : _ = Value.map _) | exact (rfl : _ = Value.tuple _) | exact (rfl : _ = Value.func _ _ _) | exact (rfl : _ = gv _ _) | exact rfl) (EvL.cons (by first | exact (rfl : _ = Value.int _ _) | exact (rfl : _ = Value.bool _) | exact (rfl : _ = Value.string _) | exact (rfl : _ = Value.slice _ _ _) | exact (rfl : _ = Value.pointer _) | exact (rfl : _ = Value.agg _) | exact (rfl : _ = Value.map _) | exact (rfl : _ = Value.tuple _) | exact (rfl : _ = Value.func _ _ _) | exact (rfl : _ = gv _ _) | exact rfl) (EvL.cons (by first | exact (rfl : _ = Value.int _ _) | exact (rfl : _ = Value.bool _) | exact (rfl : _ = Value.string _) | exact (rfl : _ = Value.slice _ _ _) | exact (rfl : _ = Value.pointer _) | exact (rfl : _ = Value.agg _) | exact (rfl : _ = Value.map _) | exact (rfl : _ = Value.tuple _) | exact (rfl : _ = Value.func _ _ _) | exact (rfl : _ = gv _ _) | exact rfl) EvL.nil))))) | exact (EvL.cons (by first | exact (rfl : _ = Value.int _ _) | exact (rfl : _ = Value.bool _) | exact (rfl : _ = Value.string _) | exact (rfl : _ = Value.slice _ _ _) | exact (rfl : _ = Value.pointer _) | exact (rfl : _ = Value.agg _) | exact (rfl : _ = Value.map _) | exact (rfl : _ = Value.tuple _) | exact (rfl : _ = Value.func _ _ _) | exact (rfl : _ = gv _ _) | exact rfl) (EvL.cons (by first | exact (rfl : _ = Value.int _ _) | exact (rfl : _ = Value.bool _) | exact (rfl : _ = Value.string _) | exact (rfl : _ = Value.slice _ _ _) | exact (rfl : _ = Value.pointer _) | exact (rfl : _ = Value.agg _) | exact (rfl : _ = Value.map _) | exact (rfl : _ = Value.tuple _) | exact (rfl : _ = Value.func _ _ _) | exact (rfl : _ = gv _ _) | exact rfl) (EvL.cons (by first | exact (rfl : _ = Value.int _ _) | exact (rfl : _ = Value.bool _) | exact (rfl : _ = Value.string _) | exact (rfl : _ = Value.slice _ _ _) | exact (rfl : _ = Value.pointer _) | exact (rfl : _ = Value.agg _) | exact (rfl : _ = Value.map _) | exact (rfl : _ = Value.tuple _) | exact (rfl : _ = Value.func _ _ _) | exact (rfl : _ = gv _ _) | exact rfl) (EvL.cons (by first | exact (rfl : _ = Value.int _ _) | exact (rfl : _ = Value.bool _) | exact (rfl : _ = Value.string _) | exact (rfl : _ = Value.slice _ _ _) | exact (rfl : _ = Value.pointer _) | exact (rfl : _ = Value.agg _) | exact (rfl : _ = Value.map _) | exact (rfl : _ = Value.tuple _) | exact (rfl : _ = Value.func _ _ _) | exact (rfl : _ = gv _ _) | exact rfl) (EvL.cons (by first | exact (rfl : _ = Value.int _ _) | exact (rfl : _ = Value.bool _) | exact (rfl : _ = Value.string _) | exact (rfl : _ = Value.slice _ _ _) | exact (rfl : _ = Value.pointer _) | exact (rfl : _ = Value.agg _) | exact (rfl : _ = Value.map _) | exact (rfl : _ = Value.tuple _) | exact (rfl : _ = Value.func _ _ _) | exact (rfl : _ = gv _ _) | exact rfl) (EvL.cons (by first | exact (rfl : _ = Value.int _ _) | exact (rfl : _ = Value.bool _) | exact (rfl : _ = Value.string _) | exact (rfl : _ = Value.slice _ _ _) | exact (rfl : _ = Value.pointer _) | exact (rfl : _ = Value.agg _) | exact (rfl : _ = Value.map _) | exact (rfl : _ = Value.tuple _) | exact (rfl : _ = Value.func _ _ _) | exact (rfl : _ = gv _ _) | exact rfl) EvL.nil))))))) (hd : okDst n d = true := by exact rfl) (hp : PC P f vs v := by infer_instance) :
    L P n opa QQ (⟨d, .call { callee := .value (.func f), args := args.toArray, argTypes := tys }, ty, pos, es, none⟩ :: rest) ρ w :=
  L_step rfl hd ((s_pc (hp := hp) ha).mono fun u w' ⟨h1, h2⟩ => by subst h1; subst h2; exact h)
theorem lPG [FnOk P f] (h : L P n opa QQ rest (putO ρ d (gv c v)) w) (hj : (opa[j]?).bind (·.dst) = some dj := by exact rfl) (hjn : okDst n (some dj) = true := by exact rfl) (hc : GuardIs (ρ dj) want c := by first | exact GuardIs.t | exact GuardIs.f | exact GuardIs.gt | exact GuardIs.gf) (hd : okDst n d = true := by exact rfl) (ha : c = true → EvL ρ args vs := by intro hc; exact (by first | exact EvL.nil | exact (EvL.cons (by first | exact (rfl : _ = Value.int _ _) | exact (rfl : _ = Value.bool _) | exact (rfl : _ = Value.string _) | exact (rfl : _ = Value.slice _ _ _) | exact (rfl : _ = Value.pointer _) | exact (rfl : _ = Value.agg _) | exact (rfl : _ = Value.map _) | exact (rfl : _ = Value.tuple _) | exact (rfl : _ = Value.func _ _ _) | exact gvT hc rfl | exact gvT (andL hc) rfl | exact gvT (andL (andL hc)) rfl | exact gvT (andL (andL (andL hc))) rfl | exact rfl) EvL.nil) | exact (EvL.cons (by first | exact (rfl : _ = Value.int _ _) | exact (rfl : _ = Value.bool _) | exact (rfl : _ = Value.string _) | exact (rfl : _ = Value.slice _ _ _) | exact (rfl : _ = Value.pointer _) | exact (rfl : _ = Value.agg _) | exact (rfl : _ = Value.map _) | exact (rfl : _ = Value.tuple _) | exact (rfl : _ = Value.func _ _ _) | exact gvT hc rfl | exact gvT (andL hc) rfl | exact gvT (andL (andL hc)) rfl | exact gvT (andL (andL (andL hc))) rfl | exact rfl) (EvL.cons (by first | exact (rfl : _ = Value.int _ _) | exact (rfl : _ = Value.bool _) | exact (rfl : _ = Value.string _) | exact (rfl : _ = Value.slice _ _ _) | exact (rfl : _ = Value.pointer _) | exact (rfl : _ = Value.agg _) | exact (rfl : _ = Value.map _) | exact (rfl : _ = Value.tuple _) | exact (rfl : _ = Value.func _ _ _) | exact gvT hc rfl | exact gvT (andL hc) rfl | exact gvT (andL (andL hc)) rfl | exact gvT (andL (andL (andL hc))) rfl | exact rfl) EvL.nil)) | exact (EvL.cons (by first | exact (rfl : _ = Value.int _ _) | exact (rfl : _ = Value.bool _) | exact (rfl : _ = Value.string _) | exact (rfl : _ = Value.slice _ _ _) | exact (rfl : _ = Value.pointer _) | exact (rfl : _ = Value.agg _) | exact (rfl : _ = Value.map _) | exact (rfl : _ = Value.tuple _) | exact (rfl : _ = Value.func _ _ _) | exact gvT hc rfl | exact gvT (andL hc) rfl | exact gvT (andL (andL hc)) rfl | exact gvT (andL (andL (andL hc))) rfl | exact rfl) (EvL.cons (by first | exact (rfl : _ = Value.int _ _) | exact (rfl : _ = Value.bool _) | exact (rfl : _ = Value.string _) | exact (rfl : _ = Value.slice _ _ _) | exact (rfl : _ = Value.pointer _) | exact (rfl : _ = Value.agg _) | exact (rfl : _ = Value.map _) | exact (rfl : _ = Value.tuple _) | exact (rfl : _ = Value.func _ _ _) | exact gvT hc rfl | exact gvT (andL hc) rfl | exact gvT (andL (andL hc)) rfl | exact gvT (andL (andL (andL hc))) rfl | exact rfl) (EvL.cons (by first | exact (rfl : _ = Value.int _ _) | exact (rfl : _ = Value.bool _) | exact (rfl : _ = Value.string _) | exact (rfl : _ = Value.slice _ _ _) | exact (rfl : _ = Value.pointer _) | exact (rfl : _ = Value.agg _) | exact (rfl : _ = Value.map _) | exact (rfl : _ = Value.tuple _) | exact (rfl : _ = Value.func _ _ _) | exact gvT hc rfl | exact gvT (andL hc) rfl | exact gvT (andL (andL hc)) rfl | exact gvT (andL (andL (andL hc))) rfl | exact rfl) EvL.nil))) | exact (EvL.cons (by first | exact (rfl : _ = Value.int _ _) | exact (rfl : _ = Value.bool _) | exact (rfl : _ = Value.string _) | exact (rfl : _ = Value.slice _ _ _) | exact (rfl : _ = Value.pointer _) | exact (rfl : _ = Value.agg _) | exact (rfl : _ = Value.map _) | exact (rfl : _ = Value.tuple _) | exact (rfl : _ = Value.func _ _ _) | exact gvT hc rfl | exact gvT (andL hc) rfl | exact gvT (andL (andL hc)) rfl | exact gvT (andL (andL (andL hc))) rfl | exact rfl) (EvL.cons (by first | exact (rfl : _ = Value.int _ _) | exact (rfl : _ = Value.bool _) | exact (rfl : _ = Value.string _) | exact (rfl : _ = Value.slice _ _ _) | exact (rfl : _ = Value.pointer _) | exact (rfl : _ = Value.agg _) | exact (rfl : _ = Value.map _) | exact (rfl : _ = Value.tuple _) | exact (rfl : _ = Value.func _ _ _) | exact gvT hc rfl | exact gvT (andL hc) rfl | exact gvT (andL (andL hc)) rfl | exact gvT (andL (andL (andL hc))) rfl | exact rfl) (EvL.cons (by first | exact (rfl : _ = Value.int _ _) | exact (rfl : _ = Value.bool _) | exact (rfl : _ = Value.string _) | exact (rfl : _ = Value.slice _ _ _) | exact (rfl : _ = Value.pointer _) | exact (rfl : _ = Value.agg _) | exact (rfl : _ = Value.map _) | exact (rfl : _ = Value.tuple _) | exact (rfl : _ = Value.func _ _ _) | exact gvT hc rfl | exact gvT (andL hc) rfl | exact gvT (andL (andL hc)) rfl | exact gvT (andL (andL (andL hc))) rfl | exact rfl) (EvL.cons (by first | exact (rfl : _ = Value.int _ _) | exact (rfl : _ = Value.bool _) | exact (rfl : _ = Value.string _) | exact (rfl : _ = Value.slice _ _ _) | exact (rfl : _ = Value.pointer _) | exact (rfl : _ = Value.agg _) | exact (rfl : _ = Value.map _) | exact (rfl : _ = Value.tuple _) | exact (rfl : _ = Value.func _ _ _) | exact gvT hc rfl | exact gvT (andL hc) rfl | exact gvT (andL (andL hc)) rfl | exact gvT (andL (andL (andL hc))) rfl | exact rfl) EvL.nil)))) | exact (EvL.cons (by first | exact (rfl : _ = Value.int _ _) | exact (rfl : _ = Value.bool _) | exact (rfl : _ = Value.string _) | exact (rfl : _ = Value.slice _ _ _) | exact (rfl : _ = Value.pointer _) | exact (rfl : _ = Value.agg _) | exact (rfl : _ = Value.map _) | exact (rfl : _ = Value.tuple _) | exact (rfl : _ = Value.func _ _ _) | exact gvT hc rfl | exact gvT (andL hc) rfl | exact gvT (andL (andL hc)) rfl | exact gvT (andL (andL (andL hc))) rfl | exact rfl) (EvL.cons (by first | exact (rfl : _ = Value.int _ _) | exact (rfl : _ = Value.bool _) | exact (rfl : _ = Value.string _) | exact (rfl : _ = Value.slice _ _ _) | exact (rfl : _ = Value.pointer _) | exact (rfl : _ = Value.agg _) | exact (rfl : _ = Value.map _) | exact (rfl : _ = Value.tuple _) | exact (rfl : _ = Value.func _ _ _) | exact gvT hc rfl | exact gvT (andL hc) rfl | exact gvT (andL (andL hc)) rfl | exact gvT (andL (andL (andL hc))) rfl | exact rfl) (EvL.cons (by first | exact (rfl : _ = Value.int _ _) | exact (rfl : _ = Value.bool _) | exact (rfl : _ = Value.string _) | exact (rfl : _ = Value.slice _ _ _) | exact (rfl : _ = Value.pointer _) | exact (rfl : _ = Value.agg _) | exact (rfl : _ = Value.map _) | exact (rfl : _ = Value.tuple _) | exact (rfl : _ = Value.func _ _ _) | exact gvT hc rfl | exact gvT (andL hc) rfl | exact gvT (andL (andL hc)) rfl | exact gvT (andL (andL (andL hc))) rfl | exact rfl) (EvL.cons (by first | exact (rfl : _ = Value.int _ _) | exact (rfl : _ = Value.bool _) | exact (rfl : _ = Value.string _) | exact (rfl : _ = Value.slice _ _ _) | exact (rfl : _ = Value.pointer _) | exact (rfl : _ = Value.agg _) | exact (rfl : _ = Value.map _) | exact (rfl : _ = Value.tuple _) | exact (rfl : _ = Value.func _ _ _) | exact gvT hc rfl | exact gvT (andL hc) rfl | exact gvT (andL (andL hc)) rfl | exact gvT (andL (andL (andL hc))) rfl | exact rfl) (EvL.cons (by first | exact (rfl : _ = Value.int _ _) | exact (rfl : _ = Value.bool _) | exact (rfl : _ = Value.string _) | exact (rfl : _ = Value.slice _ _ _) | exact (rfl : _ = Value.pointer _) | exact (rfl : _ = Value.agg _) | exact (rfl : _ = Value.map _) | exact (rfl : _ = Value.tuple _) | exact (rfl : _ = Value.func _ _ _) | exact gvT hc rfl | exact gvT (andL hc) rfl | exact gvT (andL (andL hc)) rfl | exact gvT (andL (andL (andL hc))) rfl | exact rfl) EvL.nil))))) | exact (EvL.cons (by first | exact (rfl : _ = Value.int _ _) | exact (rfl : _ = Value.bool _) | exact (rfl : _ = Value.string _) | exact (rfl : _ = Value.slice _ _ _) | exact (rfl : _ = Value.pointer _) | exact (rfl : _ = Value.agg _) | exact (rfl : _ = Value.map _) | exact (rfl : _ = Value.tuple _) | exact (rfl : _ = Value.func _ _ _) | exact gvT hc rfl | exact gvT (andL hc) rfl | exact gvT (andL (andL hc)) rfl | exact gvT (andL (andL (andL hc))) rfl | exact rfl) (EvL.cons (by first | exact (rfl : _ = Value.int _ _) | exact (rfl : _ = Value.bool _) | exact (rfl : _ = Value.string _) | exact (rfl : _ = Value.slice _ _ _) | exact (rfl : _ = Value.pointer _) | exact (rfl : _ = Value.agg _) | exact (rfl : _ = Value.map _) | exact (rfl : _ = Value.tuple _) | exact (rfl : _ = Value.func _ _ _) | exact gvT hc rfl | exact gvT (andL hc) rfl | exact gvT (andL (andL hc)) rfl | exact gvT (andL (andL (andL hc))) rfl | exact rfl) (EvL.cons (by first | exact (rfl : _ = Value.int _ _) | exact (rfl : _ = Value.bool _) | exact (rfl : _ = Value.string _) | exact (rfl : _ = Value.slice _ _ _) | exact (rfl : _ = Value.pointer _) | exact (rfl : _ = Value.agg _) | exact (rfl : _ = Value.map _) | exact (rfl : _ = Value.tuple _) | exact (rfl : _ = Value.func _ _ _) | exact gvT hc rfl | exact gvT (andL hc) rfl | exact gvT (andL (andL hc)) rfl | exact gvT (andL (andL (andL hc))) rfl | exact rfl) (EvL.cons (by first | exact (rfl : _ = Value.int _ _) | exact (rfl : _ = Value.bool _) | exact (rfl : _ = Value.string _) | exact (rfl : _ = Value.slice _ _ _) | exact (rfl : _ = Value.pointer _) | exact (rfl : _ = Value.agg _) | exact (rfl : _ = Value.map _) | exact (rfl : _ = Value.tuple _) | exact (rfl : _ = Value.func _ _ _) | exact gvT hc rfl | exact gvT (andL hc) rfl | exact gvT (andL (andL hc)) rfl | exact gvT (andL (andL (andL hc))) rfl | exact rfl) (EvL.cons (by first | exact (rfl : _ = Value.int _ _) | exact (rfl : _ = Value.bool _) | exact (rfl : _ = Value.string _) | exact (rfl : _ = Value.slice _ _ _) | exact (rfl : _ = Value.pointer _) | exact (rfl : _ = Value.agg _) | exact (rfl : _ = Value.map _) | exact (rfl : _ = Value.tuple _) | exact (rfl : _ = Value.func _ _ _) | exact gvT hc rfl | exact gvT (andL hc) rfl | exact gvT (andL (andL hc)) rfl | exact gvT (andL (andL (andL hc))) rfl | exact rfl) (EvL.cons (by first | exact (rfl : _ = Value.int _ _) | exact (rfl : _ = Value.bool _) | exact (rfl : _ = Value.string _) | exact (rfl : _ = Value.slice _ _ _) | exact (rfl : _ = Value.pointer _) | exact (rfl : _ = Value.agg _) | exact (rfl : _ = Value.map _) | exact (rfl : _ = Value.tuple _) | exact (rfl : _ = Value.func _ _ _) | exact gvT hc rfl | exact gvT (andL hc) rfl | exact gvT (andL (andL hc)) rfl | exact gvT (andL (andL (andL hc))) rfl | exact rfl) EvL.nil)))))))) (hp : PC P f vs v := by infer_instance) :
    L P n opa QQ (⟨d, .call { callee := .value (.func f), args := args.toArray, argTypes := tys }, ty, pos, es, some (j, want)⟩ :: rest) ρ w :=
  L_guard rfl hj hjn hc hd (fun ht => s_pc (hp := hp) (ha ht)) h
theorem qP [FnOk P f] (h : Qw P n ops Γ S Q rest (putO ρ d v)) (ha : EvL ρ args vs := by first | exact EvL.nil | exact (EvL.cons (by first | exact (rfl : _ = Value.int _ _) | exact (rfl : _ = Value.bool _) | exact (rfl : _ = Value.string _) | exact (rfl : _ = Value.slice _ _ _) | exact (rfl : _ = Value.pointer _) | exact (rfl : _ = Value.agg _) | exact (rfl : _ = Value.map _) | exact (rfl : _ = Value.tuple _) | exact (rfl : _ = Value.func _ _ _) | exact (rfl : _ = gv _ _) | exact rfl) EvL.nil) | exact (EvL.cons (by first | exact (rfl : _ = Value.int _ _) | exact (rfl : _ = Value.bool _) | exact (rfl : _ = Value.string _) | exact (rfl : _ = Value.slice _ _ _) | exact (rfl : _ = Value.pointer _) | exact (rfl : _ = Value.agg _) | exact (rfl : _ = Value.map _) | exact (rfl : _ = Value.tuple _) | exact (rfl : _ = Value.func _ _ _) | exact (rfl : _ = gv _ _) | exact rfl) (EvL.cons (by first | exact (rfl : _ = Value.int _ _) | exact (rfl : _ = Value.bool _) | exact (rfl : _ = Value.string _) | exact (rfl : _ = Value.slice _ _ _) | exact (rfl : _ = Value.pointer _) | exact (rfl : _ = Value.agg _) | exact (rfl : _ = Value.map _) | exact (rfl : _ = Value.tuple _) | exact (rfl : _ = Value.func _ _ _) | exact (rfl : _ = gv _ _) | exact rfl) EvL.nil)) | exact (EvL.cons (by first | exact (rfl : _ = Value.int _ _) | exact (rfl : _ = Value.bool _) | exact (rfl : _ = Value.string _) | exact (rfl : _ = Value.slice _ _ _) | exact (rfl : _ = Value.pointer _) | exact (rfl : _ = Value.agg _) | exact (rfl : _ = Value.map _) | exact (rfl : _ = Value.tuple _) | exact (rfl : _ = Value.func _ _ _) | exact (rfl : _ = gv _ _) | exact rfl) (EvL.cons (by first | exact (rfl : _ = Value.int _ _) | exact (rfl : _ = Value.bool _) | exact (rfl : _ = Value.string _) | exact (rfl : _ = Value.slice _ _ _) | exact (rfl : _ = Value.pointer _) | exact (rfl : _ = Value.agg _) | exact (rfl : _ = Value.map _) | exact (rfl : _ = Value.tuple _) | exact (rfl : _ = Value.func _ _ _) | exact (rfl : _ = gv _ _) | exact rfl) (EvL.cons (by first | exact (rfl : _ = Value.int _ _) | exact (rfl : _ = Value.bool _) | exact (rfl : _ = Value.string _) | exact (rfl : _ = Value.slice _ _ _) | exact (rfl : _ = Value.pointer _) | exact (rfl : _ = Value.agg _) | exact (rfl : _ = Value.map _) | exact (rfl : _ = Value.tuple _) | exact (rfl : _ = Value.func _ _ _) | exact (rfl : _ = gv _ _) | exact rfl) EvL.nil))) | exact (EvL.cons (by first | exact (rfl : _ = Value.int _ _) | exact (rfl : _ = Value.bool _) | exact (rfl : _ = Value.string _) | exact (rfl : _ = Value.slice _ _ _) | exact (rfl : _ = Value.pointer _) | exact (rfl : _ = Value.agg _) | exact (rfl : _ = Value.map _) | exact (rfl : _ = Value.tuple _) | exact (rfl : _ = Value.func _ _ _) | exact (rfl : _ = gv _ _) | exact rfl) (EvL.cons (by first | exact (rfl : _ = Value.int _ _) | exact (rfl : _ = Value.bool _) | exact (rfl : _ = Value.string _) | exact (rfl : _ = Value.slice _ _ _) | exact (rfl : _ = Value.pointer _) | exact (rfl : _ = Value.agg _) | exact (rfl : _ = Value.map _) | exact (rfl : _ = Value.tuple _) | exact (rfl : _ = Value.func _ _ _) | exact (rfl : _ = gv _ _) | exact rfl) (EvL.cons (by first | exact (rfl : _ = Value.int _ _) | exact (rfl : _ = Value.bool _) | exact (rfl : _ = Value.string _) | exact (rfl : _ = Value.slice _ _ _) | exact (rfl : _ = Value.pointer _) | exact (rfl : _ = Value.agg _) | exact (rfl : _ = Value.map _) | exact (rfl : _ = Value.tuple _) | exact (rfl : _ = Value.func _ _ _) | exact (rfl : _ = gv _ _) | exact rfl) (EvL.cons (by first | exact (rfl : _ = Value.int _ _) | exact (rfl : _ = Value.bool _) | exact (rfl : _ = Value.string _) | exact (rfl : _ = Value.slice _ _ _) | exact (rfl : _ = Value.pointer _) | exact (rfl : _ = Value.agg _) | exact (rfl : _ = Value.map _) | exact (rfl : _ = Value.tuple _) | exact (rfl : _ = Value.func _ _ _) | exact (rfl : _ = gv _ _) | exact rfl) EvL.nil)))) | exact (EvL.cons (by first | exact (rfl : _ = Value.int _ _) | exact (rfl : _ = Value.bool _) | exact (rfl : _ = Value.string _) | exact (rfl : _ = Value.slice _ _ _) | exact (rfl : _ = Value.pointer _) | exact (rfl : _ = Value.agg _) | exact (rfl : _ = Value.map _) | exact (rfl : _ = Value.tuple _) | exact (rfl : _ = Value.func _ _ _) | exact (rfl : _ = gv _ _) | exact rfl) (EvL.cons (by first | exact (rfl : _ = Value.int _ _) | exact (rfl : _ = Value.bool _) | exact (rfl : _ = Value.string _) | exact (rfl : _ = Value.slice _ _ _) | exact (rfl : _ = Value.pointer _) | exact (rfl : _ = Value.agg _) | exact (rfl : _ = Value.map _) | exact (rfl : _ = Value.tuple _) | exact (rfl : _ = Value.func _ _ _) | exact (rfl : _ = gv _ _) | exact rfl) (EvL.cons (by first | exact (rfl : _ = Value.int _ _) | exact (rfl : _ = Value.bool _) | exact (rfl : _ = Value.string _) | exact (rfl : _ = Value.slice _ _ _) | exact (rfl : _ = Value.pointer _) | exact (rfl : _ = Value.agg _) | exact (rfl : _ = Value.map _) | exact (rfl : _ = Value.tuple _) | exact (rfl : _ = Value.func _ _ _) | exact (rfl : _ = gv _ _) | exact rfl) (EvL.cons (by first | exact (rfl : _ = Value.int _ _) | exact (rfl : _ = Value.bool _) | exact (rfl : _ = Value.string _) | exact (rfl : _ = Value.slice _ _ _) | exact (rfl : _ = Value.pointer _) | exact (rfl : _ = Value.agg _) | exact (rfl : _ = Value.map _) | exact (rfl : _ = Value.tuple _) | exact (rfl : _ = Value.func _ _ _) | exact (rfl : _ = gv _ _) | exact rfl) (EvL.cons (by first | exact (rfl : _ = Value.int _ _) | exact (rfl : _ = Value.bool _) | exact (rfl : _ = Value.string _) | exact (rfl : _ = Value.slice _ _ _) | exact (rfl : _ = Value.pointer _) | exact (rfl : _ = Value.agg _) | exact (rfl : _ = Value.map _) | exact (rfl : _ = Value.tuple _) | exact (rfl : _ = Value.func _ _ _) | exact (rfl : _ = gv _ _) | exact rfl) EvL.nil))))) | exact (EvL.cons (by first | exact (rfl : _ = Value.int _ _) | exact (rfl : _ = Value.bool _) | exact (rfl : _ = Value.string _) | exact (rfl : _ = Value.slice _ _ _) | exact (rfl : _ = Value.pointer _) | exact (rfl : _ = Value.agg _) | exact (rfl : _ = Value.map _) | exact (rfl : _ = Value.tuple _) | exact (rfl : _ = Value.func _ _ _) | exact (rfl : _ = gv _ _) | exact rfl) (EvL.cons (by first | exact (rfl : _ = Value.int _ _) | exact (rfl : _ = Value.bool _) | exact (rfl : _ = Value.string _) | exact (rfl : _ = Value.slice _ _ _) | exact (rfl : _ = Value.pointer _) | exact (rfl : _ = Value.agg _) | exact (rfl : _ = Value.map _) | exact (rfl : _ = Value.tuple _) | exact (rfl : _ = Value.func _ _ _) | exact (rfl : _ = gv _ _) | exact rfl) (EvL.cons (by first | exact (rfl : _ = Value.int _ _) | exact (rfl : _ = Value.bool _) | exact (rfl : _ = Value.string _) | exact (rfl : _ = Value.slice _ _ _) | exact (rfl : _ = Value.pointer _) | exact (rfl : _ = Value.agg _) | exact (rfl : _ = Value.map _) | exact (rfl : _ = Value.tuple _) | exact (rfl : _ = Value.func _ _ _) | exact (rfl : _ = gv _ _) | exact rfl) (EvL.cons (by first | exact (rfl : _ = Value.int _ _) | exact (rfl : _ = Value.bool _) | exact (rfl : _ = Value.string _) | exact (rfl : _ = Value.slice _ _ _) | exact (rfl : _ = Value.pointer _) | exact (rfl : _ = Value.agg _) | exact (rfl : _ = Value.map _) | exact (rfl : _ = Value.tuple _) | exact (rfl : _ = Value.func _ _ _) | exact (rfl : _ = gv _ _) | exact rfl) (EvL.cons (by first | exact (rfl : _ = Value.int _ _) | exact (rfl : _ = Value.bool _) | exact (rfl : _ = Value.string _) | exact (rfl : _ = Value.slice _ _ _) | exact (rfl : _ = Value.pointer _) | exact (rfl : _ = Value.agg _) | exact (rfl : _ = Value.map _) | exact (rfl : _ = Value.tuple _) | exact (rfl : _ = Value.func _ _ _) | exact (rfl : _ = gv _ _) | exact rfl) (EvL.cons (by first | exact (rfl : _ = Value.int _ _) | exact (rfl : _ = Value.bool _) | exact (rfl : _ = Value.string _) | exact (rfl : _ = Value.slice _ _ _) | exact (rfl : _ = Value.pointer _) | exact (rfl : _ = Value.agg _) | exact (rfl : _ = Value.map _) | exact (rfl : _ = Value.tuple _) | exact (rfl : _ = Value.func _ _ _) | exact (rfl : _ = gv _ _) | exact rfl) EvL.nil))))))) (hp : PC P f vs v := by infer_instance) :
    Qw P n ops Γ S Q (⟨d, .call { callee := .value (.func f), args := args.toArray, argTypes := tys }, ty, pos, es, none⟩ :: rest) ρ :=
  Q_c rfl rfl (fun Y w hw => (s_pc (hp := hp) ha).mono fun u w' ⟨h1, h2⟩ => ⟨h1, by subst h2; exact hw⟩) h
theorem qPG [FnOk P f] (h : Qw P n ops Γ S Q rest (putO ρ d (gv c v))) (hj : (ops[j]?).bind (·.dst) = some dj := by exact rfl) (hc : GuardIs (ρ dj) want c := by first | exact GuardIs.t | exact GuardIs.f | exact GuardIs.gt | exact GuardIs.gf) (ha : c = true → EvL ρ args vs := by intro hc; exact (by first | exact EvL.nil | exact (EvL.cons (by first | exact (rfl : _ = Value.int _ _) | exact (rfl : _ = Value.bool _) | exact (rfl : _ = Value.string _) | exact (rfl : _ = Value.slice _ _ _) | exact (rfl : _ = Value.pointer _) | exact (rfl : _ = Value.agg _) | exact (rfl : _ = Value.map _) | exact (rfl : _ = Value.tuple _) | exact (rfl : _ = Value.func _ _ _) | exact gvT hc rfl | exact gvT (andL hc) rfl | exact gvT (andL (andL hc)) rfl | exact gvT (andL (andL (andL hc))) rfl | exact rfl) EvL.nil) | exact (EvL.cons (by first | exact (rfl : _ = Value.int _ _) | exact (rfl : _ = Value.bool _) | exact (rfl : _ = Value.string _) | exact (rfl : _ = Value.slice _ _ _) | exact (rfl : _ = Value.pointer _) | exact (rfl : _ = Value.agg _) | exact (rfl : _ = Value.map _) | exact (rfl : _ = Value.tuple _) | exact (rfl : _ = Value.func _ _ _) | exact gvT hc rfl | exact gvT (andL hc) rfl | exact gvT (andL (andL hc)) rfl | exact gvT (andL (andL (andL hc))) rfl | exact rfl) (EvL.cons (by first | exact (rfl : _ = Value.int _ _) | exact (rfl : _ = Value.bool _) | exact (rfl : _ = Value.string _) | exact (rfl : _ = Value.slice _ _ _) | exact (rfl : _ = Value.pointer _) | exact (rfl : _ = Value.agg _) | exact (rfl : _ = Value.map _) | exact (rfl : _ = Value.tuple _) | exact (rfl : _ = Value.func _ _ _) | exact gvT hc rfl | exact gvT (andL hc) rfl | exact gvT (andL (andL hc)) rfl | exact gvT (andL (andL (andL hc))) rfl | exact rfl) EvL.nil)) | exact (EvL.cons (by first | exact (rfl : _ = Value.int _ _) | exact (rfl : _ = Value.bool _) | exact (rfl : _ = Value.string _) | exact (rfl : _ = Value.slice _ _ _) | exact (rfl : _ = Value.pointer _) | exact (rfl : _ = Value.agg _) | exact (rfl : _ = Value.map _) | exact (rfl : _ = Value.tuple _) | exact (rfl : _ = Value.func _ _ _) | exact gvT hc rfl | exact gvT (andL hc) rfl | exact gvT (andL (andL hc)) rfl | exact gvT (andL (andL (andL hc))) rfl | exact rfl) (EvL.cons (by first | exact (rfl : _ = Value.int _ _) | exact (rfl : _ = Value.bool _) | exact (rfl : _ = Value.string _) | exact (rfl : _ = Value.slice _ _ _) | exact (rfl : _ = Value.pointer _) | exact (rfl : _ = Value.agg _) | exact (rfl : _ = Value.map _) | exact (rfl : _ = Value.tuple _) | exact (rfl : _ = Value.func _ _ _) | exact gvT hc rfl | exact gvT (andL hc) rfl | exact gvT (andL (andL hc)) rfl | exact gvT (andL (andL (andL hc))) rfl | exact rfl) (EvL.cons (by first | exact (rfl : _ = Value.int _ _) | exact (rfl : _ = Value.bool _) | exact (rfl : _ = Value.string _) | exact (rfl : _ = Value.slice _ _ _) | exact (rfl : _ = Value.pointer _) | exact (rfl : _ = Value.agg _) | exact (rfl : _ = Value.map _) | exact (rfl : _ = Value.tuple _) | exact (rfl : _ = Value.func _ _ _) | exact gvT hc rfl | exact gvT (andL hc) rfl | exact gvT (andL (andL hc)) rfl | exact gvT (andL (andL (andL hc))) rfl | exact rfl) EvL.nil))) | exact (EvL.cons (by first | exact (rfl : _ = Value.int _ _) | exact (rfl : _ = Value.bool _) | exact (rfl : _ = Value.string _) | exact (rfl : _ = Value.slice _ _ _) | exact (rfl : _ = Value.pointer _) | exact (rfl : _ = Value.agg _) | exact (rfl : _ = Value.map _) | exact (rfl : _ = Value.tuple _) | exact (rfl : _ = Value.func _ _ _) | exact gvT hc rfl | exact gvT (andL hc) rfl | exact gvT (andL (andL hc)) rfl | exact gvT (andL (andL (andL hc))) rfl | exact rfl) (EvL.cons (by first | exact (rfl : _ = Value.int _ _) | exact (rfl : _ = Value.bool _) | exact (rfl : _ = Value.string _) | exact (rfl : _ = Value.slice _ _ _) | exact (rfl : _ = Value.pointer _) | exact (rfl : _ = Value.agg _) | exact (rfl : _ = Value.map _) | exact (rfl : _ = Value.tuple _) | exact (rfl : _ = Value.func _ _ _) | exact gvT hc rfl | exact gvT (andL hc) rfl | exact gvT (andL (andL hc)) rfl | exact gvT (andL (andL (andL hc))) rfl | exact rfl) (EvL.cons (by first | exact (rfl : _ = Value.int _ _) | exact (rfl : _ = Value.bool _) | exact (rfl : _ = Value.string _) | exact (rfl : _ = Value.slice _ _ _) | exact (rfl : _ = Value.pointer _) | exact (rfl : _ = Value.agg _) | exact (rfl : _ = Value.map _) | exact (rfl : _ = Value.tuple _) | exact (rfl : _ = Value.func _ _ _) | exact gvT hc rfl | exact gvT (andL hc) rfl | exact gvT (andL (andL hc)) rfl | exact gvT (andL (andL (andL hc))) rfl | exact rfl) (EvL.cons (by first | exact (rfl : _ = Value.int _ _) | exact (rfl : _ = Value.bool _) | exact (rfl : _ = Value.string _) | exact (rfl : _ = Value.slice _ _ _) | exact (rfl : _ = Value.pointer _) | exact (rfl : _ = Value.agg _) | exact (rfl : _ = Value.map _) | exact (rfl : _ = Value.tuple _) | exact (rfl : _ = Value.func _ _ _) | exact gvT hc rfl | exact gvT (andL hc) rfl | exact gvT (andL (andL hc)) rfl | exact gvT (andL (andL (andL hc))) rfl | exact rfl) EvL.nil)))) | exact (EvL.cons (by first | exact (rfl : _ = Value.int _ _) | exact (rfl : _ = Value.bool _) | exact (rfl : _ = Value.string _) | exact (rfl : _ = Value.slice _ _ _) | exact (rfl : _ = Value.pointer _) | exact (rfl : _ = Value.agg _) | exact (rfl : _ = Value.map _) | exact (rfl : _ = Value.tuple _) | exact (rfl : _ = Value.func _ _ _) | exact gvT hc rfl | exact gvT (andL hc) rfl | exact gvT (andL (andL hc)) rfl | exact gvT (andL (andL (andL hc))) rfl | exact rfl) (EvL.cons (by first | exact (rfl : _ = Value.int _ _) | exact (rfl : _ = Value.bool _) | exact (rfl : _ = Value.string _) | exact (rfl : _ = Value.slice _ _ _) | exact (rfl : _ = Value.pointer _) | exact (rfl : _ = Value.agg _) | exact (rfl : _ = Value.map _) | exact (rfl : _ = Value.tuple _) | exact (rfl : _ = Value.func _ _ _) | exact gvT hc rfl | exact gvT (andL hc) rfl | exact gvT (andL (andL hc)) rfl | exact gvT (andL (andL (andL hc))) rfl | exact rfl) (EvL.cons (by first | exact (rfl : _ = Value.int _ _) | exact (rfl : _ = Value.bool _) | exact (rfl : _ = Value.string _) | exact (rfl : _ = Value.slice _ _ _) | exact (rfl : _ = Value.pointer _) | exact (rfl : _ = Value.agg _) | exact (rfl : _ = Value.map _) | exact (rfl : _ = Value.tuple _) | exact (rfl : _ = Value.func _ _ _) | exact gvT hc rfl | exact gvT (andL hc) rfl | exact gvT (andL (andL hc)) rfl | exact gvT (andL (andL (andL hc))) rfl | exact rfl) (EvL.cons (by first | exact (rfl : _ = Value.int _ _) | exact (rfl : _ = Value.bool _) | exact (rfl : _ = Value.string _) | exact (rfl : _ = Value.slice _ _ _) | exact (rfl : _ = Value.pointer _) | exact (rfl : _ = Value.agg _) | exact (rfl : _ = Value.map _) | exact (rfl : _ = Value.tuple _) | exact (rfl : _ = Value.func _ _ _) | exact gvT hc rfl | exact gvT (andL hc) rfl | exact gvT (andL (andL hc)) rfl | exact gvT (andL (andL (andL hc))) rfl | exact rfl) (EvL.cons (by first | exact (rfl : _ = Value.int _ _) | exact (rfl : _ = Value.bool _) | exact (rfl : _ = Value.string _) | exact (rfl : _ = Value.slice _ _ _) | exact (rfl : _ = Value.pointer _) | exact (rfl : _ = Value.agg _) | exact (rfl : _ = Value.map _) | exact (rfl : _ = Value.tuple _) | exact (rfl : _ = Value.func _ _ _) | exact gvT hc rfl | exact gvT (andL hc) rfl | exact gvT (andL (andL hc)) rfl | exact gvT (andL (andL (andL hc))) rfl | exact rfl) EvL.nil))))) | exact (EvL.cons (by first | exact (rfl : _ = Value.int _ _) | exact (rfl : _ = Value.bool _) | exact (rfl : _ = Value.string _) | exact (rfl : _ = Value.slice _ _ _) | exact (rfl : _ = Value.pointer _) | exact (rfl : _ = Value.agg _) | exact (rfl : _ = Value.map _) | exact (rfl : _ = Value.tuple _) | exact (rfl : _ = Value.func _ _ _) | exact gvT hc rfl | exact gvT (andL hc) rfl | exact gvT (andL (andL hc)) rfl | exact gvT (andL (andL (andL hc))) rfl | exact rfl) (EvL.cons (by first | exact (rfl : _ = Value.int _ _) | exact (rfl : _ = Value.bool _) | exact (rfl : _ = Value.string _) | exact (rfl : _ = Value.slice _ _ _) | exact (rfl : _ = Value.pointer _) | exact (rfl : _ = Value.agg _) | exact (rfl : _ = Value.map _) | exact (rfl : _ = Value.tuple _) | exact (rfl : _ = Value.func _ _ _) | exact gvT hc rfl | exact gvT (andL hc) rfl | exact gvT (andL (andL hc)) rfl | exact gvT (andL (andL (andL hc))) rfl | exact rfl) (EvL.cons (by first | exact (rfl : _ = Value.int _ _) | exact (rfl : _ = Value.bool _) | exact (rfl : _ = Value.string _) | exact (rfl : _ = Value.slice _ _ _) | exact (rfl : _ = Value.pointer _) | exact (rfl : _ = Value.agg _) | exact (rfl : _ = Value.map _) | exact (rfl : _ = Value.tuple _) | exact (rfl : _ = Value.func _ _ _) | exact gvT hc rfl | exact gvT (andL hc) rfl | exact gvT (andL (andL hc)) rfl | exact gvT (andL (andL (andL hc))) rfl | exact rfl) (EvL.cons (by first | exact (rfl : _ = Value.int _ _) | exact (rfl : _ = Value.bool _) | exact (rfl : _ = Value.string _) | exact (rfl : _ = Value.slice _ _ _) | exact (rfl : _ = Value.pointer _) | exact (rfl : _ = Value.agg _) | exact (rfl : _ = Value.map _) | exact (rfl : _ = Value.tuple _) | exact (rfl : _ = Value.func _ _ _) | exact gvT hc rfl | exact gvT (andL hc) rfl | exact gvT (andL (andL hc)) rfl | exact gvT (andL (andL (andL hc))) rfl | exact rfl) (EvL.cons (by first | exact (rfl : _ = Value.int _ _) | exact (rfl : _ = Value.bool _) | exact (rfl : _ = Value.string _) | exact (rfl : _ = Value.slice _ _ _) | exact (rfl : _ = Value.pointer _) | exact (rfl : _ = Value.agg _) | exact (rfl : _ = Value.map _) | exact (rfl : _ = Value.tuple _) | exact (rfl : _ = Value.func _ _ _) | exact gvT hc rfl | exact gvT (andL hc) rfl | exact gvT (andL (andL hc)) rfl | exact gvT (andL (andL (andL hc))) rfl | exact rfl) (EvL.cons (by first | exact (rfl : _ = Value.int _ _) | exact (rfl : _ = Value.bool _) | exact (rfl : _ = Value.string _) | exact (rfl : _ = Value.slice _ _ _) | exact (rfl : _ = Value.pointer _) | exact (rfl : _ = Value.agg _) | exact (rfl : _ = Value.map _) | exact (rfl : _ = Value.tuple _) | exact (rfl : _ = Value.func _ _ _) | exact gvT hc rfl | exact gvT (andL hc) rfl | exact gvT (andL (andL hc)) rfl | exact gvT (andL (andL (andL hc))) rfl | exact rfl) EvL.nil)))))))) (hp : PC P f vs v := by infer_instance) :
    Qw P n ops Γ S Q (⟨d, .call { callee := .value (.func f), args := args.toArray, argTypes := tys }, ty, pos, es, some (j, want)⟩ :: rest) ρ :=
  Q_gc rfl hj hc rfl (fun ht Y w hw => (s_pc (hp := hp) (ha ht)).mono fun u w' ⟨h1, h2⟩ => ⟨h1, by subst h2; exact hw⟩) h
theorem mP [FnOk P f] (h : MSw (mV P n ops Γ K wr tc stab) Q (i + 1) rest ⟨putO ρ d v, M⟩) (hw0 : wr.getD i [] = [] := by exact rfl) (ho : outOf tc stab i d = true := by exact rfl) (ha : ∀ g, EvL (ovr stab.flatten g ρ) args vs := by intro g; exact (by first | exact EvL.nil | exact (EvL.cons (by first | exact (rfl : _ = Value.int _ _) | exact (rfl : _ = Value.bool _) | exact (rfl : _ = Value.string _) | exact (rfl : _ = Value.slice _ _ _) | exact (rfl : _ = Value.pointer _) | exact (rfl : _ = Value.agg _) | exact (rfl : _ = Value.map _) | exact (rfl : _ = Value.tuple _) | exact (rfl : _ = Value.func _ _ _) | exact (rfl : _ = gv _ _) | exact rfl) EvL.nil) | exact (EvL.cons (by first | exact (rfl : _ = Value.int _ _) | exact (rfl : _ = Value.bool _) | exact (rfl : _ = Value.string _) | exact (rfl : _ = Value.slice _ _ _) | exact (rfl : _ = Value.pointer _) | exact (rfl : _ = Value.agg _) | exact (rfl : _ = Value.map _) | exact (rfl : _ = Value.tuple _) | exact (rfl : _ = Value.func _ _ _) | exact (rfl : _ = gv _ _) | exact rfl) (EvL.cons (by first | exact (rfl : _ = Value.int _ _) | exact (rfl : _ = Value.bool _) | exact (rfl : _ = Value.string _) | exact (rfl : _ = Value.slice _ _ _) | exact (rfl : _ = Value.pointer _) | exact (rfl : _ = Value.agg _) | exact (rfl : _ = Value.map _) | exact (rfl : _ = Value.tuple _) | exact (rfl : _ = Value.func _ _ _) | exact (rfl : _ = gv _ _) | exact rfl) EvL.nil)) | exact (EvL.cons (by first | exact (rfl : _ = Value.int _ _) | exact (rfl : _ = Value.bool _) | exact (rfl : _ = Value.string _) | exact (rfl : _ = Value.slice _ _ _) | exact (rfl : _ = Value.pointer _) | exact (rfl : _ = Value.agg _) | exact (rfl : _ = Value.map _) | exact (rfl : _ = Value.tuple _) | exact (rfl : _ = Value.func _ _ _) | exact (rfl : _ = gv _ _) | exact rfl) (EvL.cons (by first | exact (rfl : _ = Value.int _ _) | exact (rfl : _ = Value.bool _) | exact (rfl : _ = Value.string _) | exact (rfl : _ = Value.slice _ _ _) | exact (rfl : _ = Value.pointer _) | exact (rfl : _ = Value.agg _) | exact (rfl : _ = Value.map _) | exact (rfl : _ = Value.tuple _) | exact (rfl : _ = Value.func _ _ _) | exact (rfl : _ = gv _ _) | exact rfl) (EvL.cons (by first | exact (rfl : _ = Value.int _ _) | exact (rfl : _ = Value.bool _) | exact (rfl : _ = Value.string _) | exact (rfl : _ = Value.slice _ _ _) | exact (rfl : _ = Value.pointer _) | exact (rfl : _ = Value.agg _) | exact (rfl : _ = Value.map _) | exact (rfl : _ = Value.tuple _) | exact (rfl : _ = Value.func _ _ _) | exact (rfl : _ = gv _ _) | exact rfl) EvL.nil))) | exact (EvL.cons (by first | exact (rfl : _ = Value.int _ _) | exact (rfl : _ = Value.bool _) | exact (rfl : _ = Value.string _) | exact (rfl : _ = Value.slice _ _ _) | exact (rfl : _ = Value.pointer _) | exact (rfl : _ = Value.agg _) | exact (rfl : _ = Value.map _) | exact (rfl : _ = Value.tuple _) | exact (rfl : _ = Value.func _ _ _) | exact (rfl : _ = gv _ _) | exact rfl) (EvL.cons (by first | exact (rfl : _ = Value.int _ _) | exact (rfl : _ = Value.bool _) | exact (rfl : _ = Value.string _) | exact (rfl : _ = Value.slice _ _ _) | exact (rfl : _ = Value.pointer _) | exact (rfl : _ = Value.agg _) | exact (rfl : _ = Value.map _) | exact (rfl : _ = Value.tuple _) | exact (rfl : _ = Value.func _ _ _) | exact (rfl : _ = gv _ _) | exact rfl) (EvL.cons (by first | exact (rfl : _ = Value.int _ _) | exact (rfl : _ = Value.bool _) | exact (rfl : _ = Value.string _) | exact (rfl : _ = Value.slice _ _ _) | exact (rfl : _ = Value.pointer _) | exact (rfl : _ = Value.agg _) | exact (rfl : _ = Value.map _) | exact (rfl : _ = Value.tuple _) | exact (rfl : _ = Value.func _ _ _) | exact (rfl : _ = gv _ _) | exact rfl) (EvL.cons (by first | exact (rfl : _ = Value.int _ _) | exact (rfl : _ = Value.bool _) | exact (rfl : _ = Value.string _) | exact (rfl : _ = Value.slice _ _ _) | exact (rfl : _ = Value.pointer _) | exact (rfl : _ = Value.agg _) | exact (rfl : _ = Value.map _) | exact (rfl : _ = Value.tuple _) | exact (rfl : _ = Value.func _ _ _) | exact (rfl : _ = gv _ _) | exact rfl) EvL.nil)))) | exact (EvL.cons (by first | exact (rfl : _ = Value.int _ _) | exact (rfl : _ = Value.bool _) | exact (rfl : _ = Value.string _) | exact (rfl : _ = Value.slice _ _ _) | exact (rfl : _ = Value.pointer _) | exact (rfl : _ = Value.agg _) | exact (rfl : _ = Value.map _) | exact (rfl : _ = Value.tuple _) | exact (rfl : _ = Value.func _ _ _) | exact (rfl : _ = gv _ _) | exact rfl) (EvL.cons (by first | exact (rfl : _ = Value.int _ _) | exact (rfl : _ = Value.bool _) | exact (rfl : _ = Value.string _) | exact (rfl : _ = Value.slice _ _ _) | exact (rfl : _ = Value.pointer _) | exact (rfl : _ = Value.agg _) | exact (rfl : _ = Value.map _) | exact (rfl : _ = Value.tuple _) | exact (rfl : _ = Value.func _ _ _) | exact (rfl : _ = gv _ _) | exact rfl) (EvL.cons (by first | exact (rfl : _ = Value.int _ _) | exact (rfl : _ = Value.bool _) | exact (rfl : _ = Value.string _) | exact (rfl : _ = Value.slice _ _ _) | exact (rfl : _ = Value.pointer _) | exact (rfl : _ = Value.agg _) | exact (rfl : _ = Value.map _) | exact (rfl : _ = Value.tuple _) | exact (rfl : _ = Value.func _ _ _) | exact (rfl : _ = gv _ _) | exact rfl) (EvL.cons (by first | exact (rfl : _ = Value.int _ _) | exact (rfl : _ = Value.bool _) | exact (rfl : _ = Value.string _) | exact (rfl : _ = Value.slice _ _ _) | exact (rfl : _ = Value.pointer _) | exact (rfl : _ = Value.agg _) | exact (rfl : _ = Value.map _) | exact (rfl : _ = Value.tuple _) | exact (rfl : _ = Value.func _ _ _) | exact (rfl : _ = gv _ _) | exact rfl) (EvL.cons (by first | exact (rfl : _ = Value.int _ _) | exact (rfl : _ = Value.bool _) | exact (rfl : _ = Value.string _) | exact (rfl : _ = Value.slice _ _ _) | exact (rfl : _ = Value.pointer _) | exact (rfl : _ = Value.agg _) | exact (rfl : _ = Value.map _) | exact (rfl : _ = Value.tuple _) | exact (rfl : _ = Value.func _ _ _) | exact (rfl : _ = gv _ _) | exact rfl) EvL.nil))))) | exact (EvL.cons (by first | exact (rfl : _ = Value.int _ _) | exact (rfl : _ = Value.bool _) | exact (rfl : _ = Value.string _) | exact (rfl : _ = Value.slice _ _ _) | exact (rfl : _ = Value.pointer _) | exact (rfl : _ = Value.agg _) | exact (rfl : _ = Value.map _) | exact (rfl : _ = Value.tuple _) | exact (rfl : _ = Value.func _ _ _) | exact (rfl : _ = gv _ _) | exact rfl) (EvL.cons (by first | exact (rfl : _ = Value.int _ _) | exact (rfl : _ = Value.bool _) | exact (rfl : _ = Value.string _) | exact (rfl : _ = Value.slice _ _ _) | exact (rfl : _ = Value.pointer _) | exact (rfl : _ = Value.agg _) | exact (rfl : _ = Value.map _) | exact (rfl : _ = Value.tuple _) | exact (rfl : _ = Value.func _ _ _) | exact (rfl : _ = gv _ _) | exact rfl) (EvL.cons (by first | exact (rfl : _ = Value.int _ _) | exact (rfl : _ = Value.bool _) | exact (rfl : _ = Value.string _) | exact (rfl : _ = Value.slice _ _ _) | exact (rfl : _ = Value.pointer _) | exact (rfl : _ = Value.agg _) | exact (rfl : _ = Value.map _) | exact (rfl : _ = Value.tuple _) | exact (rfl : _ = Value.func _ _ _) | exact (rfl : _ = gv _ _) | exact rfl) (EvL.cons (by first | exact (rfl : _ = Value.int _ _) | exact (rfl : _ = Value.bool _) | exact (rfl : _ = Value.string _) | exact (rfl : _ = Value.slice _ _ _) | exact (rfl : _ = Value.pointer _) | exact (rfl : _ = Value.agg _) | exact (rfl : _ = Value.map _) | exact (rfl : _ = Value.tuple _) | exact (rfl : _ = Value.func _ _ _) | exact (rfl : _ = gv _ _) | exact rfl) (EvL.cons (by first | exact (rfl : _ = Value.int _ _) | exact (rfl : _ = Value.bool _) | exact (rfl : _ = Value.string _) | exact (rfl : _ = Value.slice _ _ _) | exact (rfl : _ = Value.pointer _) | exact (rfl : _ = Value.agg _) | exact (rfl : _ = Value.map _) | exact (rfl : _ = Value.tuple _) | exact (rfl : _ = Value.func _ _ _) | exact (rfl : _ = gv _ _) | exact rfl) (EvL.cons (by first | exact (rfl : _ = Value.int _ _) | exact (rfl : _ = Value.bool _) | exact (rfl : _ = Value.string _) | exact (rfl : _ = Value.slice _ _ _) | exact (rfl : _ = Value.pointer _) | exact (rfl : _ = Value.agg _) | exact (rfl : _ = Value.map _) | exact (rfl : _ = Value.tuple _) | exact (rfl : _ = Value.func _ _ _) | exact (rfl : _ = gv _ _) | exact rfl) EvL.nil)))))))) (hp : PC P f vs v := by infer_instance) :
    MSw (mV P n ops Γ K wr tc stab) Q i (⟨d, .call { callee := .value (.func f), args := args.toArray, argTypes := tys }, ty, pos, es, none⟩ :: rest) ⟨ρ, M⟩ :=
  mC (fun Y w g hw => (s_pc (hp := hp) (ha g)).mono fun u w' ⟨h1, h2⟩ => ⟨h1, by subst h2; exact hw⟩) hw0 rfl ho h
end

/-! ### functions whose results lie in memory -/
def ResV (P : Program) (ρ : Fr) (w : World) : ResultVar → Value → Prop
  | .tmp t, v => ρ t = v
  | .cell a T, v => ∃ A, ρ a = .pointer (some A) ∧ (loadVar T A).run P w = .ok v w
def ResL (P : Program) (ρ : Fr) (w : World) : List ResultVar → List Value → Prop
  | [], [] => True
  | r :: rs, v :: vs => ResV P ρ w r v ∧ ResL P ρ w rs vs
  | _, _ => False
def tupV : List Value → Value
  | [v] => v
  | vs => .tuple vs.toArray
def PostC (P : Program) (rs : Array ResultVar) (R : Ending → World → Prop) : Exit → Fr → World → Prop
  | .normal, ρ, w | .ret, ρ, w => ∃ vs, ResL P ρ w rs.toList vs ∧ R (.returned (tupV vs)) w
  | .panic ch, _, w => R (.panicked ch) w
  | .outgrown, _, w => R .outgrown w
  | _, _, _ => False
def evalR (tmps : Array Value) : ResultVar → Sem Value
  | .tmp t => pure (tmps.getD t undef)
  | .cell a t => do loadVar t (← asAddr (tmps.getD a undef))
theorem results_evalR (fn : Func) (tmps : Array Value) : results fn tmps = (do let vs ← fn.results.mapM (evalR tmps); pure (if h : vs.size = 1 then vs[0] else .tuple vs)) := by
  have : (fun r : ResultVar => match r with | .tmp t => (pure (tmps.getD t undef) : Sem Value) | .cell a t => do loadVar t (← asAddr (tmps.getD a undef))) = evalR tmps := by
    funext r; cases r <;> rfl
  rw [← this]; rfl
theorem ResV.run {P : Program} {a : Act} {w : World} {r : ResultVar} {v : Value} (h : ResV P (fnOf a) w r v) : (evalR a.tmps r).run P w = .ok v w := by
  cases r with
  | tmp t => have : a.tmps.getD t undef = v := h; simp only [evalR, Sem.run_pure, this]
  | cell x t =>
    obtain ⟨A, h1, h2⟩ := h
    have h3 : a.tmps.getD x undef = .pointer (some A) := h1
    simp only [evalR, h3]
    simpa [asAddr] using h2
theorem results_resL {P : Program} {fn : Func} {a : Act} {w : World} {vs : List Value} (hl : fn.results.size ≤ 3) (h : ResL P (fnOf a) w fn.results.toList vs) : (results fn a.tmps).run P w = .ok (tupV vs) w := by
  obtain ⟨l, hfl⟩ : ∃ l : List ResultVar, fn.results = l.toArray := ⟨fn.results.toList, by simp⟩
  rw [results_evalR]
  rw [hfl] at h hl ⊢
  simp only at h
  rcases l with _ | ⟨x1, _ | ⟨x2, _ | ⟨x3, _ | ⟨x4, l⟩⟩⟩⟩ <;> rcases vs with _ | ⟨v1, _ | ⟨v2, _ | ⟨v3, _ | ⟨v4, vs⟩⟩⟩⟩ <;> simp only [ResL, and_false] at h <;> try exact h.elim
  · simp [tupV]
  · simp [tupV, h.1.run]
  · simp [tupV, h.1.run, h.2.1.run]
  · simp [tupV, h.1.run, h.2.1.run, h.2.2.1.run]
  all_goals (simp at hl <;> omega)
theorem calls_of_WC {P : Program} {f : FuncId} {fn : Func} {c : Code} {args : Array Value} {w : World} {R : Ending → World → Prop} (hf : P.funcs[f]? = some fn) (hb : fn.body = some c)
    (hn : (Nat.ble args.size fn.ntmps && Nat.ble fn.results.size 3) = true) (h : W P fn.ntmps c (PostC P fn.results R) (entryFr args) w) : Calls P f args w R := by
  rw [Bool.and_eq_true] at hn
  have hle : args.size ≤ fn.ntmps := Nat.le_of_ble_eq_true hn.1
  have hl3 : fn.results.size ≤ 3 := Nat.le_of_ble_eq_true hn.2
  unfold W at h
  refine calls_of_wp hf hb (Code.wp_mono ?_ (h _ rfl (by simp; omega) ?_))
  · rintro e a w ⟨hd, hs, hq⟩
    cases e with
    | normal => obtain ⟨v, hv, hR⟩ := hq; exact ⟨hd, _, results_resL hl3 hv, hR⟩
    | ret => obtain ⟨v, hv, hR⟩ := hq; exact ⟨hd, _, results_resL hl3 hv, hR⟩
    | panic ch => exact ⟨hd, hq⟩
    | outgrown => exact hq
    | exit id => exact hq.elim
    | goto l => exact hq.elim
  · funext t
    simp only [fnOf, entryFr, Array.getD_eq_getD_getElem?, Array.getElem?_append]
    by_cases ht : t < args.size
    · rw [if_pos ht]
    · rw [if_neg ht, Array.getElem?_eq_none (by omega : args.size ≤ t)]
      simp only [Array.getElem?_replicate]
      split <;> rfl
/-- A result in a block that is owned. -/
theorem resC {P : Program} {Γ : Gho} {S : List Res} {ρ : Fr} {w : World} {t T m i b : Nat} {cs : Array Value} {E : TypeId} {fr : Nat × Nat} [ha : TA P T m] (hw : Wd Γ S w) (hi : S[i]? = some (.blk b (.cells cs E fr))) (hx : ρ t = .pointer (some ⟨b, 0, none⟩)) (hm : cs.size = m) : ResV P ρ w (.cell t T) (.agg cs) := by
  refine ⟨_, hx, ?_⟩
  have h := ha.h
  unfold aggSz at h
  cases hu : P.underlying T with
  | none => simp [hu] at h
  | some u =>
    simp [hu] at h
    have h2 := range_of (o := 0) (n := cs.size) (hw.at_blk hi)
    have h1 := run_loadAt_mid (P := P) w b 0 T cs.toList u (by simpa using h2) hu h.1 (by simp [h.2, hm])
    simpa [Instr.loadAt, Instr.sureAddr, asAddr] using h1
end Mk
end
/- Regions that draw their order and make a block: allocation and store there. -/
section
open Go
namespace Mk

/-- What is owned at the block that v points to. -/
def atP (v : Value) (F : Nat → List Res) : Res := Res.ex (α := {bb : Nat // v = .pointer (some ⟨bb, 0, none⟩)}) fun p => F p.1

section
variable {P : Program} {n : Nat} {ops : List Oper} {Γ : Gho} {S K : List Res} {wr tc stab : List (List Nat)} {Q : Fr → World → Prop} {i : Nat} {rest : List Oper} {ρ : Fr} {w : World} {M : Nat → Fr → List Res} {v : Value} {F : Nat → List Res}
variable {d : Option Tmp} {T U ty : TypeId} {pos : String} {es : Array Edge} {x y z : Operand}

theorem Wd.mid {r : Res} {Y : List Res} (h : Wd Γ (K ++ (r :: Y)) w) : Wd Γ (r :: (K ++ Y)) w := h.perm List.perm_middle
theorem Wd.unmid {r : Res} {Y : List Res} (h : Wd Γ (r :: (K ++ Y)) w) : Wd Γ (K ++ (r :: Y)) w := h.perm List.perm_middle.symm
theorem Wd.swapApp {A B C : List Res} (h : Wd Γ (A ++ (B ++ C)) w) : Wd Γ (B ++ (A ++ C)) w := h.perm (by
  rw [← List.append_assoc, ← List.append_assoc]
  exact List.perm_append_comm.append_right C)
theorem Wd.openAt (h : Wd Γ (atP v F :: S) w) : ∃ bb, v = .pointer (some ⟨bb, 0, none⟩) ∧ Wd Γ (F bb ++ S) w := by
  obtain ⟨⟨bb, hb⟩, h'⟩ := h.openEx
  exact ⟨bb, hb, h'⟩
theorem Wd.closeAt {bb : Nat} (h : Wd Γ (F bb ++ S) w) : Wd Γ (atP (.pointer (some ⟨bb, 0, none⟩)) F :: S) w := Wd.closeEx (X := fun p : {c : Nat // Value.pointer (some ⟨bb, 0, none⟩) = .pointer (some ⟨c, 0, none⟩)} => F p.1) ⟨bb, rfl⟩ h

theorem setC_self {c : Nat} {m : Fr → List Res} : setC M c m c = m := by simp [setC]
theorem mAlloc {c dd : Nat} {cs : List Value} [TZ P T cs] (h : MSw (mV P n ops Γ K wr tc stab) Q (i + 1) rest ⟨putO ρ (some dd) undef, setC M c fun g => [atP (g dd) fun bb => [.blk bb (.cells cs.toArray T)]]⟩)
    (ht : tc.getD i [] = [c] := by exact rfl) (hM : M c = (fun _ => []) := by exact rfl) (hs : (stab.getD c []).contains dd = true := by exact rfl) (hf : freeD stab (some dd) = true := by exact rfl) (hw0 : wr.getD i [] = [c] := by exact rfl) :
    MSw (mV P n ops Γ K wr tc stab) Q i (⟨some dd, .alloc T, ty, pos, es, none⟩ :: rest) ⟨ρ, M⟩ := by
  refine mM _ (fun Y w g hw => ?_) h hw0 rfl
  have hw1 : Wd Γ (K ++ Y) w := by
    have : cellsAt tc stab i M g = [] := by unfold cellsAt; rw [ht]; simp [hM]
    rw [this] at hw; exact hw
  refine s_alloc hw1 fun b w' hw' => ⟨?_, fun hh => by rw [hf] at hh; cases hh⟩
  have e : cellsAt tc stab i (setC M c fun g => [atP (g dd) fun bb => [.blk bb (.cells cs.toArray T)]]) (putO g (some dd) (.pointer (some ⟨b, 0, none⟩))) = [atP (.pointer (some ⟨b, 0, none⟩)) fun bb => [.blk bb (.cells cs.toArray T)]] := by
    unfold cellsAt; rw [ht]
    have h1 : ovr (stab.getD c []) (putO g (some dd) (.pointer (some ⟨b, 0, none⟩))) noFr dd = .pointer (some ⟨b, 0, none⟩) := by
      rw [ovr_in (by simpa using hs)]; exact upd_same _ _ _
    simp only [List.flatMap_cons, List.flatMap_nil, List.append_nil, setC_self, h1]
  rw [e]
  exact Wd.unmid (Wd.closeAt (F := fun bb => [.blk bb (.cells cs.toArray T)]) hw')
theorem mStoreAt {c dd m : Nat} {cs : Array Value} {E : TypeId} {vs : List Value} [hn : TSz P T m] (h : MSw (mV P n ops Γ K wr tc stab) Q (i + 1) rest ⟨ρ, setC M c fun g => [atP (g dd) fun bb => [.blk bb (.cells (putCells cs 0 vs) E)]]⟩)
    (hd : stab.flatten.contains dd = true := by exact rfl) (ht : tc.getD i [] = [c] := by exact rfl) (hM : M c = (fun g => [atP (g dd) fun bb => [.blk bb (.cells cs E)]]) := by exact rfl) (hs : (stab.getD c []).contains dd = true := by exact rfl) (hw0 : wr.getD i [] = [c] := by exact rfl)
    (hy : ∀ g, ev (ovr stab.flatten g ρ) y = v := by intro g; exact (by first | exact (rfl : _ = Value.int _ _) | exact (rfl : _ = Value.bool _) | exact (rfl : _ = Value.string _) | exact (rfl : _ = Value.slice _ _ _) | exact (rfl : _ = Value.pointer _) | exact (rfl : _ = Value.agg _) | exact (rfl : _ = Value.map _) | exact (rfl : _ = Value.tuple _) | exact (rfl : _ = Value.func _ _ _) | exact (rfl : _ = gv _ _) | exact rfl)) (hv : v.cells.toList = vs := by exact rfl) (hl : vs.length = m := by exact rfl) (h1 : vs.all (·.oneCell') = true := by exact rfl) (ho : m ≤ cs.size := by exact Nat.le_of_ble_eq_true rfl) :
    MSw (mV P n ops Γ K wr tc stab) Q i (⟨none, .store T (.tmp dd) y, ty, pos, es, none⟩ :: rest) ⟨ρ, M⟩ := by
  refine mM (v := undef) _ (fun Y w g hw => ?_) h hw0 rfl
  have e : cellsAt tc stab i M g = [atP (g dd) fun bb => [.blk bb (.cells cs E)]] := by
    unfold cellsAt; rw [ht]
    have h1 : ovr (stab.getD c []) g noFr dd = g dd := ovr_in (by simpa using hs)
    simp only [List.flatMap_cons, List.flatMap_nil, List.append_nil, hM, h1]
  rw [e] at hw
  obtain ⟨bb, hb, hw1⟩ := (Wd.mid hw).openAt
  have hx : ev (ovr stab.flatten g ρ) (.tmp dd) = .pointer (some ⟨bb, 0, none⟩) := by
    show ovr stab.flatten g ρ dd = _
    rw [ovr_in (by simpa using hd)]; exact hb
  refine s_store hn.h hw1 hx (hy g) hv hl (fun u hu => (List.all_eq_true.1 h1) u hu) (i := 0) rfl (by omega) fun w' hw' => ⟨?_, fun hh => rfl⟩
  have e2 : cellsAt tc stab i (setC M c fun g => [atP (g dd) fun bb => [.blk bb (.cells (putCells cs 0 vs) E)]]) (putO g none undef) = [atP (.pointer (some ⟨bb, 0, none⟩)) fun bb => [.blk bb (.cells (putCells cs 0 vs) E)]] := by
    unfold cellsAt; rw [ht]
    have h1 : ovr (stab.getD c []) g noFr dd = .pointer (some ⟨bb, 0, none⟩) := (ovr_in (by simpa using hs)).trans hb
    simp only [List.flatMap_cons, List.flatMap_nil, List.append_nil, setC_self, putO, h1]
  rw [e2]
  exact Wd.unmid (Wd.closeAt (F := fun bb => [.blk bb (.cells (putCells cs 0 vs) E)]) hw')
/-- The end, where one block has been made. -/
theorem mEndAt {dd : Nat} (h : ∀ bb w, Wd Γ (F bb ++ K) w → Q (upd ρ dd (.pointer (some ⟨bb, 0, none⟩))) w) (hM : M 0 = (fun g => [atP (g dd) F]) := by exact rfl) : MSw (mV P n ops Γ K wr tc [[dd]]) Q i [] ⟨ρ, M⟩ :=
  mEnd fun w g hw => by
    have h0 : ((List.range [[dd]].length).flatMap fun x => M x (ovr ([[dd]].getD x []) g noFr)) = [atP (g dd) F] := by
      show M 0 (ovr [dd] g noFr) ++ [] = _
      rw [hM]
      show [atP (upd noFr dd (g dd) dd) F] ++ [] = _
      rw [upd_same]; rfl
    rw [h0] at hw
    obtain ⟨bb, hb, hw1⟩ := (Wd.mid hw).openAt
    have := h bb w (by simpa using hw1)
    rwa [← hb] at this
/-- The end, where no slot is left open. -/
theorem mEnd0 (h : ∀ w, Wd Γ (K ++ (List.range stab.length).flatMap fun x => M x noFr) w → Q ρ w) (hs : stab.all (fun l => l.isEmpty) = true := by exact rfl) : MSw (mV P n ops Γ K wr tc stab) Q i [] ⟨ρ, M⟩ :=
  mEnd fun w g hw => by
    have h1 : ∀ x, stab.getD x [] = [] := fun x => by
      rw [List.getD_eq_getElem?_getD]
      cases hx : stab[x]? with
      | none => rfl
      | some l =>
        have := (List.all_eq_true.1 hs) l (List.mem_of_getElem? hx)
        simpa using this
    have h2 : stab.flatten = [] := by
      rw [List.flatten_eq_nil_iff]
      intro l hl
      have := (List.all_eq_true.1 hs) l hl
      simpa using this
    rw [h2]
    refine h w ?_
    have : ((List.range stab.length).flatMap fun x => M x (ovr (stab.getD x []) g noFr)) = (List.range stab.length).flatMap fun x => M x noFr := flatMap_congr' fun x _ => by rw [h1 x]; rfl
    rwa [this] at hw
end

section
variable {P : Program} {n : Nat} {opa : Array Oper} {Γ : Gho} {S : List Res} {QQ : Exit → Fr → World → Prop} {ρ : Fr} {w : World} {rest : List Oper} {d : Option Tmp} {T ty : TypeId} {pos : String} {es : Array Edge} {x y : Operand}
theorem lApp {E by' i sz m c m2 c2 : Nat} {zs : List Value} {a a2 : Option Addr} {rows rows2 : List (List Value)} [TL P T E sz by' zs] (h : ∀ v' w', Wd Γ (S.set i (.own v' E sz (rows ++ rows2))) w' → L P n opa QQ rest (putO ρ d v') w') (hr2 : Rd w a2 sz rows2) (hx : ev ρ x = .slice a m c := by exact rfl) (hy : ev ρ y = .slice a2 m2 c2 := by exact rfl) (hw : Wd Γ S w := by exact hw)
    (hi : S[i]? = some (.own (.slice a m c) E sz rows) := by first | exact (rfl : (_ : List Res)[0]? = _) | exact (rfl : (_ : List Res)[1]? = _) | exact (rfl : (_ : List Res)[2]? = _) | exact (rfl : (_ : List Res)[3]? = _) | exact (rfl : (_ : List Res)[4]? = _) | exact (rfl : (_ : List Res)[5]? = _) | exact (rfl : (_ : List Res)[6]? = _) | exact (rfl : (_ : List Res)[7]? = _)) (h1 : rows2.flatten.all (·.oneCell') = true := by exact rfl) (hm : m2 = rows2.length := by exact rfl) (hb : (m + m2) * by' ≤ 140737488355328 := by omega) (h63 : m + m2 ≤ 9223372036854775807 := by omega) (hd : okDst n d = true := by exact rfl) :
    L P n opa QQ (⟨d, .call { callee := .builtin .append, args := #[x, y], argTypes := #[T, T] }, ty, pos, es, none⟩ :: rest) ρ w := lAppend h hr2 hm (fun u hu => (List.all_eq_true.1 h1) u hu) hb h63 hw hx hy hi hd
end
end Mk
end
/- Ranging over maps, and over functions: rounds, yields. -/
section
open Go
open Go.ChangeMaps (setBlock)
namespace Mk

/-! ### ranging over a map -/
section
variable {P : Program} {Γ : Gho} {S : List Res} {w : World} {ρ : Fr} {K : Value → World → Prop}
variable {d : Option Tmp} {T ty : TypeId} {pos : String} {es : Array Edge} {g : Option (Nat × Bool)} {x y z : Operand}

theorem Wd.openMp {b : Nat} {l : List (Value × Value)} (h : Wd Γ (.mp b l :: S) w) : ∃ en clock, Wd Γ (.blk b (.map en clock) :: S) w ∧ en.toList.map (fun e => (e.key, e.val)) = l ∧ (en.toList.map (·.born)).Nodup ∧ ∀ e ∈ en.toList, e.born < clock := by
  obtain ⟨en, clock, h1, h2, h3, h4⟩ := h.at_mp (i := 0) rfl
  refine ⟨en, clock, ?_, h2, h3, h4⟩
  have := h.upd (i := 0) (r' := .blk b (.map en clock)) rfl ⟨rfl, rfl, rfl, Nat.le_refl _, Nat.le_refl _⟩ (w' := w) fun bs hr hnd hlt => by
    unfold Res.mp at hr
    obtain ⟨rfl, _⟩ := hr
    exact ⟨[b], by unfold Res.blk; exact ⟨rfl, h1⟩, by simp, fun k hk => ⟨hlt k hk, .inl hk⟩, fun _ _ _ => rfl⟩
  exact this
theorem Wd.closeMp {b clock : Nat} {en : Array MapEntry} {l : List (Value × Value)} (h : Wd Γ (.blk b (.map en clock) :: S) w) (h2 : en.toList.map (fun e => (e.key, e.val)) = l) (h3 : (en.toList.map (·.born)).Nodup) (h4 : ∀ e ∈ en.toList, e.born < clock) : Wd Γ (.mp b l :: S) w := by
  have h1 := h.at_blk (i := 0) rfl
  have := h.upd (i := 0) (r' := .mp b l) rfl ⟨rfl, rfl, rfl, Nat.le_refl _, Nat.le_refl _⟩ (w' := w) fun bs hr hnd hlt => by
    unfold Res.blk at hr
    obtain ⟨rfl, _⟩ := hr
    exact ⟨[b], by unfold Res.mp; exact ⟨rfl, en, clock, h1, h2, h3, h4⟩, by simp, fun k hk => ⟨hlt k hk, .inl hk⟩, fun _ _ _ => rfl⟩
  exact this

theorem s_range {bm clock i : Nat} {en : Array MapEntry} {KT ET : TypeId} [hM : TMap P T KT ET] (hw : Wd Γ S w) (hx : ev ρ x = .map (some bm)) (hi : S[i]? = some (.blk bm (.map en clock)))
    (hk : ∀ r w', Wd Γ (.blk r (.mapIter (some bm) clock #[] clock) :: S) w' → K (.pointer (some ⟨r, 0, none⟩)) w') : Step P ⟨d, .range T x, ty, pos, es, g⟩ ρ w K := by
  have hb := hw.at_blk hi
  have hr : (execOp (ev ρ) ⟨d, .range T x, ty, pos, es, g⟩).run P w = .ok (.value (.pointer (some ⟨w.heap.size, 0, none⟩))) (w.alloc (.mapIter (some bm) clock #[] clock)) := by
    simp [execOp, Instr.range, hx, run_underlying hM.h, run_getObj_map hb, Sem.run_bind, run_newObj_alloc]
  have hfin := hk _ _ (hw.alloc (.mapIter (some bm) clock #[] clock))
  unfold Step; rw [hr]; exact hfin
theorem setBlock_at {w : World} {r : Nat} {o : Obj} (h : r < w.heap.size) : (setBlock w r o).heap[r]? = some o := by simp [setBlock, h]
theorem setBlock_ne {w : World} {r k : Nat} {o : Obj} (h : k ≠ r) : (setBlock w r o).heap[k]? = w.heap[k]? := by simp [setBlock, Array.getElem?_setIfInBounds, Ne.symm h]
theorem s_next {r bm since c0 clock i j : Nat} {seen : Array Nat} {en : Array MapEntry} (hw : Wd Γ S w) (hx : ev ρ x = .pointer (some ⟨r, 0, none⟩)) (hi : S[i]? = some (.blk r (.mapIter (some bm) since seen c0))) (hj : S[j]? = some (.blk bm (.map en clock)))
    (hold : ∀ x ∈ en.toList, x.born < since) (hsc : since ≤ c0)
    (h0 : (leftOf en seen).size = 0 → K (.tuple #[.bool false]) w) (h1 : ∀ e w', e ∈ (leftOf en seen).toList → Wd Γ (S.set i (.blk r (.mapIter (some bm) since (seen.push e.born) clock))) w' → K (.tuple #[.bool true, e.key, e.val]) w') :
    Step P ⟨d, .next x false, ty, pos, es, g⟩ ρ w K := by
  have hr := hw.at_blk hi
  have hb := hw.at_blk hj
  unfold Step
  have hrun : (execOp (ev ρ) ⟨d, .next x false, ty, pos, es, g⟩).run P w = ((Instr.next (.pointer (some ⟨r, 0, none⟩)) false ty).run P w).andThen fun v w' => .ok (.value v) w' := by
    simp only [execOp, hx, Sem.run_bind]
    rfl
  rw [hrun]
  rcases run_next_at (P := P) w ty r bm since c0 seen en clock hr hb hold hsc with ⟨hz, he⟩ | ⟨e, hm, w1, hw1, he⟩
  · rw [he]; exact h0 hz
  · rw [he]
    have hwd : Wd Γ S w1 := by
      rcases hw1 with rfl | rfl
      · exact hw
      · exact hw.drew
    have hlt : r < w1.heap.size := (Array.getElem?_eq_some_iff.1 (hwd.at_blk hi)).1
    exact h1 e _ hm (hwd.set_blk hi ⟨rfl, rfl, rfl, Nat.le_refl _, by simp [setBlock]⟩ (setBlock_at hlt) fun k _ hne => setBlock_ne hne)
theorem y_entry {r bm since clock i j : Nat} {seen : Array Nat} {en : Array MapEntry} {e : MapEntry} (hw : Wd Γ S w) (hx : ev ρ x = .pointer (some ⟨r, 0, none⟩)) (hi : S[i]? = some (.blk r (.mapIter (some bm) since (seen.push e.born) clock))) (hj : S[j]? = some (.blk bm (.map en clock)))
    (he : e ∈ en.toList) (hn : (en.toList.map (·.born)).Nodup) : Yields P ⟨d, .entry x, ty, pos, es, g⟩ ρ w (.tuple #[e.key, e.val]) := by
  have := run_entry_at (P := P) w r bm since seen en clock e (hw.at_blk hi) (hw.at_blk hj) he hn
  unfold Yields
  simp only [execOp, hx, Sem.run_bind, this]
  rfl
end
section
variable {P : Program} {n : Nat} {opa : Array Oper} {Γ : Gho} {S : List Res} {QQ : Exit → Fr → World → Prop} {ρ : Fr} {w : World} {rest : List Oper}
variable {d : Option Tmp} {T ty : TypeId} {pos : String} {es : Array Edge} {x : Operand}
theorem lRange {bm clock i : Nat} {en : Array MapEntry} {KT ET : TypeId} [hM : TMap P T KT ET] (h : ∀ r w', Wd Γ (.blk r (.mapIter (some bm) clock #[] clock) :: S) w' → L P n opa QQ rest (putO ρ d (.pointer (some ⟨r, 0, none⟩))) w') (hw : Wd Γ S w := by exact hw) (hx : ev ρ x = .map (some bm) := by exact rfl) (hi : S[i]? = some (.blk bm (.map en clock)) := by first | exact (rfl : (_ : List Res)[0]? = _) | exact (rfl : (_ : List Res)[1]? = _) | exact (rfl : (_ : List Res)[2]? = _) | exact (rfl : (_ : List Res)[3]? = _) | exact (rfl : (_ : List Res)[4]? = _) | exact (rfl : (_ : List Res)[5]? = _) | exact (rfl : (_ : List Res)[6]? = _) | exact (rfl : (_ : List Res)[7]? = _)) (hd : okDst n d = true := by exact rfl) :
    L P n opa QQ (⟨d, .range T x, ty, pos, es, none⟩ :: rest) ρ w := L_step rfl hd (s_range hw hx hi h)
theorem lNext {r bm since c0 clock i j : Nat} {seen : Array Nat} {en : Array MapEntry}
    (h0 : (leftOf en seen).size = 0 → L P n opa QQ rest (putO ρ d (.tuple #[.bool false])) w) (h1 : ∀ e w', e ∈ (leftOf en seen).toList → Wd Γ (S.set i (.blk r (.mapIter (some bm) since (seen.push e.born) clock))) w' → L P n opa QQ rest (putO ρ d (.tuple #[.bool true, e.key, e.val])) w')
    (hold : ∀ x ∈ en.toList, x.born < since) (hsc : since ≤ c0) (hw : Wd Γ S w := by exact hw) (hx : ev ρ x = .pointer (some ⟨r, 0, none⟩) := by exact rfl) (hi : S[i]? = some (.blk r (.mapIter (some bm) since seen c0)) := by first | exact (rfl : (_ : List Res)[0]? = _) | exact (rfl : (_ : List Res)[1]? = _) | exact (rfl : (_ : List Res)[2]? = _) | exact (rfl : (_ : List Res)[3]? = _) | exact (rfl : (_ : List Res)[4]? = _) | exact (rfl : (_ : List Res)[5]? = _) | exact (rfl : (_ : List Res)[6]? = _) | exact (rfl : (_ : List Res)[7]? = _)) (hj : S[j]? = some (.blk bm (.map en clock)) := by first | exact (rfl : (_ : List Res)[0]? = _) | exact (rfl : (_ : List Res)[1]? = _) | exact (rfl : (_ : List Res)[2]? = _) | exact (rfl : (_ : List Res)[3]? = _) | exact (rfl : (_ : List Res)[4]? = _) | exact (rfl : (_ : List Res)[5]? = _) | exact (rfl : (_ : List Res)[6]? = _) | exact (rfl : (_ : List Res)[7]? = _)) (hd : okDst n d = true := by exact rfl) :
    L P n opa QQ (⟨d, .next x false, ty, pos, es, none⟩ :: rest) ρ w := L_step rfl hd (s_next hw hx hi hj hold hsc h0 h1)
theorem lEntry {r bm since clock i j : Nat} {seen : Array Nat} {en : Array MapEntry} {e : MapEntry} (h : L P n opa QQ rest (putO ρ d (.tuple #[e.key, e.val])) w) (he : e ∈ en.toList) (hn : (en.toList.map (·.born)).Nodup)
    (hw : Wd Γ S w := by exact hw) (hx : ev ρ x = .pointer (some ⟨r, 0, none⟩) := by exact rfl) (hi : S[i]? = some (.blk r (.mapIter (some bm) since (seen.push e.born) clock)) := by first | exact (rfl : (_ : List Res)[0]? = _) | exact (rfl : (_ : List Res)[1]? = _) | exact (rfl : (_ : List Res)[2]? = _) | exact (rfl : (_ : List Res)[3]? = _) | exact (rfl : (_ : List Res)[4]? = _) | exact (rfl : (_ : List Res)[5]? = _) | exact (rfl : (_ : List Res)[6]? = _) | exact (rfl : (_ : List Res)[7]? = _)) (hj : S[j]? = some (.blk bm (.map en clock)) := by first | exact (rfl : (_ : List Res)[0]? = _) | exact (rfl : (_ : List Res)[1]? = _) | exact (rfl : (_ : List Res)[2]? = _) | exact (rfl : (_ : List Res)[3]? = _) | exact (rfl : (_ : List Res)[4]? = _) | exact (rfl : (_ : List Res)[5]? = _) | exact (rfl : (_ : List Res)[6]? = _) | exact (rfl : (_ : List Res)[7]? = _)) (hd : okDst n d = true := by exact rfl) :
    L P n opa QQ (⟨d, .entry x, ty, pos, es, none⟩ :: rest) ρ w := L_y rfl hd (y_entry hw hx hi hj he hn) h
end

/-- What is left of a map's entries when some have been seen: each round takes one away. -/
theorem left_mem {en : Array MapEntry} {seen : Array Nat} {e : MapEntry} : e ∈ (leftOf en seen).toList ↔ e ∈ en.toList ∧ e.born ∉ seen.toList := by
  unfold leftOf; simp

/-! ### functions that hand rounds to a loop -/
abbrev FR (ro : Option Nat) : Fence := { Fence.wide with round := ro }

def StepX (P : Program) (o : Oper) (ρ : Fr) (w : World) (K : Value → World → Prop) : Prop :=
  match (execOp (ev ρ) o).run P w with
  | .ok (.value v) w' => K v w'
  | .ok .skip w' => K undef w'
  | .ok (.enter f args) w' => Calls P f args w' fun e w'' => ∃ v, e = .returned v ∧ K v w''
  | .ok (.row row args) w' => Rows P row args w' K
  | .ok (.round l f tmps assign body) w' => RoundIn Fence.wide 0 P l f tmps assign body w' fun e w'' => ∃ v, e = .returned v ∧ K v w''
  | _ => False
section
attribute [local semireducible] Step L W
theorem Step.x {P : Program} {o : Oper} {ρ : Fr} {w : World} {K : Value → World → Prop} (h : Step P o ρ w K) : StepX P o ρ w K := by
  unfold Step at h
  unfold StepX
  split at h <;> simp_all

theorem calls_FR {P : Program} {ro : Option Nat} {n : Nat} {f : FuncId} {args : Array Value} {w : World} {R : Ending → World → Prop} (h : Calls P f args w R) : CallsIn (FR ro) n P f args w R := (callsIn_wide (n := n)).2 h
theorem rows_FR {P : Program} {ro : Option Nat} {n : Nat} {row : String} {args : Array Value} {w : World} {R : Value → World → Prop} (h : Rows P row args w R) : RowsIn (FR ro) n P row args w R := fun c cs _ => by
  obtain ⟨v, w', r, s⟩ := h c cs
  exact ⟨v, w', r, stepsIn_wide.2 s⟩
theorem round_FR {P : Program} {ro : Option Nat} {n l : Nat} {f : FuncId} {tmps : Array Value} {assign body : Code} {w : World} {R : Ending → World → Prop} (h : RoundIn Fence.wide 0 P l f tmps assign body w R) : RoundIn (FR ro) n P l f tmps assign body w R :=
  ⟨trivial, fun c cs _ => h.2 c cs (room_wide _)⟩

def notDefer (o : Oper) : Bool := match o.op with | .defer _ => false | _ => true
theorem StepX.upon {P : Program} {o : Oper} {ro : Option Nat} {a : Act} {w : World} {K : Value → World → Prop} {next : Act → World → Prop} {Q : Exit → Act → World → Prop} (hdf : notDefer o = true) (h : StepX P o (fnOf a) w K) (hk : ∀ v w, K v w → next (a.put o.dst v) w) :
    o.wpIn (FR ro) 0 P a w next Q := by
  refine ⟨fun _ _ => trivial, ?_⟩
  rw [Oper.semAt_eq _ _ _ (fun c hc => by simp [notDefer, hc] at hdf), eval_fnOf]
  unfold StepX at h
  generalize (execOp (ev (fnOf a)) o).run P w = r at *
  have hdep : ∀ (x : Nat), (FR ro).depth.isSome = true → 1 ≤ x := fun x hx => by simp [Fence.wide] at hx
  cases r with
  | ok x w' =>
    cases x <;> simp only [Oper.uponIn] at h ⊢ <;> first
      | exact hk _ _ h
      | exact ⟨hdep _, (calls_FR h).mono (fun e w'' he => by obtain ⟨v, rfl, hv⟩ := he; exact hk _ _ hv)⟩
      | exact ⟨hdep _, (rows_FR h).mono hk⟩
      | exact ⟨hdep _, (round_FR h).mono (fun e w'' he => by obtain ⟨v, rfl, hv⟩ := he; exact hk _ _ hv)⟩
      | exact h.elim
  | halt x w' => exact h.elim

def liftD (n : Nat) (ds : List Deferred) (Q : Exit → Fr → World → Prop) : Exit → Act → World → Prop := fun e a w => a.defers = ds ∧ a.tmps.size = n ∧ Q e (fnOf a) w
/-- As 'W', in a loop's round (ro), with deferred calls ds. -/
def WF (ro : Option Nat) (ds : List Deferred) (P : Program) (n : Nat) (c : Code) (Q : Exit → Fr → World → Prop) (ρ : Fr) (w : World) : Prop :=
  ∀ a : Act, a.defers = ds → a.tmps.size = n → fnOf a = ρ → c.wpIn (FR ro) 0 P (liftD n ds Q) a w
def LX (P : Program) (n : Nat) (Q : Exit → Fr → World → Prop) : List Oper → Fr → World → Prop
  | [], ρ, w => Q .normal ρ w
  | o :: l, ρ, w => (o.guard = none ∧ okDst n o.dst = true ∧ notDefer o = true) ∧ StepX P o ρ w fun v w' => LX P n Q l (putO ρ o.dst v) w'
variable {P : Program} {n : Nat} {Q : Exit → Fr → World → Prop} {ρ : Fr} {w : World} {ro : Option Nat} {ds : List Deferred}

theorem LX.ops {ops : Array Oper} : ∀ (l pre : List Oper) (ρ : Fr) (w : World) (a : Act), ops.toList = pre ++ l → a.defers = ds → a.tmps.size = n → fnOf a = ρ → LX P n Q l ρ w →
    wpOpsIn (FR ro) 0 P ops (liftD n ds Q) (List.range' pre.length l.length) a w
  | [], pre, ρ, w, a, ho, h1, h2, h3, h => ⟨h1, h2, h3 ▸ h⟩
  | o :: l, pre, ρ, w, a, ho, h1, h2, h3, h => by
    obtain ⟨⟨hg, hd, hdf⟩, hs⟩ := h
    have hoi : ops[pre.length]? = some o := by rw [← Array.getElem?_toList, ho]; simp
    simp only [List.length_cons, List.range'_succ, wpOpsIn, hoi]
    have hwn : Region.wanted o (yielded ops a.tmps) = true := by simp [Region.wanted, hg]
    rw [if_pos hwn]
    subst h3
    refine StepX.upon hdf hs fun v w' hv => ?_
    have := LX.ops l (pre ++ [o]) _ w' (a.put o.dst v) (by rw [ho]; simp) (by rw [defers_put]; exact h1) (by rw [size_put]; exact h2) (fnOf_putO a _ v (by rw [h2]; exact okDst_spec hd)) hv
    simpa using this
theorem WF_region {id : Nat} {l : List Oper} (h : LX P n Q l ρ w) : WF ro ds P n (.region id l.toArray false) Q ρ w := fun a h1 h2 h3 => by
  refine wpIn_region ?_
  have := LX.ops (ops := l.toArray) (ro := ro) (ds := ds) l [] ρ w a (by simp) h1 h2 h3 h
  simpa [List.range_eq_range'] using this
theorem WF_seq {x y : Code} (h : WF ro ds P n x (Then (WF ro ds P n y Q) Q) ρ w) : WF ro ds P n (.seq x y) Q ρ w := fun a hd hs hf =>
  wpIn_seq (wpIn_mono (h a hd hs hf) (fun e a w ⟨p, q, r⟩ => by cases e <;> first | exact r a p q rfl | exact ⟨p, q, r⟩))
theorem WF_block {id : Nat} {c : Code} (h : WF ro ds P n c (InBl id Q) ρ w) : WF ro ds P n (.block id c) Q ρ w := fun a hd hs hf =>
  wpIn_block (wpIn_mono (h a hd hs hf) (fun e a w ⟨p, q, r⟩ => by
    cases e <;> first | exact ⟨p, q, r⟩ | (simp only [InBl] at r; simp only [Exit.inBlock]; split <;> rename_i h <;> simp only [h, if_true, if_false] at r <;> exact ⟨p, q, r⟩)))
theorem WF_skip (h : Q .normal ρ w) : WF ro ds P n .skip Q ρ w := fun a hd hs hf => wpIn_skip ⟨hd, hs, hf ▸ h⟩
theorem WF_ret (h : Q .ret ρ w) : WF ro ds P n .ret Q ρ w := fun a hd hs hf => wpIn_ret ⟨hd, hs, hf ▸ h⟩
theorem WF.mono {c : Code} {Q' : Exit → Fr → World → Prop} (h : WF ro ds P n c Q ρ w) (hq : ∀ e ρ w, Q e ρ w → Q' e ρ w) : WF ro ds P n c Q' ρ w :=
  fun a hd hs hf => wpIn_mono (h a hd hs hf) fun e a w ⟨x, y, z⟩ => ⟨x, y, hq _ _ _ z⟩
/-- A region that hands on a round. -/
theorem W_regionX {id : Nat} {l : List Oper} (h : LX P n Q l ρ w) : W P n (.region id l.toArray false) Q ρ w := fun a h1 h2 h3 =>
  (wpIn_wide (n := 0)).1 (WF_region (ro := none) (ds := []) h a h1 h2 h3)

theorem LX_nil (h : Q .normal ρ w) : LX P n Q [] ρ w := h
theorem LX_step {o : Oper} {l : List Oper} (h : Step P o ρ w fun v w' => LX P n Q l (putO ρ o.dst v) w') (hg : o.guard = none := by exact rfl) (hd : okDst n o.dst = true := by exact rfl) (hf : notDefer o = true := by exact rfl) : LX P n Q (o :: l) ρ w := ⟨⟨hg, hd, hf⟩, h.x⟩
theorem xY {o : Oper} {l : List Oper} {v : Value} {Γ : Gho} {S : List Res} (h : LX P n Q l (putO ρ o.dst v) w) (hw : Wd Γ S w := by exact hw) (hg : o.guard = none := by exact rfl) (hd : okDst n o.dst = true := by exact rfl) (hf : notDefer o = true := by exact rfl) (hy : Yields P o ρ w v := by first | (apply m_move; exact y_move (by first | exact (rfl : _ = Value.int _ _) | exact (rfl : _ = Value.bool _) | exact (rfl : _ = Value.string _) | exact (rfl : _ = Value.slice _ _ _) | exact (rfl : _ = Value.pointer _) | exact (rfl : _ = Value.agg _) | exact (rfl : _ = Value.map _) | exact (rfl : _ = Value.tuple _) | exact (rfl : _ = Value.func _ _ _) | exact (rfl : _ = gv _ _) | exact rfl)) | (apply m_assign; exact y_assign (by first | exact (rfl : _ = Value.int _ _) | exact (rfl : _ = Value.bool _) | exact (rfl : _ = Value.string _) | exact (rfl : _ = Value.slice _ _ _) | exact (rfl : _ = Value.pointer _) | exact (rfl : _ = Value.agg _) | exact (rfl : _ = Value.map _) | exact (rfl : _ = Value.tuple _) | exact (rfl : _ = Value.func _ _ _) | exact (rfl : _ = gv _ _) | exact rfl)) | (apply g_bin; first | (apply m_op .eql; first | exact y_eql rfl rfl | exact y_eqls rfl rfl | exact y_eqT rfl rfl rfl | exact y_eqB rfl rfl | exact y_eqnS rfl rfl | exact y_eqnP rfl rfl | exact y_eqnM rfl rfl) | (apply m_op .lss; first | exact y_lss rfl rfl | exact y_lssS rfl rfl) | (apply m_op .neq; first | exact y_neq rfl rfl | exact y_neqs rfl rfl | exact y_neqT rfl rfl rfl | exact y_neqnS rfl rfl | exact y_neqnP rfl rfl) | (apply m_op .leq; first | exact y_leq rfl rfl | exact y_leqS rfl rfl) | (apply m_op .gtr; first | exact y_gtr rfl rfl | exact y_gtrS rfl rfl) | (apply m_op .geq; first | exact y_geq rfl rfl | exact y_geqS rfl rfl) | (apply m_op .add; first | exact y_add64 rfl rfl (by omega) (by omega) | exact y_add rfl rfl | exact y_addS rfl rfl (by omega)) | (apply m_op .sub; first | exact y_sub64 rfl rfl (by omega) (by omega) | exact y_sub rfl rfl) | (apply m_op .mul; first | exact y_mul64 rfl rfl (by omega) (by omega) | exact y_mul rfl rfl) | (apply m_op .rem; exact y_rem rfl rfl (by omega)) | (apply m_op .quo; exact y_quo rfl rfl (by omega)) | (apply m_op .shl; exact y_shl rfl rfl (by omega)) | (apply m_op .shr; exact y_shr rfl rfl (by omega)) | (apply m_op .and; exact y_and rfl rfl) | (apply m_op .or; exact y_or rfl rfl) | (apply m_op .xor; exact y_xor rfl rfl) | (apply m_op .andNot; exact y_andNot rfl rfl)) | (apply m_loadS; first | exact y_l1b (i := 0) hw rfl rfl rfl | exact y_l1b (i := 1) hw rfl rfl rfl | exact y_l1b (i := 2) hw rfl rfl rfl | exact y_l1b (i := 3) hw rfl rfl rfl | exact y_l1b (i := 4) hw rfl rfl rfl | exact y_l1b (i := 5) hw rfl rfl rfl | exact y_l1b (i := 6) hw rfl rfl rfl | exact y_loadEf rfl (RepS.rd (by assumption) hw) (rows_map (by assumption)) rfl | exact y_loadEf2 rfl (RepS.rd (by assumption) hw) (rows_map (by assumption)) rfl | exact y_loadE1 rfl (RepS.rd (by assumption) hw) (rows_map (by assumption)) | exact y_loadF rfl (RepS.rd (by assumption) hw) (by assumption) | exact y_loadEf rfl (RdS.rd (by assumption) hw) (rows_map (by assumption)) rfl | exact y_loadEf2 rfl (RdS.rd (by assumption) hw) (rows_map (by assumption)) rfl | exact y_loadE1 rfl (RdS.rd (by assumption) hw) (rows_map (by assumption)) | exact y_loadF rfl (RdS.rd (by assumption) hw) (by assumption) | exact y_loadEf rfl (RdS.rd (by assumption) hw.left) (rows_map (by assumption)) rfl | exact y_loadEf2 rfl (RdS.rd (by assumption) hw.left) (rows_map (by assumption)) rfl | exact y_loadE1 rfl (RdS.rd (by assumption) hw.left) (rows_map (by assumption)) | exact y_loadF rfl (RdS.rd (by assumption) hw.left) (by assumption) | exact y_loadEf rfl (Wd.own_rd (i := 0) hw rfl) (rows_map (by assumption)) rfl | exact y_loadEf2 rfl (Wd.own_rd (i := 0) hw rfl) (rows_map (by assumption)) rfl | exact y_loadE1 rfl (Wd.own_rd (i := 0) hw rfl) (rows_map (by assumption)) | exact y_loadF rfl (Wd.own_rd (i := 0) hw rfl) (by assumption) | exact y_loadEf rfl (Wd.own_rd (i := 1) hw rfl) (rows_map (by assumption)) rfl | exact y_loadEf2 rfl (Wd.own_rd (i := 1) hw rfl) (rows_map (by assumption)) rfl | exact y_loadE1 rfl (Wd.own_rd (i := 1) hw rfl) (rows_map (by assumption)) | exact y_loadF rfl (Wd.own_rd (i := 1) hw rfl) (by assumption) | exact y_loadEf rfl (Wd.own_rd (i := 2) hw rfl) (rows_map (by assumption)) rfl | exact y_loadEf2 rfl (Wd.own_rd (i := 2) hw rfl) (rows_map (by assumption)) rfl | exact y_loadE1 rfl (Wd.own_rd (i := 2) hw rfl) (rows_map (by assumption)) | exact y_loadF rfl (Wd.own_rd (i := 2) hw rfl) (by assumption) | exact y_loadEf rfl (Wd.own_rd (i := 3) hw rfl) (rows_map (by assumption)) rfl | exact y_loadEf2 rfl (Wd.own_rd (i := 3) hw rfl) (rows_map (by assumption)) rfl | exact y_loadE1 rfl (Wd.own_rd (i := 3) hw rfl) (rows_map (by assumption)) | exact y_loadF rfl (Wd.own_rd (i := 3) hw rfl) (by assumption)) | (apply m_loadA; first | exact y_lwb (i := 0) hw rfl rfl rfl | exact y_lwb (i := 1) hw rfl rfl rfl | exact y_lwb (i := 2) hw rfl rfl rfl | exact y_lwb (i := 3) hw rfl rfl rfl | exact y_lwb (i := 4) hw rfl rfl rfl | exact y_lwb (i := 5) hw rfl rfl rfl | exact y_lwb (i := 6) hw rfl rfl rfl | exact y_loadE rfl (RepS.rd (by assumption) hw) (rows_map (by assumption)) | exact y_loadEsub rfl (RepS.rd (by assumption) hw) (rows_map (by assumption)) rfl rfl | exact y_loadE rfl (RdS.rd (by assumption) hw) (rows_map (by assumption)) | exact y_loadEsub rfl (RdS.rd (by assumption) hw) (rows_map (by assumption)) rfl rfl | exact y_loadE rfl (RdS.rd (by assumption) hw.left) (rows_map (by assumption)) | exact y_loadEsub rfl (RdS.rd (by assumption) hw.left) (rows_map (by assumption)) rfl rfl | exact y_loadE rfl (Wd.own_rd (i := 0) hw rfl) (rows_map (by assumption)) | exact y_loadEsub rfl (Wd.own_rd (i := 0) hw rfl) (rows_map (by assumption)) rfl rfl | exact y_loadE rfl (Wd.own_rd (i := 1) hw rfl) (rows_map (by assumption)) | exact y_loadEsub rfl (Wd.own_rd (i := 1) hw rfl) (rows_map (by assumption)) rfl rfl | exact y_loadE rfl (Wd.own_rd (i := 2) hw rfl) (rows_map (by assumption)) | exact y_loadEsub rfl (Wd.own_rd (i := 2) hw rfl) (rows_map (by assumption)) rfl rfl | exact y_loadE rfl (Wd.own_rd (i := 3) hw rfl) (rows_map (by assumption)) | exact y_loadEsub rfl (Wd.own_rd (i := 3) hw rfl) (rows_map (by assumption)) rfl rfl | exact y_lpb (i := 0) hw rfl rfl rfl rfl | exact y_lpb (i := 1) hw rfl rfl rfl rfl | exact y_lpb (i := 2) hw rfl rfl rfl rfl | exact y_lpb (i := 3) hw rfl rfl rfl rfl | exact y_lpb (i := 4) hw rfl rfl rfl rfl | exact y_lpb (i := 5) hw rfl rfl rfl rfl | exact y_lpb (i := 6) hw rfl rfl rfl rfl) | (apply m_field; exact y_field rfl) | (apply g_idx; first | exact y_idxI hw (by assumption) rfl rfl (by omega) (by omega) | exact y_idxO (j := 0) hw rfl rfl rfl (by omega) (by omega) | exact y_idxO (j := 1) hw rfl rfl rfl (by omega) (by omega) | exact y_idxO (j := 2) hw rfl rfl rfl (by omega) (by omega) | exact y_idxO (j := 3) hw rfl rfl rfl (by omega) (by omega) | exact y_idxD (RdS.rd (by assumption) hw) rfl rfl (by omega) (by omega) | exact y_idxD (RdS.rd (by assumption) hw.left) rfl rfl (by omega) (by omega)) | (apply g_call; first | exact y_lenS rfl | exact y_lenL rfl | exact y_cap rfl | exact y_min2 rfl rfl | exact y_max2 rfl rfl | exact y_lenMs (i := 0) hw rfl rfl | exact y_lenMs (i := 1) hw rfl rfl | exact y_lenMs (i := 2) hw rfl rfl | exact y_lenMs (i := 3) hw rfl rfl | exact y_lenMs (i := 4) hw rfl rfl) | (apply m_pick; first | exact y_pick_and rfl rfl rfl | exact y_pick_or rfl rfl rfl | exact y_pickT rfl rfl | exact y_pickF rfl rfl) | (apply m_not; exact y_not rfl) | (apply m_extract; exact y_extract rfl rfl) | (apply m_nil; exact y_nil rfl) | (apply m_build; exact y_build rfl) | (apply m_index; exact y_idxS rfl rfl (by omega) (by omega)) | (apply m_lookup; first | exact y_lookupS2 (i := 0) hw rfl rfl rfl rfl | exact y_lookupS1 (i := 0) hw rfl rfl rfl rfl | exact y_lookupS2 (i := 1) hw rfl rfl rfl rfl | exact y_lookupS1 (i := 1) hw rfl rfl rfl rfl | exact y_lookupS2 (i := 2) hw rfl rfl rfl rfl | exact y_lookupS1 (i := 2) hw rfl rfl rfl rfl | exact y_lookupS2 (i := 3) hw rfl rfl rfl rfl | exact y_lookupS1 (i := 3) hw rfl rfl rfl rfl | exact y_lookupS2 (i := 4) hw rfl rfl rfl rfl | exact y_lookupS1 (i := 4) hw rfl rfl rfl rfl) | (apply m_slice; first | exact y_sliceL rfl rfl (by omega) (by omega) | exact y_sliceH rfl rfl (by omega) (by omega) | exact y_sliceLH rfl rfl rfl (by omega) (by omega) (by omega) | exact y_sliceLHM rfl rfl rfl rfl (by omega) (by omega) (by omega) (by omega) | exact y_sliceSLH rfl rfl rfl (by omega) (by omega) (by omega) | exact y_sliceSL rfl rfl (by omega) (by omega) | exact y_sliceSH rfl rfl (by omega) (by omega)) | (apply m_conv; exact y_convI rfl) | (apply m_neg; exact y_neg64 rfl (by omega) (by omega))) : LX P n Q (o :: l) ρ w := LX_step (hy.step h) hg hd hf

/-- **One round of a loop over a function.** -/
theorem round_any {Γ : Gho} {S : List Res} {l fn : Nat} {r : Loop} {tmps : Array Value} {assign body : Code} {R : Ending → World → Prop} (hr : r.state = .ready) (hp : r.pending = none) (hn : tmps.size = n) (hw : Wd Γ (.blk l (.loop r) :: S) w)
    (h : WF (some l) [] P n assign (fun e ρ1 w1 => e = .normal ∧ ∃ S1, Wd Γ (.blk l (.loop r) :: S1) w1 ∧ ∀ w2, Wd Γ (.blk l (.loop { r with state := .busy }) :: S1) w2 →
      WF (some l) [] P n body (fun e _ w3 => e = .normal ∧ ∃ S2, Wd Γ (.blk l (.loop { r with state := .busy }) :: S2) w3 ∧ ∀ w4, Wd Γ (.blk l (.loop r) :: S2) w4 → R (.returned (.bool true)) w4) ρ1 w2) (fun t => tmps.getD t undef) w) :
    RoundIn Fence.wide 0 P l fn tmps assign body w R := by
  refine roundIn_of_wpIn trivial ?_
  have h1 := h { tmps := tmps, defers := [] } rfl hn rfl
  refine wpIn_mono h1 ?_
  rintro e a1 w1 ⟨hd1, hs1, he, S1, hw1, hrest⟩
  subst he
  have hl1 := hw1.at_blk (i := 0) rfl
  have hlt1 : l < w1.heap.size := (Array.getElem?_eq_some_iff.1 hl1).1
  refine ⟨_, run_beginRound hl1 hr, ?_⟩
  have hw2 : Wd Γ (.blk l (.loop { r with state := .busy }) :: S1) (w1.putObj l (.loop { r with state := .busy })) :=
    hw1.set_blk (i := 0) rfl ⟨rfl, rfl, rfl, Nat.le_refl _, by simp⟩ (World.putObj_heap_same hlt1) fun k _ hne => World.putObj_heap_other hne
  refine wpIn_mono (hrest _ hw2 a1 hd1 hs1 rfl) ?_
  rintro e a3 w3 ⟨hd3, hs3, he, S2, hw3, hfin⟩
  subst he
  have hl3 := hw3.at_blk (i := 0) rfl
  have hlt3 : l < w3.heap.size := (Array.getElem?_eq_some_iff.1 hl3).1
  refine ⟨_, _, run_endRound none hl3, ?_⟩
  refine hfin _ ?_
  have hre : ({ { r with state := .busy } with state := if (none : Option Code).isNone then .ready else .done, pending := none } : Loop) = r := by
    cases r; simp at hr hp ⊢; exact ⟨hr.symm, hp.symm⟩
  have := hw3.set_blk (i := 0) (w' := w3.putObj l (.loop { { r with state := .busy } with state := if (none : Option Code).isNone then .ready else .done, pending := none })) rfl ⟨rfl, rfl, rfl, Nat.le_refl _, by simp⟩ (World.putObj_heap_same hlt3) fun k _ hne => World.putObj_heap_other hne
  rw [hre] at this ⊢
  exact this

/-- What yield does for whom it is handed to: I says what stands when xs have come. -/
def YieldC (P : Program) (Γ : Gho) (l : Nat) (N : Nat) {α : Type} (vl : α → Value) (I : List α → List Res) : Prop :=
  ∀ xs x R w, xs.length < N → Wd Γ (I xs ++ R) w → ∃ f tmps assign body, (Instr.yield l #[vl x]).run P w = .ok (.round l f tmps assign body) w ∧
    RoundIn Fence.wide 0 P l f tmps assign body w fun e w' => e = .returned (.bool true) ∧ Wd Γ (I (xs ++ [x]) ++ R) w'
theorem LX_yield {α : Type} {vl : α → Value} {I : List α → List Res} {R : List Res} {l N : Nat} {Γ : Gho} {xs : List α} {x : α} {t : Tmp} {arg : Operand} {tys : Array TypeId} {d : Option Tmp} {ty : TypeId} {pos : String} {es : Array Edge} {rest : List Oper}
    (hY : YieldC P Γ l N vl I) (hN : xs.length < N) (hw : Wd Γ (I xs ++ R) w) (h : ∀ w', Wd Γ (I (xs ++ [x]) ++ R) w' → LX P n Q rest (putO ρ d (.bool true)) w')
    (ht : ρ t = .func (.yield l) #[] #[] := by exact rfl) (hx : ev ρ arg = vl x := by exact rfl) (hd : okDst n d = true := by exact rfl) :
    LX P n Q (⟨d, .call { callee := .value (.tmp t), args := #[arg], argTypes := tys }, ty, pos, es, none⟩ :: rest) ρ w := by
  refine ⟨⟨rfl, hd, rfl⟩, ?_⟩
  obtain ⟨f, tmps, assign, body, h1, h2⟩ := hY xs x R w hN hw
  have hr : (execOp (ev ρ) ⟨d, .call { callee := .value (.tmp t), args := #[arg], argTypes := tys }, ty, pos, es, none⟩).run P w = .ok (.round l f tmps assign body) w := by
    simp only [execOp, resolve, ev, ht, Deferred.ofValue, Sem.run_bind, Sem.run_pure, Result.andThen_ok, invoke]
    have ha : (#[] ++ #[arg].map (ev ρ) : Array Value) = #[vl x] := by simp [hx]
    first | (rw [ha]; exact h1) | (simp only [List.map_toArray, List.map_cons, List.map_nil, hx]; exact h1)
  unfold StepX
  rw [hr]
  exact h2.mono fun e w' ⟨he, hw'⟩ => ⟨_, he, h w' hw'⟩

/-- **The statement 'for .. := range f'.** -/
theorem wp_rangeFunc {Γ : Gho} {S : List Res} {g : Operand} {ps : Array Tmp} {assign body : Code} {Q : Exit → Act → World → Prop} {a : Act} {f : Nat} {fst cap : Array Value} [FnOk P f] (hw : Wd Γ S w) (hg : a.eval g = .func (.func f) fst cap)
    (h : ∀ (rc : Loop) r l w1, rc.state = .ready → rc.pending = none → rc.tmps = a.tmps → rc.params = ps → rc.assign = assign → rc.body = body → Wd Γ (.blk l (.loop rc) :: .blk r (.deferred (some [])) :: S) w1 →
      Calls P f (fst ++ #[.func (.yield l) #[] #[]] ++ cap) w1 fun e w3 => (∃ v, e = .returned v) ∧ ∃ S', Wd Γ (.blk l (.loop rc) :: .blk r (.deferred (some [])) :: S') w3 ∧
        ∀ w4, Wd Γ (.blk r (.deferred (some [])) :: S') w4 → Q .normal { a with defers := { target := .collected r, args := #[] } :: a.defers } w4) :
    (Code.rangeFunc g ps assign body).wpIn Fence.wide 0 P Q a w := by
  refine wpIn_rangeFunc fun fn _ => ?_
  have hw1 := (hw.alloc (.deferred (some []))).alloc (.loop { state := .ready, pending := none, fn, tmps := a.tmps, params := ps, assign, body, defers := w.heap.size })
  have hres : (resolve a.eval (rangeCall g (w.heap.size + 1)) 0).run P ((w.alloc (.deferred (some []))).alloc (.loop { state := .ready, pending := none, fn, tmps := a.tmps, params := ps, assign, body, defers := w.heap.size })) =
      .ok { target := .fn (.func f) cap, args := fst ++ #[.func (.yield (w.heap.size + 1)) #[] #[]] } ((w.alloc (.deferred (some []))).alloc (.loop { state := .ready, pending := none, fn, tmps := a.tmps, params := ps, assign, body, defers := w.heap.size })) := by
    have hmap : (#[Operand.const (Value.func (Fn.yield (w.heap.size + 1)) #[] #[])] : Array Operand).map a.eval = #[Value.func (Fn.yield (w.heap.size + 1)) #[] #[]] := by simp [Act.eval]
    simp only [resolve, rangeCall, hg, Deferred.ofValue, Sem.run_pure, hmap]
  refine ⟨_, _, _, _, _, f, _, _, run_enterLoop_outer fn a.tmps ps assign body, hres, fun _ _ => trivial, by simp only [invoke]; exact run_callFunc _, fun hx => by simp [Fence.wide] at hx, ?_⟩
  refine (callsIn_wide (n := 0 - 1)).2 ((h _ w.heap.size _ _ rfl rfl rfl rfl rfl rfl (by simpa using hw1)).mono ?_)
  rintro e w3 ⟨⟨v, rfl⟩, S', hw3, hfin⟩
  have hl3 := hw3.at_blk (i := 0) (by rfl)
  have hlt3 : w.heap.size + 1 < w3.heap.size := by
    have := (Array.getElem?_eq_some_iff.1 hl3).1
    simpa using this
  refine ⟨none, _, run_endLoop (by simpa using hl3) (by simp), ?_⟩
  refine hfin _ ?_
  have := hw3.set_blk (i := 0) (w' := w3.putObj (w.heap.size + 1) (.loop { state := .exhausted, pending := none, fn, tmps := a.tmps, params := ps, assign, body, defers := w.heap.size })) (by rfl) ⟨rfl, rfl, rfl, Nat.le_refl _, by simp⟩ (by simpa using World.putObj_heap_same hlt3) (fun k _ hne => World.putObj_heap_other (by simpa using hne))
  exact this.drop
end
attribute [irreducible] StepX
end Mk
namespace Mk
theorem wpIn_WF {P : Program} {n : Nat} {ds : List Deferred} {c : Code} {a : Act} {w : World} {Q' : Exit → Act → World → Prop} (h : WF none ds P n c (fun e ρ w => ∀ a, a.defers = ds → a.tmps.size = n → fnOf a = ρ → Q' e a w) (fnOf a) w) (ha : a.defers = ds) (hs : a.tmps.size = n) : c.wpIn Fence.wide 0 P Q' a w :=
  wpIn_mono (h a ha hs rfl) fun e a w ⟨x, y, z⟩ => z a x y rfl
theorem fnOf_entry {args : Array Value} {n : Nat} (hn : Nat.ble args.size n = true) : fnOf { tmps := args ++ Array.replicate (n - args.size) undef, defers := [] } = entryFr args := by
  funext t
  simp only [fnOf, entryFr, Array.getD_eq_getD_getElem?, Array.getElem?_append]
  have hle : args.size ≤ n := Nat.le_of_ble_eq_true hn
  by_cases ht : t < args.size
  · rw [if_pos ht]
  · rw [if_neg ht, Array.getElem?_eq_none (by omega : args.size ≤ t)]
    simp only [Array.getElem?_replicate]
    split <;> rfl
/-- A function that is ranged over: it hands on values, xs with 'V xs'. -/
def SeqC (P : Program) (Γ : Gho) (g : Nat) (fst cap : Array Value) (N : Nat) {α : Type} (vl : α → Value) (R : List Res) (V : List α → Prop) : Prop :=
  ∀ l I w, YieldC P Γ l N vl I → Wd Γ (I [] ++ R) w → Calls P g (fst ++ #[.func (.yield l) #[] #[]] ++ cap) w fun e w' => (∃ v, e = .returned v) ∧ ∃ xs : List α, V xs ∧ Wd Γ (I xs ++ R) w'
end Mk
namespace Mk
section
variable {P : Program} {n : Nat} {Γ : Gho} {S : List Res} {Q : Exit → Fr → World → Prop} {ρ : Fr} {w : World} {rest : List Oper}
variable {d : Option Tmp} {T U ty : TypeId} {pos : String} {es : Array Edge} {x y z : Operand} {v : Value}
theorem xAlloc {cs : List Value} [TZ P T cs] (h : ∀ b w', Wd Γ (.blk b (.cells cs.toArray T) :: S) w' → LX P n Q rest (putO ρ d (.pointer (some ⟨b, 0, none⟩))) w') (hd : okDst n d = true := by exact rfl) (hw : Wd Γ S w := by exact hw) :
    LX P n Q (⟨d, .alloc T, ty, pos, es, none⟩ :: rest) ρ w := LX_step (s_alloc hw h) rfl hd rfl
theorem xBox (h : ∀ b w', Wd Γ (.blk b (.cells v.cells T) :: S) w' → LX P n Q rest (putO ρ d (.pointer (some ⟨b, 0, none⟩))) w') (hx : ev ρ x = v := by first | exact (rfl : _ = Value.int _ _) | exact (rfl : _ = Value.bool _) | exact (rfl : _ = Value.string _) | exact (rfl : _ = Value.slice _ _ _) | exact (rfl : _ = Value.pointer _) | exact (rfl : _ = Value.agg _) | exact (rfl : _ = Value.map _) | exact (rfl : _ = Value.tuple _) | exact (rfl : _ = Value.func _ _ _) | exact (rfl : _ = gv _ _) | exact rfl) (hd : okDst n d = true := by exact rfl) (hw : Wd Γ S w := by exact hw) :
    LX P n Q (⟨d, .box T x, ty, pos, es, none⟩ :: rest) ρ w := LX_step (s_box hw hx h) rfl hd rfl
theorem xStore {b o i m : Nat} {vs : List Value} {cs : Array Value} {E : TypeId} [hn : TSz P T m] (h : ∀ w', Wd Γ (S.set i (.blk b (.cells (putCells cs o vs) E))) w' → LX P n Q rest ρ w') (hw : Wd Γ S w := by exact hw) (hx : ev ρ x = .pointer (some ⟨b, o, none⟩) := by exact rfl)
    (hy : ev ρ y = v := by first | exact (rfl : _ = Value.int _ _) | exact (rfl : _ = Value.bool _) | exact (rfl : _ = Value.string _) | exact (rfl : _ = Value.slice _ _ _) | exact (rfl : _ = Value.pointer _) | exact (rfl : _ = Value.agg _) | exact (rfl : _ = Value.map _) | exact (rfl : _ = Value.tuple _) | exact (rfl : _ = Value.func _ _ _) | exact (rfl : _ = gv _ _) | exact rfl) (hv : v.cells.toList = vs := by exact rfl) (hl : vs.length = m := by exact rfl) (h1 : vs.all (·.oneCell') = true := by exact rfl) (hi : S[i]? = some (.blk b (.cells cs E)) := by first | exact (rfl : (_ : List Res)[0]? = _) | exact (rfl : (_ : List Res)[1]? = _) | exact (rfl : (_ : List Res)[2]? = _) | exact (rfl : (_ : List Res)[3]? = _) | exact (rfl : (_ : List Res)[4]? = _) | exact (rfl : (_ : List Res)[5]? = _) | exact (rfl : (_ : List Res)[6]? = _) | exact (rfl : (_ : List Res)[7]? = _)) (ho : o + m ≤ cs.size := by exact Nat.le_of_ble_eq_true rfl) :
    LX P n Q (⟨none, .store T x y, ty, pos, es, none⟩ :: rest) ρ w := LX_step (s_store hn.h hw hx hy hv hl (fun u hu => (List.all_eq_true.1 h1) u hu) hi ho h) rfl rfl rfl
theorem xBuildSlice {E by' len sz : Nat} {zs : List Value} {parts : Array (Nat × Operand)} {cells : List Value} (rws : List (List Value)) [TL P T E sz by' zs] (h : ∀ a w', Wd Γ (.own (.slice (some a) len len) E sz rws :: S) w' → LX P n Q rest (putO ρ d (.slice (some a) len len)) w')
    (hf : fillL (fun i => some (i * sz, sz)) ((List.range (len * sz)).map fun i => zs.getD (i % sz) undef) (parts.toList.map fun p => (p.1, ev ρ p.2)) = some cells := by exact rfl) (hrw : rws.flatten = cells := by exact rfl) (hlen : rws.length = len := by exact rfl) (hr : rws.all (fun r => Nat.beq r.length sz) = true := by exact rfl) (hbig : Nat.ble (len * sz) 16777216 = true := by exact rfl) (hw : Wd Γ S w := by exact hw) (hd : okDst n d = true := by exact rfl) :
    LX P n Q (⟨d, .buildSlice T len parts, ty, pos, es, none⟩ :: rest) ρ w := LX_step (s_buildSlice hw hf hrw hlen (fun r hm => Nat.eq_of_beq_eq_true ((List.all_eq_true.1 hr) r hm)) (Nat.le_of_ble_eq_true hbig) h) rfl hd rfl
theorem xApp {E by' i sz m c m2 c2 : Nat} {zs : List Value} {a a2 : Option Addr} {rows rows2 : List (List Value)} [TL P T E sz by' zs] (h : ∀ v' w', Wd Γ (S.set i (.own v' E sz (rows ++ rows2))) w' → LX P n Q rest (putO ρ d v') w') (hr2 : Rd w a2 sz rows2) (hx : ev ρ x = .slice a m c := by exact rfl) (hy : ev ρ y = .slice a2 m2 c2 := by exact rfl) (hw : Wd Γ S w := by exact hw)
    (hi : S[i]? = some (.own (.slice a m c) E sz rows) := by first | exact (rfl : (_ : List Res)[0]? = _) | exact (rfl : (_ : List Res)[1]? = _) | exact (rfl : (_ : List Res)[2]? = _) | exact (rfl : (_ : List Res)[3]? = _) | exact (rfl : (_ : List Res)[4]? = _) | exact (rfl : (_ : List Res)[5]? = _) | exact (rfl : (_ : List Res)[6]? = _) | exact (rfl : (_ : List Res)[7]? = _)) (h1 : rows2.flatten.all (·.oneCell') = true := by exact rfl) (hm : m2 = rows2.length := by exact rfl) (hb : (m + m2) * by' ≤ 140737488355328 := by omega) (h63 : m + m2 ≤ 9223372036854775807 := by omega) (hd : okDst n d = true := by exact rfl) :
    LX P n Q (⟨d, .call { callee := .builtin .append, args := #[x, y], argTypes := #[T, T] }, ty, pos, es, none⟩ :: rest) ρ w := LX_step (s_append hw hx hy hi hr2 hm (fun u hu => (List.all_eq_true.1 h1) u hu) hb h63 h) rfl hd rfl
end
end Mk
namespace Mk
theorem oneParam (p : Nat) (v : Value) (tm : Array Value) : ((#[p] : Array Nat).zip #[v]).foldl (fun tmps (t, a) => tmps.setIfInBounds t a) tm = tm.setIfInBounds p v := by simp
theorem frParam (a : Act) (p : Nat) (v : Value) (h : p < a.tmps.size) : (fun t => (a.tmps.setIfInBounds p v).getD t undef) = upd (fnOf a) p v := fnOf_put a p v h
end Mk
namespace Mk
/-- Which entries have been seen, by their places. -/
structure Seen (en : Array MapEntry) (seen : Array Nat) (idx : List Nat) : Prop where
  nd : idx.Nodup
  lt : ∀ i ∈ idx, i < en.size
  eq : seen.toList = idx.map fun i => (en[i]?.map (·.born)).getD 0
theorem Seen.nil {en : Array MapEntry} : Seen en #[] [] := ⟨List.nodup_nil, by simp, rfl⟩
theorem Seen.next {en : Array MapEntry} {seen : Array Nat} {idx : List Nat} {e : MapEntry} (h : Seen en seen idx) (he : e ∈ (leftOf en seen).toList) : ∃ i, en[i]? = some e ∧ i ∉ idx ∧ i < en.size ∧ Seen en (seen.push e.born) (idx ++ [i]) := by
  obtain ⟨h1, h2⟩ := left_mem.1 he
  obtain ⟨i, hi, hie⟩ := List.getElem_of_mem h1
  simp only [Array.length_toList] at hi
  have hie' : en[i]? = some e := by rw [Array.getElem?_eq_getElem hi]; simpa using hie
  have hn : i ∉ idx := fun hin => h2 (by
    rw [h.eq]
    exact List.mem_map.2 ⟨i, hin, by rw [hie']; rfl⟩)
  refine ⟨i, hie', hn, hi, ⟨?_, ?_, ?_⟩⟩
  · rw [List.nodup_append]
    exact ⟨h.nd, by simp, fun a ha b hb => by simp at hb; subst hb; exact fun e => hn (e ▸ ha)⟩
  · intro j hj
    rcases List.mem_append.1 hj with hj | hj
    · exact h.lt j hj
    · simp at hj; subst hj; exact hi
  · rw [Array.toList_push, h.eq, List.map_append]
    simp [hie']
theorem Seen.all {en : Array MapEntry} {seen : Array Nat} {idx : List Nat} (h : Seen en seen idx) (hb : (en.toList.map (·.born)).Nodup) (h0 : (leftOf en seen).size = 0) : idx.Perm (List.range en.size) := by
  refine (List.perm_ext_iff_of_nodup h.nd List.nodup_range).2 fun i => ⟨fun hi => List.mem_range.2 (h.lt i hi), fun hi => ?_⟩
  have hi := List.mem_range.1 hi
  have hnl : en[i] ∉ (leftOf en seen).toList := fun hm => by
    have : (leftOf en seen) = #[] := Array.eq_empty_of_size_eq_zero h0
    rw [this] at hm; simp at hm
  have hb2 : en[i].born ∈ seen.toList := Classical.byContradiction fun hc => hnl (left_mem.2 ⟨by simp, hc⟩)
  rw [h.eq] at hb2
  obtain ⟨j, hj, hje⟩ := List.mem_map.1 hb2
  have hjl := h.lt j hj
  rw [Array.getElem?_eq_getElem hjl] at hje
  simp only [Option.map_some, Option.getD_some] at hje
  have : j = i := by
    have hp := List.pairwise_iff_getElem.1 hb
    rcases Nat.lt_trichotomy j i with h1 | h1 | h1
    · exact absurd (by rw [List.getElem_map, List.getElem_map]; simpa using hje) (hp j i (by simpa using hjl) (by simpa using hi) h1)
    · exact h1
    · exact absurd (by rw [List.getElem_map, List.getElem_map]; simpa using hje.symm) (hp i j (by simpa using hi) (by simpa using hjl) h1)
  rwa [this] at hj
theorem Seen.len {en : Array MapEntry} {seen : Array Nat} {idx : List Nat} (h : Seen en seen idx) : idx.length ≤ en.size := nodup_le _ _ h.nd h.lt
theorem range_map_get {γ δ : Type} (l : List γ) (d : γ) (q : γ → δ) : (List.range l.length).map (fun i => q (l.getD i d)) = l.map q := by
  refine List.ext_getElem? fun i => ?_
  simp only [List.getElem?_map]
  by_cases hi : i < l.length
  · simp [hi]
  · rw [List.getElem?_eq_none (by simp; omega), List.getElem?_eq_none (by omega)]; rfl
end Mk
end
/- The library's sort, carried into this world of words. -/
section
open Go
namespace Mk

/-- All of memory stands for ever. -/
def allG (w : World) : Gho := ⟨fun b => w.heap[b]?, w.os, w.tape, w.output, w.drawn⟩
theorem allG_wd (w : World) : Wd (allG w) [] w := ⟨rfl, rfl, rfl, Nat.le_refl _, fun b o h => h, [], trivial, by simp, by simp⟩
theorem allG_grow {w w' : World} {S : List Res} (h : Wd (allG w) S w') : ∃ q os', w' = Go.Sort.grow (w.drewN q) os' := by
  have hsz : w.heap.size ≤ w'.heap.size := by
    by_cases h0 : w.heap.size = 0
    · omega
    · have hl : w.heap.size - 1 < w.heap.size := by omega
      have := h.imm (w.heap.size - 1) w.heap[w.heap.size - 1] (by show w.heap[_]? = _; simp)
      have := (Array.getElem?_eq_some_iff.1 this).1
      omega
  refine ⟨w'.drawn - w.drawn, w'.heap.extract w.heap.size w'.heap.size, ?_⟩
  have hh : w'.heap = w.heap ++ w'.heap.extract w.heap.size w'.heap.size := by
    refine Array.ext_getElem? fun i => ?_
    rw [Array.getElem?_append]
    split
    · rename_i hi
      rw [h.imm i w.heap[i] (by show w.heap[i]? = _; simp [hi]), Array.getElem?_eq_getElem hi]
    · rename_i hi
      simp only [Array.getElem?_extract]
      split
      · congr 1; omega
      · rw [Array.getElem?_eq_none (by omega)]
  have hd : w.drawn ≤ w'.drawn := h.dr
  cases w' with
  | mk hp tp dr os out =>
    simp only at hh hd
    have e1 : os = w.os := h.os
    have e2 : tp = w.tape := h.tape
    have e3 : out = w.output := h.out
    subst e1 e2 e3
    unfold Go.Sort.grow World.drewN
    simp only [World.mk.injEq]
    exact ⟨hh, trivial, by omega, trivial, trivial⟩

section
variable {P : Program} {Γ : Gho} {S : List Res} {w : World} {α : Type} [Inhabited α] {E k n c g i : Nat} {enc : α → List Value}
attribute [local semireducible] Res.own

theorem own_block {v : Value} {sz e : Nat} {rows : List (List Value)} (hw : Wd Γ S w) (hi : S[i]? = some (.own v e sz rows)) : ∃ a n c, v = .slice a n c ∧ n = rows.length ∧ n ≤ c ∧ c ≤ maxLen ∧ (c = 0 ∨ ∃ g cur, a = some ⟨g, 0, none⟩ ∧ g < w.heap.size ∧ w.heap[g]? = some (.cells cur e (0, 0)) ∧ cur.size = c * sz ∧ cur.toList.take (n * sz) = rows.flatten) := by
  obtain ⟨bs, _, a, n, c, h1, h2, h3, h4, h5⟩ := hw.own_holds hi
  refine ⟨a, n, c, h1, h2, h3, h4, h5.imp (fun h => h.1) ?_⟩
  rintro ⟨g, cur, g1, g2, g3, g4, g5⟩
  exact ⟨g, cur, g1, (Array.getElem?_eq_some_iff.1 g3).1, g3, g4, g5⟩

theorem flatK_toList (hk : ∀ x, (enc x).length = k) (xs : List α) : (Go.Sort.flatK enc k xs.toArray).toList = (xs.map enc).flatten := by
  have hl : ∀ r ∈ xs.map enc, r.length = k := fun r hr => by obtain ⟨x, _, rfl⟩ := List.mem_map.1 hr; exact hk x
  have h2 : (xs.map enc).flatten.length = xs.length * k := by rw [flatten_len hl, List.length_map]
  refine List.ext_getElem? fun t => ?_
  by_cases ht : t < xs.length * k
  · have hk0 : 0 < k := by
      rcases Nat.eq_zero_or_pos k with h0 | h0
      · subst h0; simp at ht
      · exact h0
    have h3 : t / k < xs.length := Nat.div_lt_of_lt_mul (by rw [Nat.mul_comm]; exact ht)
    have h4 : t % k < k := Nat.mod_lt _ hk0
    have h5 : (enc xs[t / k]).length = k := hk _
    have h6 := flatten_get (rows := xs.map enc) (i := t / k) (r := enc xs[t / k]) hl (by simp [h3]) (t % k) ((enc xs[t / k])[t % k]'(by omega)) (by simp [h5, h4])
    have h7 : t / k * k + t % k = t := by rw [Nat.mul_comm]; exact Nat.div_add_mod t k
    rw [h7] at h6
    rw [h6]
    have hs : t < (Go.Sort.flatK enc k xs.toArray).size := by simpa using ht
    rw [Array.getElem?_toList, Array.getElem?_eq_getElem hs, ← getElem!_pos (Go.Sort.flatK enc k xs.toArray) t hs, Go.Sort.get_flatK _ _ _ _ (by simpa using ht)]
    simp [h3, h5, h4]
  · rw [List.getElem?_eq_none (by simp; omega), List.getElem?_eq_none (by omega)]

theorem own_holdsK {xs : List α} (hk : ∀ x, (enc x).length = k) (hw : Wd Γ S w) (hi : S[i]? = some (.own (.slice (some ⟨g, 0, none⟩) n c) E k (xs.map enc))) (hc : 0 < c) : Go.Sort.HoldsK enc k w g 0 xs.toArray ∧ g < w.heap.size := by
  obtain ⟨a, n', c', e1, e2, e3, e4, e5⟩ := own_block hw hi
  cases e1
  rcases e5 with e5 | ⟨g', cur, g1, g2, g3, g4, g5⟩
  · omega
  cases g1
  refine ⟨fun j hj => ?_, g2⟩
  have hj' : j < xs.length * k := by simpa using hj
  rw [← flatK_toList hk] at g5
  have hn : n = xs.length := by simpa using e2
  subst hn
  have h1 : (cur.toList.take (xs.length * k))[j]? = cur[j]? := by rw [List.getElem?_take_of_lt hj', Array.getElem?_toList]
  rw [g5, Array.getElem?_toList, Array.getElem?_eq_getElem hj] at h1
  constructor
  · simp only [World.cell?, g3, Nat.zero_add, id]
    simp only [Option.isSome_none, Bool.false_eq_true, if_false]
    rw [← h1, getElem!_pos _ j hj]
  · simp [World.frozen?, g3]

theorem own_sortWorld {xs : List α} (hk : ∀ x, (enc x).length = k) (hw : Wd Γ S w) (hi : S[i]? = some (.own (.slice (some ⟨g, 0, none⟩) n c) E k (xs.map enc))) (hc : 0 < c) (dk : Array α) (hs : dk.size = xs.length) (m : Nat) (os : Array Obj) :
    Wd Γ (S.set i (.own (.slice (some ⟨g, 0, none⟩) n c) E k (dk.toList.map enc))) (Go.Proofs.sortWorldK enc k w g 0 m dk os) := by
  have hsz : (Go.Proofs.sortWorldK enc k w g 0 m dk os).heap.size = w.heap.size + os.size := by
    simp [Go.Proofs.sortWorldK, Go.Sort.grow, Go.Sort.putRowK, Go.Sort.putRow, Go.Sort.mapBlock, Go.Sort.ahead]
  refine hw.upd hi ⟨rfl, rfl, rfl, Nat.le_add_right _ _, by omega⟩ fun bs hr hnd hlt => ?_
  unfold Res.own at hr ⊢
  obtain ⟨h0, a', n', c', e1, e2, e3, e4, e5⟩ := hr
  cases e1
  rcases e5 with ⟨e5, _⟩ | ⟨g', cur, g1, rfl, g3, g4, g5⟩
  · omega
  cases g1
  have hn : n = xs.length := by simpa using e2
  subst hn
  have hglt : g < w.heap.size := hlt g (by simp)
  have hkk : ∀ b, b < w.heap.size → (Go.Proofs.sortWorldK enc k w g 0 m dk os).heap[b]? = (w.heap.modify g (Go.Sort.onCells (Go.Sort.putCells id 0 (Go.Sort.flatK enc k dk))))[b]? := fun b hb => by
    show ((w.heap.modify g _) ++ os)[b]? = _
    rw [Array.getElem?_append_left (by simpa using hb)]
  refine ⟨[g], ⟨fun r hr => ?_, _, _, _, rfl, by simp [hs], e3, e4, .inr ⟨g, Go.Sort.putCells id 0 (Go.Sort.flatK enc k dk) cur, rfl, rfl, ?_, ?_, ?_⟩⟩, by simp, fun b hb => ⟨by have := hlt b hb; omega, .inl hb⟩, fun b hb hne => ?_⟩
  · obtain ⟨x, _, rfl⟩ := List.mem_map.1 hr; exact hk x
  · show (Go.Proofs.sortWorldK enc k w g 0 m dk os).heap[g]? = _
    rw [hkk g hglt, Array.getElem?_modify, if_pos rfl]
    simp only [hp] at g3
    rw [g3]; rfl
  · rw [← g4]; simp [Go.Sort.putCells]
  · rw [show dk.toList.map enc = ((dk.toList).map enc) from rfl, ← flatK_toList hk]
    refine List.ext_getElem? fun j => ?_
    have hfs : (Go.Sort.flatK enc k dk.toList.toArray).size = xs.length * k := by simp [hs]
    by_cases hj : j < xs.length * k
    · have hjc : j < cur.size := by
        rw [g4]; exact Nat.lt_of_lt_of_le hj (Nat.mul_le_mul_right _ e3)
      rw [List.getElem?_take_of_lt hj, Array.getElem?_toList, Array.getElem?_toList, Array.getElem?_eq_getElem (by simpa [Go.Sort.putCells] using hjc), Array.getElem?_eq_getElem (by rw [hfs]; exact hj)]
      simp only [Go.Sort.putCells, Array.getElem_mapIdx, Nat.zero_le, Nat.sub_zero, Nat.zero_add, true_and, id]
      rw [if_pos (by simpa [hs] using hj), getElem!_pos _ j (by simpa [hs] using hj)]
    · rw [List.getElem?_eq_none (by simp; omega), List.getElem?_eq_none (by simp [hs]; omega)]
  · rw [hkk b hb, Array.getElem?_modify, if_neg (fun e => hne (by simp [e]))]

theorem permIn_list {d d' : Array α} (h : Go.Sort.PermIn 0 d.size d d') : d'.toList.Perm d.toList := by
  obtain ⟨h1, _, h2⟩ := h
  have e : ∀ x : Array α, x.size = d.size → x.extract 0 d.size = x := fun x hx => by rw [← hx]; simp
  rwa [e d' h1, e d rfl] at h2
theorem sortedIn_list {lt : α → α → Bool} {d : Array α} {m : Nat} (hm : m = d.size) (h : Go.Sort.SortedIn lt 0 m d) : d.toList.Pairwise fun a b => lt b a = false := by
  subst hm
  rw [List.pairwise_iff_getElem]
  intro i j hi hj hij
  have := h i j (Nat.zero_le _) hij (by simpa using hj)
  simp only [Array.length_toList] at hi hj
  simpa [hi, hj] using this

/-- **slices.SortFunc at structs.** What 'cmp' needs of memory is said at Γ, whatever the slice holds meanwhile. -/
theorem SortFunc_K {ρ : Go.Shelf.Ren} (L : Go.Proofs.SlLaysF0.n6 P ρ) (cf : α → α → Int) (f : Nat) (cap : List Value) [FnOk P f] (xs : List α) (v : Value) (hw : Wd Γ S w) (hi : S[i]? = some (.own v E k (xs.map enc)))
    (hk : ∀ x, (enc x).length = k) (h1 : ∀ x, ∀ u ∈ enc x, u.oneCell' = true) (hA : TA P (ρ.t 24) k) (hO : Go.Sort.SWO (Go.Proofs.ltOf cf)) (hlen : xs.length < 4611686018427387904)
    (hcmp : ∀ (dk : List α) w', Wd Γ (S.set i (.own v E k (dk.map enc))) w' → ∀ x y, Calls P f (#[.agg (enc x).toArray, .agg (enc y).toArray] ++ cap.toArray) w' fun e w'' => e = .returned (.int .i64 (cf x y)) ∧ ∃ S'', Wd (allG w') S'' w'') :
    Calls P (ρ.f 6) #[v, .func (.func f) #[] cap.toArray] w fun e w' => e = .returned (.tuple #[]) ∧ ∃ ys : List α, ys.Perm xs ∧ (ys.Pairwise fun a b => Go.Proofs.ltOf cf b a = false) ∧ Wd Γ (S.set i (.own v E k (ys.map enc))) w' := by
  obtain ⟨a, n, c, rfl, e2, e3, e4, e5⟩ := own_block hw hi
  have hn : n = xs.length := by simpa using e2
  by_cases h0 : n = 0
  · have hx : xs = [] := List.eq_nil_of_length_eq_zero (by omega)
    subst h0
    refine (Go.Proofs.AnyF.slices_SortFunc_none (P := P) (ρ := ρ) L a c _ w).mono ?_
    rintro e w' ⟨he, rfl⟩
    refine ⟨he, [], by rw [hx], List.Pairwise.nil, ?_⟩
    rw [hx] at hi
    have hset : S.set i (.own (.slice a 0 c) E k (([] : List α).map enc)) = S := by
      obtain ⟨hil, hie⟩ := List.getElem?_eq_some_iff.1 hi
      rw [← hie]; exact List.set_getElem_self hil
    rw [hset]; exact hw
  · have hc : 0 < c := by omega
    rcases e5 with e5 | ⟨g, cur, rfl, hg, hcur, hcs, htk⟩
    · omega
    obtain ⟨hH, hgl⟩ := own_holdsK hk hw hi hc
    have haggz : (∀ w, (isAgg (ρ.t 24)).run P w = .ok true w) ∧ ∀ w, (Go.sizeOf (ρ.t 24)).run P w = .ok k w := by
      have h := hA.h
      unfold aggSz at h
      cases hu : P.underlying (ρ.t 24) with
      | none => simp [hu] at h
      | some t =>
        simp [hu] at h
        cases hq : P.info? (ρ.t 24) with
        | none => simp [hq] at h
        | some q =>
          simp [hq] at h
          refine ⟨fun w => ?_, fun w => by simp [Go.sizeOf, typeInfo, hq, h.2]⟩
          unfold isAgg
          rw [Sem.run_bind, run_underlying hu w]
          cases t <;> simp_all [TypeDesc.isRow]
    have := Go.Proofs.AnyQ.slices_SortFunc L k haggz.1 haggz.2 enc hk h1 cf hO f cap.toArray g 0 c xs.toArray w (fun args w => run_callFunc args) (fun m os dk hdk x y => ?_) hH hgl (by simpa using hlen)
    · simp only [List.size_toArray] at this
      rw [← hn] at this
      refine this.mono ?_
      rintro e w' ⟨he, d', n', os, hp, hs, rfl⟩
      have hd : d'.size = xs.length := by have := hp.1; simpa using this
      refine ⟨he, d'.toList, by simpa using permIn_list (d := xs.toArray) (by simpa [← hn] using hp), sortedIn_list (m := n) (by omega) hs, own_sortWorld hk hw hi hc d' hd n' os⟩
    · have hw1 := own_sortWorld hk hw hi hc dk (by simpa using hdk) m os
      refine (hcmp dk.toList _ hw1 x y).mono ?_
      rintro e w'' ⟨he, S'', hw2⟩
      exact ⟨he, allG_grow hw2⟩
end
end Mk
end
/- More steps for regions that draw their order and change memory. -/
section
open Go
namespace Mk
section
variable {P : Program} {n : Nat} {ops : List Oper} {Γ : Gho} {S K : List Res} {wr tc stab : List (List Nat)} {Q : Fr → World → Prop} {QQ : Exit → Fr → World → Prop} {i : Nat} {rest : List Oper} {ρ : Fr} {w : World} {M : Nat → Fr → List Res} {v : Value}
variable {d : Option Tmp} {T U ty : TypeId} {pos : String} {es : Array Edge} {x y z : Operand}

theorem Wd.toEnd {r : Res} (h : Wd Γ (r :: S) w) : Wd Γ (S ++ [r]) w := h.perm (List.perm_append_singleton r S).symm
def pullL (i : Nat) (S : List Res) : List Res := match S[i]? with | some r => r :: S.eraseIdx i | none => S
def psL : List Nat → List Res → List Res
  | [], S => S
  | i :: is, S => psL is (pullL i S)
/-- Resources are brought to the front, one behind the other. -/
theorem Wd.ps {Γ : Gho} {w : World} : ∀ (is : List Nat) {S : List Res}, Wd Γ S w → Wd Γ (psL is S) w
  | [], _, h => h
  | i :: is, S, h => Wd.ps is (by
    unfold pullL
    split
    · rename_i r hr; exact h.pull hr
    · exact h)
/-- Resources are given up. -/
def dsL : List Nat → List Res → List Res
  | [], S => S
  | i :: is, S => dsL is (S.eraseIdx i)
theorem Wd.ds {Γ : Gho} {w : World} : ∀ (is : List Nat) {S : List Res}, Wd Γ S w → Wd Γ (dsL is S) w
  | [], _, h => h
  | i :: is, _, h => Wd.ds is (h.dropAt i)
theorem Wd.flip {A B : List Res} (h : Wd Γ (A ++ B) w) : Wd Γ (B ++ A) w := h.perm List.perm_append_comm
theorem Wd.dropEnd {A B C : List Res} (h : Wd Γ (A ++ (B ++ C)) w) : Wd Γ (A ++ B) w := by
  rw [← List.append_assoc] at h
  exact h.left
theorem Wd.right {S' : List Res} (h : Wd Γ (S' ++ S) w) : Wd Γ S w := (h.perm List.perm_append_comm).left
theorem Wd.toFront {r : Res} (h : Wd Γ (S ++ [r]) w) : Wd Γ (r :: S) w := h.perm (List.perm_append_singleton r S)

theorem W_mixE {id : Nat} {l : List Oper} (k : Nat) (wr tc stab : List (List Nat)) (h : MSw (mV P n l Γ K wr tc stab) (fun ρ w => QQ .normal ρ w) 0 l ⟨ρ, ML (List.replicate k fun _ => [])⟩)
    (hw : Wd Γ K w := by exact hw) (hm : P.follows .mixedOrders = true := by kernel_rfl) (hk : checkM n l wr tc stab = true := by kernel_rfl) : W P n (.region id l.toArray true) QQ ρ w :=
  W_mixed K _ wr tc stab (by
    have : ((List.range stab.length).flatMap fun x => ML (List.replicate k fun _ => []) x (ovr (stab.getD x []) ρ noFr)) = [] := by
      rw [List.flatMap_eq_nil_iff]
      intro x _
      unfold ML
      rw [List.getD_eq_getElem?_getD]
      cases hx : (List.replicate k fun _ : Fr => ([] : List Res))[x]? with
      | none => rfl
      | some q =>
        have := List.mem_of_getElem? hx
        rw [List.mem_replicate] at this
        rw [this.2]; rfl
    rw [this, List.append_nil]; exact hw) h hm hk
/-- One cell, that holds X. -/
theorem W_mix1 {id : Nat} {l : List Oper} (K X : List Res) (wr tc : List (List Nat)) (hw : Wd Γ (K ++ X) w) (h : MSw (mV P n l Γ K wr tc [[]]) (fun ρ w => QQ .normal ρ w) 0 l ⟨ρ, ML [fun _ => X]⟩)
    (hm : P.follows .mixedOrders = true := by kernel_rfl) (hk : checkM n l wr tc [[]] = true := by kernel_rfl) : W P n (.region id l.toArray true) QQ ρ w :=
  W_mixed K [fun _ => X] wr tc [[]] (by
    show Wd Γ (K ++ (X ++ [])) w
    rw [List.append_nil]; exact hw) h hm hk
/-- Two cells: the first holds X, the second is empty. -/
theorem W_mix2 {id : Nat} {l : List Oper} (K X : List Res) (wr tc stab : List (List Nat)) (hw : Wd Γ (K ++ X) w) (h : MSw (mV P n l Γ K wr tc stab) (fun ρ w => QQ .normal ρ w) 0 l ⟨ρ, ML [fun _ => X, fun _ => []]⟩) (hs : stab.length = 2 := by exact rfl)
    (hm : P.follows .mixedOrders = true := by kernel_rfl) (hk : checkM n l wr tc stab = true := by kernel_rfl) : W P n (.region id l.toArray true) QQ ρ w :=
  W_mixed K [fun _ => X, fun _ => []] wr tc stab (by
    have e : (List.range stab.length).flatMap (fun x => (ML [fun _ => X, fun _ => []]) x (ovr (stab.getD x []) ρ noFr)) = X := by
      rw [hs]
      show X ++ ([] ++ []) = X
      simp
    rw [e]; exact hw) h hm hk

/-- A store into a block of the cell c. -/
theorem mStoreC {c b o j m : Nat} {cs : Array Value} {E : TypeId} {vs : List Value} {X : List Res} [hn : TSz P T m] (h : MSw (mV P n ops Γ K wr tc stab) Q (i + 1) rest ⟨ρ, setC M c fun _ => X.set j (.blk b (.cells (putCells cs o vs) E))⟩)
    (ht : tc.getD i [] = [c] := by exact rfl) (hM : M c = (fun _ => X) := by exact rfl) (hj : X[j]? = some (.blk b (.cells cs E)) := by first | exact (rfl : (_ : List Res)[0]? = _) | exact (rfl : (_ : List Res)[1]? = _) | exact (rfl : (_ : List Res)[2]? = _) | exact (rfl : (_ : List Res)[3]? = _) | exact (rfl : (_ : List Res)[4]? = _) | exact (rfl : (_ : List Res)[5]? = _) | exact (rfl : (_ : List Res)[6]? = _) | exact (rfl : (_ : List Res)[7]? = _)) (hw0 : wr.getD i [] = [c] := by exact rfl) (hx : ∀ g, ev (ovr stab.flatten g ρ) x = .pointer (some ⟨b, o, none⟩) := by intro g; exact rfl)
    (hy : ∀ g, ev (ovr stab.flatten g ρ) y = v := by intro g; exact (by first | exact (rfl : _ = Value.int _ _) | exact (rfl : _ = Value.bool _) | exact (rfl : _ = Value.string _) | exact (rfl : _ = Value.slice _ _ _) | exact (rfl : _ = Value.pointer _) | exact (rfl : _ = Value.agg _) | exact (rfl : _ = Value.map _) | exact (rfl : _ = Value.tuple _) | exact (rfl : _ = Value.func _ _ _) | exact (rfl : _ = gv _ _) | exact rfl)) (hv : v.cells.toList = vs := by exact rfl) (hl : vs.length = m := by exact rfl) (h1 : vs.all (·.oneCell') = true := by exact rfl) (ho : o + m ≤ cs.size := by exact Nat.le_of_ble_eq_true rfl) :
    MSw (mV P n ops Γ K wr tc stab) Q i (⟨none, .store T x y, ty, pos, es, none⟩ :: rest) ⟨ρ, M⟩ := by
  refine mM (v := undef) _ (fun Y w g hw => ?_) h hw0 rfl
  have e : ∀ M', cellsAt tc stab i M' g = M' c (ovr (stab.getD c []) g noFr) := fun M' => by
    unfold cellsAt; rw [ht]; simp
  rw [e, hM] at hw
  have hjl : j < X.length := (List.getElem?_eq_some_iff.1 hj).1
  refine s_store hn.h hw (hx g) (hy g) hv hl (fun u hu => (List.all_eq_true.1 h1) u hu) (i := K.length + j) (by rw [List.getElem?_append_right (Nat.le_add_right _ _), Nat.add_sub_cancel_left, List.getElem?_append_left hjl]; exact hj) ho fun w' hw' => ⟨?_, fun _ => rfl⟩
  have e2 : cellsAt tc stab i (setC M c fun _ => X.set j (.blk b (.cells (putCells cs o vs) E))) (putO g none undef) = X.set j (.blk b (.cells (putCells cs o vs) E)) := by
    unfold cellsAt; rw [ht]; simp [setC_self]
  rw [e2]
  rw [List.set_append_right _ _ (Nat.le_add_right _ _), Nat.add_sub_cancel_left, List.set_append_left _ _ hjl] at hw'
  exact hw'

theorem cells1 {c : Nat} {g : Fr} (ht : tc.getD i [] = [c]) (M : Nat → Fr → List Res) : cellsAt tc stab i M g = M c (ovr (stab.getD c []) g noFr) := by unfold cellsAt; rw [ht]; simp
theorem cells2 {c c2 : Nat} {g : Fr} (ht : tc.getD i [] = [c, c2]) (M : Nat → Fr → List Res) : cellsAt tc stab i M g = M c (ovr (stab.getD c []) g noFr) ++ M c2 (ovr (stab.getD c2 []) g noFr) := by unfold cellsAt; rw [ht]; simp
theorem setC_other {c c' : Nat} {m : Fr → List Res} (h : c' ≠ c) : setC M c m c' = M c' := by simp [setC, h]

/-- A key is taken out of a map in the cell c. -/
theorem mDelS {c b j : Nat} {β : Type} {f : β → Value} {l : List (ByteArray × β)} {a : ByteArray} {X : List Res} {KT ET : TypeId} [hMp : TMap P T KT ET] [hK : TStr P KT] (h : MSw (mV P n ops Γ K wr tc stab) Q (i + 1) rest ⟨putO ρ d (.tuple #[]), setC M c fun _ => X.set j (Res.ms f b (aDel l a))⟩)
    (ht : tc.getD i [] = [c] := by exact rfl) (hM : M c = (fun _ => X) := by exact rfl) (hj : X[j]? = some (Res.ms f b l) := by first | exact (rfl : (_ : List Res)[0]? = _) | exact (rfl : (_ : List Res)[1]? = _) | exact (rfl : (_ : List Res)[2]? = _) | exact (rfl : (_ : List Res)[3]? = _) | exact (rfl : (_ : List Res)[4]? = _) | exact (rfl : (_ : List Res)[5]? = _) | exact (rfl : (_ : List Res)[6]? = _) | exact (rfl : (_ : List Res)[7]? = _)) (hw0 : wr.getD i [] = [c] := by exact rfl) (hst : outOf tc stab i d = true := by exact rfl) (hx : ∀ g, ev (ovr stab.flatten g ρ) x = .map (some b) := by intro g; exact rfl) (hy : ∀ g, ev (ovr stab.flatten g ρ) y = .string a := by intro g; exact rfl) :
    MSw (mV P n ops Γ K wr tc stab) Q i (⟨d, .call { callee := .builtin .delete, args := #[x, y], argTypes := #[T, U] }, ty, pos, es, none⟩ :: rest) ⟨ρ, M⟩ := by
  refine mM (v := .tuple #[]) _ (fun Y w g hw => ?_) h hw0 rfl
  rw [cells1 ht, hM] at hw
  have hjl : j < X.length := (List.getElem?_eq_some_iff.1 hj).1
  refine s_delS hw (hx g) (hy g) (i := K.length + j) (by rw [List.getElem?_append_right (Nat.le_add_right _ _), Nat.add_sub_cancel_left, List.getElem?_append_left hjl]; exact hj) fun w' hw' => ⟨?_, fun _ => rfl⟩
  rw [outOf_eq hst, cells1 ht, setC_self]
  rw [List.set_append_right _ _ (Nat.le_add_right _ _), Nat.add_sub_cancel_left, List.set_append_left _ _ hjl] at hw'
  exact hw'
/-- A key is put into a map in the cell c. -/
theorem mPutS {c b j : Nat} {β : Type} {f : β → Value} {l : List (ByteArray × β)} {a : ByteArray} {v : β} {X : List Res} {KT ET : TypeId} [hMp : TMap P T KT ET] [hK : TStr P KT] (h : MSw (mV P n ops Γ K wr tc stab) Q (i + 1) rest ⟨ρ, setC M c fun _ => X.set j (Res.ms f b (aSet l a v))⟩)
    (ht : tc.getD i [] = [c] := by exact rfl) (hM : M c = (fun _ => X) := by exact rfl) (hj : X[j]? = some (Res.ms f b l) := by first | exact (rfl : (_ : List Res)[0]? = _) | exact (rfl : (_ : List Res)[1]? = _) | exact (rfl : (_ : List Res)[2]? = _) | exact (rfl : (_ : List Res)[3]? = _) | exact (rfl : (_ : List Res)[4]? = _) | exact (rfl : (_ : List Res)[5]? = _) | exact (rfl : (_ : List Res)[6]? = _) | exact (rfl : (_ : List Res)[7]? = _)) (hw0 : wr.getD i [] = [c] := by exact rfl) (hx : ∀ g, ev (ovr stab.flatten g ρ) x = .map (some b) := by intro g; exact rfl) (hy : ∀ g, ev (ovr stab.flatten g ρ) y = .string a := by intro g; exact rfl) (hz : ∀ g, ev (ovr stab.flatten g ρ) z = f v := by intro g; exact rfl) :
    MSw (mV P n ops Γ K wr tc stab) Q i (⟨none, .mapUpdate T x y z, ty, pos, es, none⟩ :: rest) ⟨ρ, M⟩ := by
  refine mM (v := undef) _ (fun Y w g hw => ?_) h hw0 rfl
  rw [cells1 ht, hM] at hw
  have hjl : j < X.length := (List.getElem?_eq_some_iff.1 hj).1
  refine s_mapUpdS hw (hx g) (hy g) (hz g) (i := K.length + j) (by rw [List.getElem?_append_right (Nat.le_add_right _ _), Nat.add_sub_cancel_left, List.getElem?_append_left hjl]; exact hj) fun w' hw' => ⟨?_, fun _ => rfl⟩
  rw [cells1 ht, setC_self]
  rw [List.set_append_right _ _ (Nat.le_add_right _ _), Nat.add_sub_cancel_left, List.set_append_left _ _ hjl] at hw'
  exact hw'
/-- A store of an element of a slice in the cell c. -/
theorem mStoreE {c k j m cc sz E : Nat} {a : Option Addr} {r : List Value} {rows : List (List Value)} {X : List Res} [hn : TSz P T sz] (h : MSw (mV P n ops Γ K wr tc stab) Q (i + 1) rest ⟨ρ, setC M c fun _ => X.set j (.own (.slice a m cc) E sz (rows.set k r))⟩)
    (ht : tc.getD i [] = [c] := by exact rfl) (hM : M c = (fun _ => X) := by exact rfl) (hj : X[j]? = some (.own (.slice a m cc) E sz rows) := by first | exact (rfl : (_ : List Res)[0]? = _) | exact (rfl : (_ : List Res)[1]? = _) | exact (rfl : (_ : List Res)[2]? = _) | exact (rfl : (_ : List Res)[3]? = _) | exact (rfl : (_ : List Res)[4]? = _) | exact (rfl : (_ : List Res)[5]? = _) | exact (rfl : (_ : List Res)[6]? = _) | exact (rfl : (_ : List Res)[7]? = _)) (hw0 : wr.getD i [] = [c] := by exact rfl) (hx : ∀ g, ev (ovr stab.flatten g ρ) x = .pointer (some ⟨aB a, aO a + k * sz, none⟩) := by intro g; exact rfl)
    (hy : ∀ g, ev (ovr stab.flatten g ρ) y = v := by intro g; exact (by first | exact (rfl : _ = Value.int _ _) | exact (rfl : _ = Value.bool _) | exact (rfl : _ = Value.string _) | exact (rfl : _ = Value.slice _ _ _) | exact (rfl : _ = Value.pointer _) | exact (rfl : _ = Value.agg _) | exact (rfl : _ = Value.map _) | exact (rfl : _ = Value.tuple _) | exact (rfl : _ = Value.func _ _ _) | exact (rfl : _ = gv _ _) | exact rfl)) (hv : v.cells.toList = r := by exact rfl) (hl : r.length = sz := by exact rfl) (h1 : r.all (·.oneCell') = true := by exact rfl) (hk : k < m := by omega) :
    MSw (mV P n ops Γ K wr tc stab) Q i (⟨none, .store T x y, ty, pos, es, none⟩ :: rest) ⟨ρ, M⟩ := by
  refine mM (v := undef) _ (fun Y w g hw => ?_) h hw0 rfl
  rw [cells1 ht, hM] at hw
  have hjl : j < X.length := (List.getElem?_eq_some_iff.1 hj).1
  refine s_storeE hn.h hw (hx g) (hy g) hv hl h1 (i := K.length + j) (by rw [List.getElem?_append_right (Nat.le_add_right _ _), Nat.add_sub_cancel_left, List.getElem?_append_left hjl]; exact hj) hk fun w' hw' => ⟨?_, fun _ => rfl⟩
  rw [cells1 ht, setC_self]
  rw [List.set_append_right _ _ (Nat.le_add_right _ _), Nat.add_sub_cancel_left, List.set_append_left _ _ hjl] at hw'
  exact hw'
/-- A slice literal, in a cell of its own. -/
theorem mBuild {c dd E by' len sz : Nat} {zs : List Value} {parts : Array (Nat × Operand)} {cells : List Value} (rws : List (List Value)) [TL P T E sz by' zs] (h : MSw (mV P n ops Γ K wr tc stab) Q (i + 1) rest ⟨putO ρ (some dd) undef, setC M c fun g => [.own (g dd) E sz rws]⟩)
    (hf : ∀ g, fillL (fun i => some (i * sz, sz)) ((List.range (len * sz)).map fun i => zs.getD (i % sz) undef) (parts.toList.map fun p => (p.1, ev (ovr stab.flatten g ρ) p.2)) = some cells := by intro g; exact rfl)
    (ht : tc.getD i [] = [c] := by exact rfl) (hM : M c = (fun _ => []) := by exact rfl) (hs : (stab.getD c []).contains dd = true := by exact rfl) (hfr : freeD stab (some dd) = true := by exact rfl) (hw0 : wr.getD i [] = [c] := by exact rfl)
    (hrw : rws.flatten = cells := by exact rfl) (hlen : rws.length = len := by exact rfl) (hr : rws.all (fun r => Nat.beq r.length sz) = true := by exact rfl) (hbig : Nat.ble (len * sz) 16777216 = true := by exact rfl) :
    MSw (mV P n ops Γ K wr tc stab) Q i (⟨some dd, .buildSlice T len parts, ty, pos, es, none⟩ :: rest) ⟨ρ, M⟩ := by
  refine mM (v := undef) _ (fun Y w g hw => ?_) h hw0 rfl
  rw [cells1 ht, hM] at hw
  refine s_buildSlice (rws := rws) hw (hf g) hrw hlen (fun r hm => Nat.eq_of_beq_eq_true ((List.all_eq_true.1 hr) r hm)) (Nat.le_of_ble_eq_true hbig) fun a w' hw' => ⟨?_, fun hh => by rw [hfr] at hh; cases hh⟩
  rw [cells1 ht, setC_self]
  have h1 : ovr (stab.getD c []) (putO g (some dd) (.slice (some a) len len)) noFr dd = .slice (some a) len len := by
    rw [ovr_in (by simpa using hs)]; exact upd_same _ _ _
  rw [h1]
  exact Wd.unmid hw'
/-- An append onto the j-th resource of the cell c, of what lies in the cell c2. -/
theorem mApp {c c2 dd dy j E by' sz m cc : Nat} {zs : List Value} {a : Option Addr} {rows rows2 : List (List Value)} {X : List Res} [TL P T E sz by' zs] (h : MSw (mV P n ops Γ K wr tc stab) Q (i + 1) rest ⟨putO ρ (some dd) undef, setC M c fun g => X.set j (.own (g dd) E sz (rows ++ rows2))⟩)
    (hx : ∀ g, ev (ovr stab.flatten g ρ) x = .slice a m cc := by intro g; exact rfl) (ht : tc.getD i [] = [c, c2] := by exact rfl) (hM : M c = (fun _ => X) := by exact rfl) (hM2 : M c2 = (fun g => [.own (g dy) E sz rows2]) := by exact rfl) (hj : X[j]? = some (.own (.slice a m cc) E sz rows) := by first | exact (rfl : (_ : List Res)[0]? = _) | exact (rfl : (_ : List Res)[1]? = _) | exact (rfl : (_ : List Res)[2]? = _) | exact (rfl : (_ : List Res)[3]? = _) | exact (rfl : (_ : List Res)[4]? = _) | exact (rfl : (_ : List Res)[5]? = _) | exact (rfl : (_ : List Res)[6]? = _) | exact (rfl : (_ : List Res)[7]? = _))
    (hs : (stab.getD c []).contains dd = true := by exact rfl) (hs2 : (stab.getD c2 []).contains dy = true := by exact rfl) (hfr : freeD stab (some dd) = true := by exact rfl) (hfy : stab.flatten.contains dy = true := by exact rfl) (hne : Nat.beq dy dd = false := by exact rfl) (hcc : Nat.beq c2 c = false := by exact rfl) (hw0 : wr.getD i [] = [c] := by exact rfl)
    (h1 : rows2.flatten.all (·.oneCell') = true := by exact rfl) (hb : (m + rows2.length) * by' ≤ 140737488355328 := by (simp only [List.length_cons, List.length_nil]; omega)) (h63 : m + rows2.length ≤ 9223372036854775807 := by (simp only [List.length_cons, List.length_nil]; omega)) :
    MSw (mV P n ops Γ K wr tc stab) Q i (⟨some dd, .call { callee := .builtin .append, args := #[x, .tmp dy], argTypes := #[T, T] }, ty, pos, es, none⟩ :: rest) ⟨ρ, M⟩ := by
  refine mM (v := undef) _ (fun Y w g hw => ?_) h hw0 rfl
  have hyd : dy ≠ dd := fun e => by subst e; simp at hne
  have hcd : c2 ≠ c := fun e => by subst e; simp at hcc
  rw [cells2 ht, hM, hM2] at hw
  have h2 : ∀ f : Fr, ovr (stab.getD c2 []) f noFr dy = f dy := fun f => ovr_in (by simpa using hs2)
  simp only [h2] at hw
  have hjl : j < X.length := (List.getElem?_eq_some_iff.1 hj).1
  have hi1 : (K ++ (X ++ [.own (g dy) E sz rows2] ++ Y))[K.length + j]? = some (.own (.slice a m cc) E sz rows) := by
    rw [List.getElem?_append_right (Nat.le_add_right _ _), Nat.add_sub_cancel_left, List.append_assoc, List.getElem?_append_left hjl]; exact hj
  have hi2 : (K ++ (X ++ [.own (g dy) E sz rows2] ++ Y))[K.length + X.length]? = some (.own (g dy) E sz rows2) := by
    rw [List.getElem?_append_right (Nat.le_add_right _ _), Nat.add_sub_cancel_left, List.append_assoc, List.getElem?_append_right (Nat.le_refl _)]; simp
  obtain ⟨a2, m2, c3, e1, e2, e3, e4⟩ := hw.own_shape hi2
  have hrd : Rd w a2 sz rows2 := by
    have hw2 := hw
    have hi3 := hi2
    rw [e1] at hw2 hi3
    exact hw2.own_rd hi3
  have hy : ev (ovr stab.flatten g ρ) (.tmp dy) = .slice a2 m2 c3 := by
    show ovr stab.flatten g ρ dy = _
    rw [ovr_in (by simpa using hfy)]; exact e1
  refine s_append hw (hx g) hy hi1 hrd e2 (fun u hu => (List.all_eq_true.1 h1) u hu) (by rw [e2]; exact hb) (by rw [e2]; exact h63) fun v' w' hw' => ⟨?_, fun hh => by rw [hfr] at hh; cases hh⟩
  rw [cells2 ht, setC_self, setC_other hcd, hM2]
  have h3 : ovr (stab.getD c []) (putO g (some dd) v') noFr dd = v' := by
    rw [ovr_in (by simpa using hs)]; exact upd_same _ _ _
  have h4 : putO g (some dd) v' dy = g dy := upd_ne _ _ hyd
  simp only [h2, h3, h4]
  rw [List.append_assoc, List.set_append_right _ _ (Nat.le_add_right _ _), Nat.add_sub_cancel_left, List.set_append_left _ _ hjl] at hw'
  rw [List.append_assoc]
  exact hw'
/-- The slice that an append has made is stored into a block of its cell. -/
theorem mStoreV {c b o j j2 dv E2 sz2 : Nat} {cs : Array Value} {E : TypeId} {rows : List (List Value)} {X : Fr → List Res} [hn : TSz P T 1] (h : MSw (mV P n ops Γ K wr tc stab) Q (i + 1) rest ⟨ρ, setC M c fun g => (X g).set j (.blk b (.cells (putCells cs o [g dv]) E))⟩)
    (ht : tc.getD i [] = [c] := by exact rfl) (hM : M c = X := by exact rfl) (hj : ∀ g, (X g)[j]? = some (.blk b (.cells cs E)) := by intro g; exact (by first | exact (rfl : (_ : List Res)[0]? = _) | exact (rfl : (_ : List Res)[1]? = _) | exact (rfl : (_ : List Res)[2]? = _) | exact (rfl : (_ : List Res)[3]? = _) | exact (rfl : (_ : List Res)[4]? = _) | exact (rfl : (_ : List Res)[5]? = _) | exact (rfl : (_ : List Res)[6]? = _) | exact (rfl : (_ : List Res)[7]? = _))) (hj2 : ∀ g, (X g)[j2]? = some (.own (g dv) E2 sz2 rows) := by intro g; exact (by first | exact (rfl : (_ : List Res)[0]? = _) | exact (rfl : (_ : List Res)[1]? = _) | exact (rfl : (_ : List Res)[2]? = _) | exact (rfl : (_ : List Res)[3]? = _) | exact (rfl : (_ : List Res)[4]? = _) | exact (rfl : (_ : List Res)[5]? = _) | exact (rfl : (_ : List Res)[6]? = _) | exact (rfl : (_ : List Res)[7]? = _))) (hw0 : wr.getD i [] = [c] := by exact rfl) (hx : ∀ g, ev (ovr stab.flatten g ρ) x = .pointer (some ⟨b, o, none⟩) := by intro g; exact rfl)
    (hs : (stab.getD c []).contains dv = true := by exact rfl) (hfv : stab.flatten.contains dv = true := by exact rfl) (ho : o + 1 ≤ cs.size := by exact Nat.le_of_ble_eq_true rfl) :
    MSw (mV P n ops Γ K wr tc stab) Q i (⟨none, .store T x (.tmp dv), ty, pos, es, none⟩ :: rest) ⟨ρ, M⟩ := by
  refine mM (v := undef) _ (fun Y w g hw => ?_) h hw0 rfl
  rw [cells1 ht, hM] at hw
  have hy : ev (ovr stab.flatten g ρ) (.tmp dv) = g dv := ovr_in (by simpa using hfv)
  have hg : ovr (stab.getD c []) g noFr dv = g dv := ovr_in (by simpa using hs)
  have hjl : j < (X (ovr (stab.getD c []) g noFr)).length := (List.getElem?_eq_some_iff.1 (hj _)).1
  have hjl2 : j2 < (X (ovr (stab.getD c []) g noFr)).length := (List.getElem?_eq_some_iff.1 (hj2 _)).1
  obtain ⟨a2, m2, c3, e1, -, -, -⟩ := hw.own_shape (i := K.length + j2) (v := g dv) (e := E2) (sz := sz2) (rows := rows) (by
    rw [List.getElem?_append_right (Nat.le_add_right _ _), Nat.add_sub_cancel_left, List.getElem?_append_left hjl2, hj2, hg])
  refine s_store hn.h hw (hx g) hy (vs := [g dv]) (by rw [e1]; rfl) rfl (fun u hu => by simp at hu; subst hu; rw [e1]; rfl) (i := K.length + j) (by rw [List.getElem?_append_right (Nat.le_add_right _ _), Nat.add_sub_cancel_left, List.getElem?_append_left hjl]; exact hj _) ho fun w' hw' => ⟨?_, fun _ => rfl⟩
  rw [cells1 ht, setC_self]
  rw [List.set_append_right _ _ (Nat.le_add_right _ _), Nat.add_sub_cancel_left, List.set_append_left _ _ hjl] at hw'
  simp only [putO, hg]
  exact hw'
end
section
variable {P : Program} {n : Nat} {opa : Array Oper} {Γ : Gho} {S : List Res} {QQ : Exit → Fr → World → Prop} {ρ : Fr} {w : World} {rest : List Oper} {j dj : Nat} {want c : Bool}
variable {d : Option Tmp} {op : Op} {T U ty : TypeId} {pos : String} {es : Array Edge} {x y z : Operand}
attribute [local semireducible] L Step gv GuardIs
/-- A guard that is known: it is taken off, or the operation is passed by. -/
theorem lGT (h : L P n opa QQ (⟨d, op, ty, pos, es, none⟩ :: rest) ρ w) (hj : (opa[j]?).bind (·.dst) = some dj := by exact rfl) (hjn : okDst n (some dj) = true := by exact rfl) (hc : GuardIs (ρ dj) want c := by first | exact GuardIs.t | exact GuardIs.f | exact GuardIs.gt | exact GuardIs.gf) (hct : c = true := by with_reducible rfl) : L P n opa QQ (⟨d, op, ty, pos, es, some (j, want)⟩ :: rest) ρ w := fun a hda hs hf => by
  subst hct
  have h1 := h a hda hs hf
  have hw := wanted_fn (⟨d, op, ty, pos, es, some (j, want)⟩ : Oper) opa a j want rfl dj hj (by rw [hs]; exact okDst_spec hjn _ rfl)
  subst hf
  rw [show (saysB (fnOf a dj) == some want) = true from hc] at hw
  unfold wpList at h1 ⊢
  rw [if_pos hw]
  rw [if_pos (by simp [Region.wanted])] at h1
  exact h1
theorem lGF (h : L P n opa QQ rest (putO ρ d undef) w) (hj : (opa[j]?).bind (·.dst) = some dj := by exact rfl) (hjn : okDst n (some dj) = true := by exact rfl) (hd : okDst n d = true := by exact rfl) (hc : GuardIs (ρ dj) want c := by first | exact GuardIs.t | exact GuardIs.f | exact GuardIs.gt | exact GuardIs.gf) (hct : c = false := by with_reducible rfl) : L P n opa QQ (⟨d, op, ty, pos, es, some (j, want)⟩ :: rest) ρ w := fun a hda hs hf => by
  subst hct
  have hw := wanted_fn (⟨d, op, ty, pos, es, some (j, want)⟩ : Oper) opa a j want rfl dj hj (by rw [hs]; exact okDst_spec hjn _ rfl)
  subst hf
  rw [show (saysB (fnOf a dj) == some want) = false from hc] at hw
  unfold wpList
  rw [if_neg (by rw [hw]; simp)]
  exact h _ (by rw [defers_put]; exact hda) (by rw [size_put]; exact hs) (fnOf_putO a _ _ (by rw [hs]; exact okDst_spec hd))
theorem lGC (hj : (opa[j]?).bind (·.dst) = some dj) (hjn : okDst n (some dj) = true) (hd : okDst n d = true) (hc : GuardIs (ρ dj) want c) (ht : c = true → L P n opa QQ (⟨d, op, ty, pos, es, none⟩ :: rest) ρ w) (hf : c = false → L P n opa QQ rest (putO ρ d undef) w) : L P n opa QQ (⟨d, op, ty, pos, es, some (j, want)⟩ :: rest) ρ w := by
  cases hcc : c with
  | true => exact lGT (ht hcc) hj hjn hc hcc
  | false => exact lGF (hf hcc) hj hjn hd hc hcc
theorem L_bin {bo : BinOp} (h : L P n opa QQ (⟨d, .binOp bo T x y U, ty, pos, es, none⟩ :: rest) ρ w) : L P n opa QQ (⟨d, .binOp bo T x y U, ty, pos, es, none⟩ :: rest) ρ w := h
theorem L_notop (h : L P n opa QQ (⟨d, .unOp .not T x, ty, pos, es, none⟩ :: rest) ρ w) : L P n opa QQ (⟨d, .unOp .not T x, ty, pos, es, none⟩ :: rest) ρ w := h
/-- A test whose answer is known. -/
theorem lT {b : Bool} {o : Oper} (hb : b = true) (h : L P n opa QQ rest (putO ρ o.dst (.bool true)) w) (hg : o.guard = none := by exact rfl) (hd : okDst n o.dst = true := by exact rfl) (hw : Wd Γ S w := by exact hw) (hy : Yields P o ρ w (.bool b) := by first | (apply m_move; exact y_move (by first | exact (rfl : _ = Value.int _ _) | exact (rfl : _ = Value.bool _) | exact (rfl : _ = Value.string _) | exact (rfl : _ = Value.slice _ _ _) | exact (rfl : _ = Value.pointer _) | exact (rfl : _ = Value.agg _) | exact (rfl : _ = Value.map _) | exact (rfl : _ = Value.tuple _) | exact (rfl : _ = Value.func _ _ _) | exact (rfl : _ = gv _ _) | exact rfl)) | (apply m_assign; exact y_assign (by first | exact (rfl : _ = Value.int _ _) | exact (rfl : _ = Value.bool _) | exact (rfl : _ = Value.string _) | exact (rfl : _ = Value.slice _ _ _) | exact (rfl : _ = Value.pointer _) | exact (rfl : _ = Value.agg _) | exact (rfl : _ = Value.map _) | exact (rfl : _ = Value.tuple _) | exact (rfl : _ = Value.func _ _ _) | exact (rfl : _ = gv _ _) | exact rfl)) | (apply g_bin; first | (apply m_op .eql; first | exact y_eql rfl rfl | exact y_eqls rfl rfl | exact y_eqT rfl rfl rfl | exact y_eqB rfl rfl | exact y_eqnS rfl rfl | exact y_eqnP rfl rfl | exact y_eqnM rfl rfl) | (apply m_op .lss; first | exact y_lss rfl rfl | exact y_lssS rfl rfl) | (apply m_op .neq; first | exact y_neq rfl rfl | exact y_neqs rfl rfl | exact y_neqT rfl rfl rfl | exact y_neqnS rfl rfl | exact y_neqnP rfl rfl) | (apply m_op .leq; first | exact y_leq rfl rfl | exact y_leqS rfl rfl) | (apply m_op .gtr; first | exact y_gtr rfl rfl | exact y_gtrS rfl rfl) | (apply m_op .geq; first | exact y_geq rfl rfl | exact y_geqS rfl rfl) | (apply m_op .add; first | exact y_add64 rfl rfl (by omega) (by omega) | exact y_add rfl rfl | exact y_addS rfl rfl (by omega)) | (apply m_op .sub; first | exact y_sub64 rfl rfl (by omega) (by omega) | exact y_sub rfl rfl) | (apply m_op .mul; first | exact y_mul64 rfl rfl (by omega) (by omega) | exact y_mul rfl rfl) | (apply m_op .rem; exact y_rem rfl rfl (by omega)) | (apply m_op .quo; exact y_quo rfl rfl (by omega)) | (apply m_op .shl; exact y_shl rfl rfl (by omega)) | (apply m_op .shr; exact y_shr rfl rfl (by omega)) | (apply m_op .and; exact y_and rfl rfl) | (apply m_op .or; exact y_or rfl rfl) | (apply m_op .xor; exact y_xor rfl rfl) | (apply m_op .andNot; exact y_andNot rfl rfl)) | (apply m_loadS; first | exact y_l1b (i := 0) hw rfl rfl rfl | exact y_l1b (i := 1) hw rfl rfl rfl | exact y_l1b (i := 2) hw rfl rfl rfl | exact y_l1b (i := 3) hw rfl rfl rfl | exact y_l1b (i := 4) hw rfl rfl rfl | exact y_l1b (i := 5) hw rfl rfl rfl | exact y_l1b (i := 6) hw rfl rfl rfl | exact y_loadEf rfl (RepS.rd (by assumption) hw) (rows_map (by assumption)) rfl | exact y_loadEf2 rfl (RepS.rd (by assumption) hw) (rows_map (by assumption)) rfl | exact y_loadE1 rfl (RepS.rd (by assumption) hw) (rows_map (by assumption)) | exact y_loadF rfl (RepS.rd (by assumption) hw) (by assumption) | exact y_loadEf rfl (RdS.rd (by assumption) hw) (rows_map (by assumption)) rfl | exact y_loadEf2 rfl (RdS.rd (by assumption) hw) (rows_map (by assumption)) rfl | exact y_loadE1 rfl (RdS.rd (by assumption) hw) (rows_map (by assumption)) | exact y_loadF rfl (RdS.rd (by assumption) hw) (by assumption) | exact y_loadEf rfl (RdS.rd (by assumption) hw.left) (rows_map (by assumption)) rfl | exact y_loadEf2 rfl (RdS.rd (by assumption) hw.left) (rows_map (by assumption)) rfl | exact y_loadE1 rfl (RdS.rd (by assumption) hw.left) (rows_map (by assumption)) | exact y_loadF rfl (RdS.rd (by assumption) hw.left) (by assumption) | exact y_loadEf rfl (Wd.own_rd (i := 0) hw rfl) (rows_map (by assumption)) rfl | exact y_loadEf2 rfl (Wd.own_rd (i := 0) hw rfl) (rows_map (by assumption)) rfl | exact y_loadE1 rfl (Wd.own_rd (i := 0) hw rfl) (rows_map (by assumption)) | exact y_loadF rfl (Wd.own_rd (i := 0) hw rfl) (by assumption) | exact y_loadEf rfl (Wd.own_rd (i := 1) hw rfl) (rows_map (by assumption)) rfl | exact y_loadEf2 rfl (Wd.own_rd (i := 1) hw rfl) (rows_map (by assumption)) rfl | exact y_loadE1 rfl (Wd.own_rd (i := 1) hw rfl) (rows_map (by assumption)) | exact y_loadF rfl (Wd.own_rd (i := 1) hw rfl) (by assumption) | exact y_loadEf rfl (Wd.own_rd (i := 2) hw rfl) (rows_map (by assumption)) rfl | exact y_loadEf2 rfl (Wd.own_rd (i := 2) hw rfl) (rows_map (by assumption)) rfl | exact y_loadE1 rfl (Wd.own_rd (i := 2) hw rfl) (rows_map (by assumption)) | exact y_loadF rfl (Wd.own_rd (i := 2) hw rfl) (by assumption) | exact y_loadEf rfl (Wd.own_rd (i := 3) hw rfl) (rows_map (by assumption)) rfl | exact y_loadEf2 rfl (Wd.own_rd (i := 3) hw rfl) (rows_map (by assumption)) rfl | exact y_loadE1 rfl (Wd.own_rd (i := 3) hw rfl) (rows_map (by assumption)) | exact y_loadF rfl (Wd.own_rd (i := 3) hw rfl) (by assumption)) | (apply m_loadA; first | exact y_lwb (i := 0) hw rfl rfl rfl | exact y_lwb (i := 1) hw rfl rfl rfl | exact y_lwb (i := 2) hw rfl rfl rfl | exact y_lwb (i := 3) hw rfl rfl rfl | exact y_lwb (i := 4) hw rfl rfl rfl | exact y_lwb (i := 5) hw rfl rfl rfl | exact y_lwb (i := 6) hw rfl rfl rfl | exact y_loadE rfl (RepS.rd (by assumption) hw) (rows_map (by assumption)) | exact y_loadEsub rfl (RepS.rd (by assumption) hw) (rows_map (by assumption)) rfl rfl | exact y_loadE rfl (RdS.rd (by assumption) hw) (rows_map (by assumption)) | exact y_loadEsub rfl (RdS.rd (by assumption) hw) (rows_map (by assumption)) rfl rfl | exact y_loadE rfl (RdS.rd (by assumption) hw.left) (rows_map (by assumption)) | exact y_loadEsub rfl (RdS.rd (by assumption) hw.left) (rows_map (by assumption)) rfl rfl | exact y_loadE rfl (Wd.own_rd (i := 0) hw rfl) (rows_map (by assumption)) | exact y_loadEsub rfl (Wd.own_rd (i := 0) hw rfl) (rows_map (by assumption)) rfl rfl | exact y_loadE rfl (Wd.own_rd (i := 1) hw rfl) (rows_map (by assumption)) | exact y_loadEsub rfl (Wd.own_rd (i := 1) hw rfl) (rows_map (by assumption)) rfl rfl | exact y_loadE rfl (Wd.own_rd (i := 2) hw rfl) (rows_map (by assumption)) | exact y_loadEsub rfl (Wd.own_rd (i := 2) hw rfl) (rows_map (by assumption)) rfl rfl | exact y_loadE rfl (Wd.own_rd (i := 3) hw rfl) (rows_map (by assumption)) | exact y_loadEsub rfl (Wd.own_rd (i := 3) hw rfl) (rows_map (by assumption)) rfl rfl | exact y_lpb (i := 0) hw rfl rfl rfl rfl | exact y_lpb (i := 1) hw rfl rfl rfl rfl | exact y_lpb (i := 2) hw rfl rfl rfl rfl | exact y_lpb (i := 3) hw rfl rfl rfl rfl | exact y_lpb (i := 4) hw rfl rfl rfl rfl | exact y_lpb (i := 5) hw rfl rfl rfl rfl | exact y_lpb (i := 6) hw rfl rfl rfl rfl) | (apply m_field; exact y_field rfl) | (apply g_idx; first | exact y_idxI hw (by assumption) rfl rfl (by omega) (by omega) | exact y_idxO (j := 0) hw rfl rfl rfl (by omega) (by omega) | exact y_idxO (j := 1) hw rfl rfl rfl (by omega) (by omega) | exact y_idxO (j := 2) hw rfl rfl rfl (by omega) (by omega) | exact y_idxO (j := 3) hw rfl rfl rfl (by omega) (by omega) | exact y_idxD (RdS.rd (by assumption) hw) rfl rfl (by omega) (by omega) | exact y_idxD (RdS.rd (by assumption) hw.left) rfl rfl (by omega) (by omega)) | (apply g_call; first | exact y_lenS rfl | exact y_lenL rfl | exact y_cap rfl | exact y_min2 rfl rfl | exact y_max2 rfl rfl | exact y_lenMs (i := 0) hw rfl rfl | exact y_lenMs (i := 1) hw rfl rfl | exact y_lenMs (i := 2) hw rfl rfl | exact y_lenMs (i := 3) hw rfl rfl | exact y_lenMs (i := 4) hw rfl rfl) | (apply m_pick; first | exact y_pick_and rfl rfl rfl | exact y_pick_or rfl rfl rfl | exact y_pickT rfl rfl | exact y_pickF rfl rfl) | (apply m_not; exact y_not rfl) | (apply m_extract; exact y_extract rfl rfl) | (apply m_nil; exact y_nil rfl) | (apply m_build; exact y_build rfl) | (apply m_index; exact y_idxS rfl rfl (by omega) (by omega)) | (apply m_lookup; first | exact y_lookupS2 (i := 0) hw rfl rfl rfl rfl | exact y_lookupS1 (i := 0) hw rfl rfl rfl rfl | exact y_lookupS2 (i := 1) hw rfl rfl rfl rfl | exact y_lookupS1 (i := 1) hw rfl rfl rfl rfl | exact y_lookupS2 (i := 2) hw rfl rfl rfl rfl | exact y_lookupS1 (i := 2) hw rfl rfl rfl rfl | exact y_lookupS2 (i := 3) hw rfl rfl rfl rfl | exact y_lookupS1 (i := 3) hw rfl rfl rfl rfl | exact y_lookupS2 (i := 4) hw rfl rfl rfl rfl | exact y_lookupS1 (i := 4) hw rfl rfl rfl rfl) | (apply m_slice; first | exact y_sliceL rfl rfl (by omega) (by omega) | exact y_sliceH rfl rfl (by omega) (by omega) | exact y_sliceLH rfl rfl rfl (by omega) (by omega) (by omega) | exact y_sliceLHM rfl rfl rfl rfl (by omega) (by omega) (by omega) (by omega) | exact y_sliceSLH rfl rfl rfl (by omega) (by omega) (by omega) | exact y_sliceSL rfl rfl (by omega) (by omega) | exact y_sliceSH rfl rfl (by omega) (by omega)) | (apply m_conv; exact y_convI rfl) | (apply m_neg; exact y_neg64 rfl (by omega) (by omega))) : L P n opa QQ (o :: rest) ρ w := L_y hg hd (by rw [hb] at hy; exact hy) h
theorem lF {b : Bool} {o : Oper} (hb : b = false) (h : L P n opa QQ rest (putO ρ o.dst (.bool false)) w) (hg : o.guard = none := by exact rfl) (hd : okDst n o.dst = true := by exact rfl) (hw : Wd Γ S w := by exact hw) (hy : Yields P o ρ w (.bool b) := by first | (apply m_move; exact y_move (by first | exact (rfl : _ = Value.int _ _) | exact (rfl : _ = Value.bool _) | exact (rfl : _ = Value.string _) | exact (rfl : _ = Value.slice _ _ _) | exact (rfl : _ = Value.pointer _) | exact (rfl : _ = Value.agg _) | exact (rfl : _ = Value.map _) | exact (rfl : _ = Value.tuple _) | exact (rfl : _ = Value.func _ _ _) | exact (rfl : _ = gv _ _) | exact rfl)) | (apply m_assign; exact y_assign (by first | exact (rfl : _ = Value.int _ _) | exact (rfl : _ = Value.bool _) | exact (rfl : _ = Value.string _) | exact (rfl : _ = Value.slice _ _ _) | exact (rfl : _ = Value.pointer _) | exact (rfl : _ = Value.agg _) | exact (rfl : _ = Value.map _) | exact (rfl : _ = Value.tuple _) | exact (rfl : _ = Value.func _ _ _) | exact (rfl : _ = gv _ _) | exact rfl)) | (apply g_bin; first | (apply m_op .eql; first | exact y_eql rfl rfl | exact y_eqls rfl rfl | exact y_eqT rfl rfl rfl | exact y_eqB rfl rfl | exact y_eqnS rfl rfl | exact y_eqnP rfl rfl | exact y_eqnM rfl rfl) | (apply m_op .lss; first | exact y_lss rfl rfl | exact y_lssS rfl rfl) | (apply m_op .neq; first | exact y_neq rfl rfl | exact y_neqs rfl rfl | exact y_neqT rfl rfl rfl | exact y_neqnS rfl rfl | exact y_neqnP rfl rfl) | (apply m_op .leq; first | exact y_leq rfl rfl | exact y_leqS rfl rfl) | (apply m_op .gtr; first | exact y_gtr rfl rfl | exact y_gtrS rfl rfl) | (apply m_op .geq; first | exact y_geq rfl rfl | exact y_geqS rfl rfl) | (apply m_op .add; first | exact y_add64 rfl rfl (by omega) (by omega) | exact y_add rfl rfl | exact y_addS rfl rfl (by omega)) | (apply m_op .sub; first | exact y_sub64 rfl rfl (by omega) (by omega) | exact y_sub rfl rfl) | (apply m_op .mul; first | exact y_mul64 rfl rfl (by omega) (by omega) | exact y_mul rfl rfl) | (apply m_op .rem; exact y_rem rfl rfl (by omega)) | (apply m_op .quo; exact y_quo rfl rfl (by omega)) | (apply m_op .shl; exact y_shl rfl rfl (by omega)) | (apply m_op .shr; exact y_shr rfl rfl (by omega)) | (apply m_op .and; exact y_and rfl rfl) | (apply m_op .or; exact y_or rfl rfl) | (apply m_op .xor; exact y_xor rfl rfl) | (apply m_op .andNot; exact y_andNot rfl rfl)) | (apply m_loadS; first | exact y_l1b (i := 0) hw rfl rfl rfl | exact y_l1b (i := 1) hw rfl rfl rfl | exact y_l1b (i := 2) hw rfl rfl rfl | exact y_l1b (i := 3) hw rfl rfl rfl | exact y_l1b (i := 4) hw rfl rfl rfl | exact y_l1b (i := 5) hw rfl rfl rfl | exact y_l1b (i := 6) hw rfl rfl rfl | exact y_loadEf rfl (RepS.rd (by assumption) hw) (rows_map (by assumption)) rfl | exact y_loadEf2 rfl (RepS.rd (by assumption) hw) (rows_map (by assumption)) rfl | exact y_loadE1 rfl (RepS.rd (by assumption) hw) (rows_map (by assumption)) | exact y_loadF rfl (RepS.rd (by assumption) hw) (by assumption) | exact y_loadEf rfl (RdS.rd (by assumption) hw) (rows_map (by assumption)) rfl | exact y_loadEf2 rfl (RdS.rd (by assumption) hw) (rows_map (by assumption)) rfl | exact y_loadE1 rfl (RdS.rd (by assumption) hw) (rows_map (by assumption)) | exact y_loadF rfl (RdS.rd (by assumption) hw) (by assumption) | exact y_loadEf rfl (RdS.rd (by assumption) hw.left) (rows_map (by assumption)) rfl | exact y_loadEf2 rfl (RdS.rd (by assumption) hw.left) (rows_map (by assumption)) rfl | exact y_loadE1 rfl (RdS.rd (by assumption) hw.left) (rows_map (by assumption)) | exact y_loadF rfl (RdS.rd (by assumption) hw.left) (by assumption) | exact y_loadEf rfl (Wd.own_rd (i := 0) hw rfl) (rows_map (by assumption)) rfl | exact y_loadEf2 rfl (Wd.own_rd (i := 0) hw rfl) (rows_map (by assumption)) rfl | exact y_loadE1 rfl (Wd.own_rd (i := 0) hw rfl) (rows_map (by assumption)) | exact y_loadF rfl (Wd.own_rd (i := 0) hw rfl) (by assumption) | exact y_loadEf rfl (Wd.own_rd (i := 1) hw rfl) (rows_map (by assumption)) rfl | exact y_loadEf2 rfl (Wd.own_rd (i := 1) hw rfl) (rows_map (by assumption)) rfl | exact y_loadE1 rfl (Wd.own_rd (i := 1) hw rfl) (rows_map (by assumption)) | exact y_loadF rfl (Wd.own_rd (i := 1) hw rfl) (by assumption) | exact y_loadEf rfl (Wd.own_rd (i := 2) hw rfl) (rows_map (by assumption)) rfl | exact y_loadEf2 rfl (Wd.own_rd (i := 2) hw rfl) (rows_map (by assumption)) rfl | exact y_loadE1 rfl (Wd.own_rd (i := 2) hw rfl) (rows_map (by assumption)) | exact y_loadF rfl (Wd.own_rd (i := 2) hw rfl) (by assumption) | exact y_loadEf rfl (Wd.own_rd (i := 3) hw rfl) (rows_map (by assumption)) rfl | exact y_loadEf2 rfl (Wd.own_rd (i := 3) hw rfl) (rows_map (by assumption)) rfl | exact y_loadE1 rfl (Wd.own_rd (i := 3) hw rfl) (rows_map (by assumption)) | exact y_loadF rfl (Wd.own_rd (i := 3) hw rfl) (by assumption)) | (apply m_loadA; first | exact y_lwb (i := 0) hw rfl rfl rfl | exact y_lwb (i := 1) hw rfl rfl rfl | exact y_lwb (i := 2) hw rfl rfl rfl | exact y_lwb (i := 3) hw rfl rfl rfl | exact y_lwb (i := 4) hw rfl rfl rfl | exact y_lwb (i := 5) hw rfl rfl rfl | exact y_lwb (i := 6) hw rfl rfl rfl | exact y_loadE rfl (RepS.rd (by assumption) hw) (rows_map (by assumption)) | exact y_loadEsub rfl (RepS.rd (by assumption) hw) (rows_map (by assumption)) rfl rfl | exact y_loadE rfl (RdS.rd (by assumption) hw) (rows_map (by assumption)) | exact y_loadEsub rfl (RdS.rd (by assumption) hw) (rows_map (by assumption)) rfl rfl | exact y_loadE rfl (RdS.rd (by assumption) hw.left) (rows_map (by assumption)) | exact y_loadEsub rfl (RdS.rd (by assumption) hw.left) (rows_map (by assumption)) rfl rfl | exact y_loadE rfl (Wd.own_rd (i := 0) hw rfl) (rows_map (by assumption)) | exact y_loadEsub rfl (Wd.own_rd (i := 0) hw rfl) (rows_map (by assumption)) rfl rfl | exact y_loadE rfl (Wd.own_rd (i := 1) hw rfl) (rows_map (by assumption)) | exact y_loadEsub rfl (Wd.own_rd (i := 1) hw rfl) (rows_map (by assumption)) rfl rfl | exact y_loadE rfl (Wd.own_rd (i := 2) hw rfl) (rows_map (by assumption)) | exact y_loadEsub rfl (Wd.own_rd (i := 2) hw rfl) (rows_map (by assumption)) rfl rfl | exact y_loadE rfl (Wd.own_rd (i := 3) hw rfl) (rows_map (by assumption)) | exact y_loadEsub rfl (Wd.own_rd (i := 3) hw rfl) (rows_map (by assumption)) rfl rfl | exact y_lpb (i := 0) hw rfl rfl rfl rfl | exact y_lpb (i := 1) hw rfl rfl rfl rfl | exact y_lpb (i := 2) hw rfl rfl rfl rfl | exact y_lpb (i := 3) hw rfl rfl rfl rfl | exact y_lpb (i := 4) hw rfl rfl rfl rfl | exact y_lpb (i := 5) hw rfl rfl rfl rfl | exact y_lpb (i := 6) hw rfl rfl rfl rfl) | (apply m_field; exact y_field rfl) | (apply g_idx; first | exact y_idxI hw (by assumption) rfl rfl (by omega) (by omega) | exact y_idxO (j := 0) hw rfl rfl rfl (by omega) (by omega) | exact y_idxO (j := 1) hw rfl rfl rfl (by omega) (by omega) | exact y_idxO (j := 2) hw rfl rfl rfl (by omega) (by omega) | exact y_idxO (j := 3) hw rfl rfl rfl (by omega) (by omega) | exact y_idxD (RdS.rd (by assumption) hw) rfl rfl (by omega) (by omega) | exact y_idxD (RdS.rd (by assumption) hw.left) rfl rfl (by omega) (by omega)) | (apply g_call; first | exact y_lenS rfl | exact y_lenL rfl | exact y_cap rfl | exact y_min2 rfl rfl | exact y_max2 rfl rfl | exact y_lenMs (i := 0) hw rfl rfl | exact y_lenMs (i := 1) hw rfl rfl | exact y_lenMs (i := 2) hw rfl rfl | exact y_lenMs (i := 3) hw rfl rfl | exact y_lenMs (i := 4) hw rfl rfl) | (apply m_pick; first | exact y_pick_and rfl rfl rfl | exact y_pick_or rfl rfl rfl | exact y_pickT rfl rfl | exact y_pickF rfl rfl) | (apply m_not; exact y_not rfl) | (apply m_extract; exact y_extract rfl rfl) | (apply m_nil; exact y_nil rfl) | (apply m_build; exact y_build rfl) | (apply m_index; exact y_idxS rfl rfl (by omega) (by omega)) | (apply m_lookup; first | exact y_lookupS2 (i := 0) hw rfl rfl rfl rfl | exact y_lookupS1 (i := 0) hw rfl rfl rfl rfl | exact y_lookupS2 (i := 1) hw rfl rfl rfl rfl | exact y_lookupS1 (i := 1) hw rfl rfl rfl rfl | exact y_lookupS2 (i := 2) hw rfl rfl rfl rfl | exact y_lookupS1 (i := 2) hw rfl rfl rfl rfl | exact y_lookupS2 (i := 3) hw rfl rfl rfl rfl | exact y_lookupS1 (i := 3) hw rfl rfl rfl rfl | exact y_lookupS2 (i := 4) hw rfl rfl rfl rfl | exact y_lookupS1 (i := 4) hw rfl rfl rfl rfl) | (apply m_slice; first | exact y_sliceL rfl rfl (by omega) (by omega) | exact y_sliceH rfl rfl (by omega) (by omega) | exact y_sliceLH rfl rfl rfl (by omega) (by omega) (by omega) | exact y_sliceLHM rfl rfl rfl rfl (by omega) (by omega) (by omega) (by omega) | exact y_sliceSLH rfl rfl rfl (by omega) (by omega) (by omega) | exact y_sliceSL rfl rfl (by omega) (by omega) | exact y_sliceSH rfl rfl (by omega) (by omega)) | (apply m_conv; exact y_convI rfl) | (apply m_neg; exact y_neg64 rfl (by omega) (by omega))) : L P n opa QQ (o :: rest) ρ w := L_y hg hd (by rw [hb] at hy; exact hy) h
end
section
variable {P : Program} {n : Nat} {ops : List Oper} {Γ : Gho} {S : List Res} {Q : Fr → World → Prop} {ρ : Fr} {rest : List Oper} {j dj : Nat} {want c : Bool}
variable {d : Option Tmp} {op : Op} {T U ty : TypeId} {pos : String} {es : Array Edge} {x y z : Operand}
/-- In a quiet region: an operation whose guard is known to say no. -/
theorem qGF (h : Qw P n ops Γ S Q rest (putO ρ d (gv c undef))) (hcf : c = false) (hj : (ops[j]?).bind (·.dst) = some dj := by exact rfl) (hc : GuardIs (ρ dj) want c := by first | exact GuardIs.t | exact GuardIs.f | exact GuardIs.gt | exact GuardIs.gf) (hsel : noSel ⟨d, op, ty, pos, es, some (j, want)⟩ = true := by exact rfl) :
    Qw P n ops Γ S Q (⟨d, op, ty, pos, es, some (j, want)⟩ :: rest) ρ := Q_gy rfl hj hc hsel (fun hct => by rw [hcf] at hct; cases hct) h
theorem qT {b : Bool} {o : Oper} (hb : b = true) (h : Qw P n ops Γ S Q rest (putO ρ o.dst (.bool true))) (hg : o.guard = none := by exact rfl) (hsel : noSel o = true := by exact rfl) (hy : ∀ w, Wd Γ S w → Yields P o ρ w (.bool b) := by (intro w hw; exact (by first | (apply m_move; exact y_move (by first | exact (rfl : _ = Value.int _ _) | exact (rfl : _ = Value.bool _) | exact (rfl : _ = Value.string _) | exact (rfl : _ = Value.slice _ _ _) | exact (rfl : _ = Value.pointer _) | exact (rfl : _ = Value.agg _) | exact (rfl : _ = Value.map _) | exact (rfl : _ = Value.tuple _) | exact (rfl : _ = Value.func _ _ _) | exact (rfl : _ = gv _ _) | exact rfl)) | (apply m_assign; exact y_assign (by first | exact (rfl : _ = Value.int _ _) | exact (rfl : _ = Value.bool _) | exact (rfl : _ = Value.string _) | exact (rfl : _ = Value.slice _ _ _) | exact (rfl : _ = Value.pointer _) | exact (rfl : _ = Value.agg _) | exact (rfl : _ = Value.map _) | exact (rfl : _ = Value.tuple _) | exact (rfl : _ = Value.func _ _ _) | exact (rfl : _ = gv _ _) | exact rfl)) | (apply g_bin; first | (apply m_op .eql; first | exact y_eql rfl rfl | exact y_eqls rfl rfl | exact y_eqT rfl rfl rfl | exact y_eqB rfl rfl | exact y_eqnS rfl rfl | exact y_eqnP rfl rfl | exact y_eqnM rfl rfl) | (apply m_op .lss; first | exact y_lss rfl rfl | exact y_lssS rfl rfl) | (apply m_op .neq; first | exact y_neq rfl rfl | exact y_neqs rfl rfl | exact y_neqT rfl rfl rfl | exact y_neqnS rfl rfl | exact y_neqnP rfl rfl) | (apply m_op .leq; first | exact y_leq rfl rfl | exact y_leqS rfl rfl) | (apply m_op .gtr; first | exact y_gtr rfl rfl | exact y_gtrS rfl rfl) | (apply m_op .geq; first | exact y_geq rfl rfl | exact y_geqS rfl rfl) | (apply m_op .add; first | exact y_add64 rfl rfl (by omega) (by omega) | exact y_add rfl rfl | exact y_addS rfl rfl (by omega)) | (apply m_op .sub; first | exact y_sub64 rfl rfl (by omega) (by omega) | exact y_sub rfl rfl) | (apply m_op .mul; first | exact y_mul64 rfl rfl (by omega) (by omega) | exact y_mul rfl rfl) | (apply m_op .rem; exact y_rem rfl rfl (by omega)) | (apply m_op .quo; exact y_quo rfl rfl (by omega)) | (apply m_op .shl; exact y_shl rfl rfl (by omega)) | (apply m_op .shr; exact y_shr rfl rfl (by omega)) | (apply m_op .and; exact y_and rfl rfl) | (apply m_op .or; exact y_or rfl rfl) | (apply m_op .xor; exact y_xor rfl rfl) | (apply m_op .andNot; exact y_andNot rfl rfl)) | (apply m_loadS; first | exact y_l1b (i := 0) hw rfl rfl rfl | exact y_l1b (i := 1) hw rfl rfl rfl | exact y_l1b (i := 2) hw rfl rfl rfl | exact y_l1b (i := 3) hw rfl rfl rfl | exact y_l1b (i := 4) hw rfl rfl rfl | exact y_l1b (i := 5) hw rfl rfl rfl | exact y_l1b (i := 6) hw rfl rfl rfl | exact y_loadEf rfl (RepS.rd (by assumption) hw) (rows_map (by assumption)) rfl | exact y_loadEf2 rfl (RepS.rd (by assumption) hw) (rows_map (by assumption)) rfl | exact y_loadE1 rfl (RepS.rd (by assumption) hw) (rows_map (by assumption)) | exact y_loadF rfl (RepS.rd (by assumption) hw) (by assumption) | exact y_loadEf rfl (RdS.rd (by assumption) hw) (rows_map (by assumption)) rfl | exact y_loadEf2 rfl (RdS.rd (by assumption) hw) (rows_map (by assumption)) rfl | exact y_loadE1 rfl (RdS.rd (by assumption) hw) (rows_map (by assumption)) | exact y_loadF rfl (RdS.rd (by assumption) hw) (by assumption) | exact y_loadEf rfl (RdS.rd (by assumption) hw.left) (rows_map (by assumption)) rfl | exact y_loadEf2 rfl (RdS.rd (by assumption) hw.left) (rows_map (by assumption)) rfl | exact y_loadE1 rfl (RdS.rd (by assumption) hw.left) (rows_map (by assumption)) | exact y_loadF rfl (RdS.rd (by assumption) hw.left) (by assumption) | exact y_loadEf rfl (Wd.own_rd (i := 0) hw rfl) (rows_map (by assumption)) rfl | exact y_loadEf2 rfl (Wd.own_rd (i := 0) hw rfl) (rows_map (by assumption)) rfl | exact y_loadE1 rfl (Wd.own_rd (i := 0) hw rfl) (rows_map (by assumption)) | exact y_loadF rfl (Wd.own_rd (i := 0) hw rfl) (by assumption) | exact y_loadEf rfl (Wd.own_rd (i := 1) hw rfl) (rows_map (by assumption)) rfl | exact y_loadEf2 rfl (Wd.own_rd (i := 1) hw rfl) (rows_map (by assumption)) rfl | exact y_loadE1 rfl (Wd.own_rd (i := 1) hw rfl) (rows_map (by assumption)) | exact y_loadF rfl (Wd.own_rd (i := 1) hw rfl) (by assumption) | exact y_loadEf rfl (Wd.own_rd (i := 2) hw rfl) (rows_map (by assumption)) rfl | exact y_loadEf2 rfl (Wd.own_rd (i := 2) hw rfl) (rows_map (by assumption)) rfl | exact y_loadE1 rfl (Wd.own_rd (i := 2) hw rfl) (rows_map (by assumption)) | exact y_loadF rfl (Wd.own_rd (i := 2) hw rfl) (by assumption) | exact y_loadEf rfl (Wd.own_rd (i := 3) hw rfl) (rows_map (by assumption)) rfl | exact y_loadEf2 rfl (Wd.own_rd (i := 3) hw rfl) (rows_map (by assumption)) rfl | exact y_loadE1 rfl (Wd.own_rd (i := 3) hw rfl) (rows_map (by assumption)) | exact y_loadF rfl (Wd.own_rd (i := 3) hw rfl) (by assumption)) | (apply m_loadA; first | exact y_lwb (i := 0) hw rfl rfl rfl | exact y_lwb (i := 1) hw rfl rfl rfl | exact y_lwb (i := 2) hw rfl rfl rfl | exact y_lwb (i := 3) hw rfl rfl rfl | exact y_lwb (i := 4) hw rfl rfl rfl | exact y_lwb (i := 5) hw rfl rfl rfl | exact y_lwb (i := 6) hw rfl rfl rfl | exact y_loadE rfl (RepS.rd (by assumption) hw) (rows_map (by assumption)) | exact y_loadEsub rfl (RepS.rd (by assumption) hw) (rows_map (by assumption)) rfl rfl | exact y_loadE rfl (RdS.rd (by assumption) hw) (rows_map (by assumption)) | exact y_loadEsub rfl (RdS.rd (by assumption) hw) (rows_map (by assumption)) rfl rfl | exact y_loadE rfl (RdS.rd (by assumption) hw.left) (rows_map (by assumption)) | exact y_loadEsub rfl (RdS.rd (by assumption) hw.left) (rows_map (by assumption)) rfl rfl | exact y_loadE rfl (Wd.own_rd (i := 0) hw rfl) (rows_map (by assumption)) | exact y_loadEsub rfl (Wd.own_rd (i := 0) hw rfl) (rows_map (by assumption)) rfl rfl | exact y_loadE rfl (Wd.own_rd (i := 1) hw rfl) (rows_map (by assumption)) | exact y_loadEsub rfl (Wd.own_rd (i := 1) hw rfl) (rows_map (by assumption)) rfl rfl | exact y_loadE rfl (Wd.own_rd (i := 2) hw rfl) (rows_map (by assumption)) | exact y_loadEsub rfl (Wd.own_rd (i := 2) hw rfl) (rows_map (by assumption)) rfl rfl | exact y_loadE rfl (Wd.own_rd (i := 3) hw rfl) (rows_map (by assumption)) | exact y_loadEsub rfl (Wd.own_rd (i := 3) hw rfl) (rows_map (by assumption)) rfl rfl | exact y_lpb (i := 0) hw rfl rfl rfl rfl | exact y_lpb (i := 1) hw rfl rfl rfl rfl | exact y_lpb (i := 2) hw rfl rfl rfl rfl | exact y_lpb (i := 3) hw rfl rfl rfl rfl | exact y_lpb (i := 4) hw rfl rfl rfl rfl | exact y_lpb (i := 5) hw rfl rfl rfl rfl | exact y_lpb (i := 6) hw rfl rfl rfl rfl) | (apply m_field; exact y_field rfl) | (apply g_idx; first | exact y_idxI hw (by assumption) rfl rfl (by omega) (by omega) | exact y_idxO (j := 0) hw rfl rfl rfl (by omega) (by omega) | exact y_idxO (j := 1) hw rfl rfl rfl (by omega) (by omega) | exact y_idxO (j := 2) hw rfl rfl rfl (by omega) (by omega) | exact y_idxO (j := 3) hw rfl rfl rfl (by omega) (by omega) | exact y_idxD (RdS.rd (by assumption) hw) rfl rfl (by omega) (by omega) | exact y_idxD (RdS.rd (by assumption) hw.left) rfl rfl (by omega) (by omega)) | (apply g_call; first | exact y_lenS rfl | exact y_lenL rfl | exact y_cap rfl | exact y_min2 rfl rfl | exact y_max2 rfl rfl | exact y_lenMs (i := 0) hw rfl rfl | exact y_lenMs (i := 1) hw rfl rfl | exact y_lenMs (i := 2) hw rfl rfl | exact y_lenMs (i := 3) hw rfl rfl | exact y_lenMs (i := 4) hw rfl rfl) | (apply m_pick; first | exact y_pick_and rfl rfl rfl | exact y_pick_or rfl rfl rfl | exact y_pickT rfl rfl | exact y_pickF rfl rfl) | (apply m_not; exact y_not rfl) | (apply m_extract; exact y_extract rfl rfl) | (apply m_nil; exact y_nil rfl) | (apply m_build; exact y_build rfl) | (apply m_index; exact y_idxS rfl rfl (by omega) (by omega)) | (apply m_lookup; first | exact y_lookupS2 (i := 0) hw rfl rfl rfl rfl | exact y_lookupS1 (i := 0) hw rfl rfl rfl rfl | exact y_lookupS2 (i := 1) hw rfl rfl rfl rfl | exact y_lookupS1 (i := 1) hw rfl rfl rfl rfl | exact y_lookupS2 (i := 2) hw rfl rfl rfl rfl | exact y_lookupS1 (i := 2) hw rfl rfl rfl rfl | exact y_lookupS2 (i := 3) hw rfl rfl rfl rfl | exact y_lookupS1 (i := 3) hw rfl rfl rfl rfl | exact y_lookupS2 (i := 4) hw rfl rfl rfl rfl | exact y_lookupS1 (i := 4) hw rfl rfl rfl rfl) | (apply m_slice; first | exact y_sliceL rfl rfl (by omega) (by omega) | exact y_sliceH rfl rfl (by omega) (by omega) | exact y_sliceLH rfl rfl rfl (by omega) (by omega) (by omega) | exact y_sliceLHM rfl rfl rfl rfl (by omega) (by omega) (by omega) (by omega) | exact y_sliceSLH rfl rfl rfl (by omega) (by omega) (by omega) | exact y_sliceSL rfl rfl (by omega) (by omega) | exact y_sliceSH rfl rfl (by omega) (by omega)) | (apply m_conv; exact y_convI rfl) | (apply m_neg; exact y_neg64 rfl (by omega) (by omega))))) : Qw P n ops Γ S Q (o :: rest) ρ := Q_y hg hsel (fun w hw => by have := hy w hw; rw [hb] at this; exact this) h
theorem qF {b : Bool} {o : Oper} (hb : b = false) (h : Qw P n ops Γ S Q rest (putO ρ o.dst (.bool false))) (hg : o.guard = none := by exact rfl) (hsel : noSel o = true := by exact rfl) (hy : ∀ w, Wd Γ S w → Yields P o ρ w (.bool b) := by (intro w hw; exact (by first | (apply m_move; exact y_move (by first | exact (rfl : _ = Value.int _ _) | exact (rfl : _ = Value.bool _) | exact (rfl : _ = Value.string _) | exact (rfl : _ = Value.slice _ _ _) | exact (rfl : _ = Value.pointer _) | exact (rfl : _ = Value.agg _) | exact (rfl : _ = Value.map _) | exact (rfl : _ = Value.tuple _) | exact (rfl : _ = Value.func _ _ _) | exact (rfl : _ = gv _ _) | exact rfl)) | (apply m_assign; exact y_assign (by first | exact (rfl : _ = Value.int _ _) | exact (rfl : _ = Value.bool _) | exact (rfl : _ = Value.string _) | exact (rfl : _ = Value.slice _ _ _) | exact (rfl : _ = Value.pointer _) | exact (rfl : _ = Value.agg _) | exact (rfl : _ = Value.map _) | exact (rfl : _ = Value.tuple _) | exact (rfl : _ = Value.func _ _ _) | exact (rfl : _ = gv _ _) | exact rfl)) | (apply g_bin; first | (apply m_op .eql; first | exact y_eql rfl rfl | exact y_eqls rfl rfl | exact y_eqT rfl rfl rfl | exact y_eqB rfl rfl | exact y_eqnS rfl rfl | exact y_eqnP rfl rfl | exact y_eqnM rfl rfl) | (apply m_op .lss; first | exact y_lss rfl rfl | exact y_lssS rfl rfl) | (apply m_op .neq; first | exact y_neq rfl rfl | exact y_neqs rfl rfl | exact y_neqT rfl rfl rfl | exact y_neqnS rfl rfl | exact y_neqnP rfl rfl) | (apply m_op .leq; first | exact y_leq rfl rfl | exact y_leqS rfl rfl) | (apply m_op .gtr; first | exact y_gtr rfl rfl | exact y_gtrS rfl rfl) | (apply m_op .geq; first | exact y_geq rfl rfl | exact y_geqS rfl rfl) | (apply m_op .add; first | exact y_add64 rfl rfl (by omega) (by omega) | exact y_add rfl rfl | exact y_addS rfl rfl (by omega)) | (apply m_op .sub; first | exact y_sub64 rfl rfl (by omega) (by omega) | exact y_sub rfl rfl) | (apply m_op .mul; first | exact y_mul64 rfl rfl (by omega) (by omega) | exact y_mul rfl rfl) | (apply m_op .rem; exact y_rem rfl rfl (by omega)) | (apply m_op .quo; exact y_quo rfl rfl (by omega)) | (apply m_op .shl; exact y_shl rfl rfl (by omega)) | (apply m_op .shr; exact y_shr rfl rfl (by omega)) | (apply m_op .and; exact y_and rfl rfl) | (apply m_op .or; exact y_or rfl rfl) | (apply m_op .xor; exact y_xor rfl rfl) | (apply m_op .andNot; exact y_andNot rfl rfl)) | (apply m_loadS; first | exact y_l1b (i := 0) hw rfl rfl rfl | exact y_l1b (i := 1) hw rfl rfl rfl | exact y_l1b (i := 2) hw rfl rfl rfl | exact y_l1b (i := 3) hw rfl rfl rfl | exact y_l1b (i := 4) hw rfl rfl rfl | exact y_l1b (i := 5) hw rfl rfl rfl | exact y_l1b (i := 6) hw rfl rfl rfl | exact y_loadEf rfl (RepS.rd (by assumption) hw) (rows_map (by assumption)) rfl | exact y_loadEf2 rfl (RepS.rd (by assumption) hw) (rows_map (by assumption)) rfl | exact y_loadE1 rfl (RepS.rd (by assumption) hw) (rows_map (by assumption)) | exact y_loadF rfl (RepS.rd (by assumption) hw) (by assumption) | exact y_loadEf rfl (RdS.rd (by assumption) hw) (rows_map (by assumption)) rfl | exact y_loadEf2 rfl (RdS.rd (by assumption) hw) (rows_map (by assumption)) rfl | exact y_loadE1 rfl (RdS.rd (by assumption) hw) (rows_map (by assumption)) | exact y_loadF rfl (RdS.rd (by assumption) hw) (by assumption) | exact y_loadEf rfl (RdS.rd (by assumption) hw.left) (rows_map (by assumption)) rfl | exact y_loadEf2 rfl (RdS.rd (by assumption) hw.left) (rows_map (by assumption)) rfl | exact y_loadE1 rfl (RdS.rd (by assumption) hw.left) (rows_map (by assumption)) | exact y_loadF rfl (RdS.rd (by assumption) hw.left) (by assumption) | exact y_loadEf rfl (Wd.own_rd (i := 0) hw rfl) (rows_map (by assumption)) rfl | exact y_loadEf2 rfl (Wd.own_rd (i := 0) hw rfl) (rows_map (by assumption)) rfl | exact y_loadE1 rfl (Wd.own_rd (i := 0) hw rfl) (rows_map (by assumption)) | exact y_loadF rfl (Wd.own_rd (i := 0) hw rfl) (by assumption) | exact y_loadEf rfl (Wd.own_rd (i := 1) hw rfl) (rows_map (by assumption)) rfl | exact y_loadEf2 rfl (Wd.own_rd (i := 1) hw rfl) (rows_map (by assumption)) rfl | exact y_loadE1 rfl (Wd.own_rd (i := 1) hw rfl) (rows_map (by assumption)) | exact y_loadF rfl (Wd.own_rd (i := 1) hw rfl) (by assumption) | exact y_loadEf rfl (Wd.own_rd (i := 2) hw rfl) (rows_map (by assumption)) rfl | exact y_loadEf2 rfl (Wd.own_rd (i := 2) hw rfl) (rows_map (by assumption)) rfl | exact y_loadE1 rfl (Wd.own_rd (i := 2) hw rfl) (rows_map (by assumption)) | exact y_loadF rfl (Wd.own_rd (i := 2) hw rfl) (by assumption) | exact y_loadEf rfl (Wd.own_rd (i := 3) hw rfl) (rows_map (by assumption)) rfl | exact y_loadEf2 rfl (Wd.own_rd (i := 3) hw rfl) (rows_map (by assumption)) rfl | exact y_loadE1 rfl (Wd.own_rd (i := 3) hw rfl) (rows_map (by assumption)) | exact y_loadF rfl (Wd.own_rd (i := 3) hw rfl) (by assumption)) | (apply m_loadA; first | exact y_lwb (i := 0) hw rfl rfl rfl | exact y_lwb (i := 1) hw rfl rfl rfl | exact y_lwb (i := 2) hw rfl rfl rfl | exact y_lwb (i := 3) hw rfl rfl rfl | exact y_lwb (i := 4) hw rfl rfl rfl | exact y_lwb (i := 5) hw rfl rfl rfl | exact y_lwb (i := 6) hw rfl rfl rfl | exact y_loadE rfl (RepS.rd (by assumption) hw) (rows_map (by assumption)) | exact y_loadEsub rfl (RepS.rd (by assumption) hw) (rows_map (by assumption)) rfl rfl | exact y_loadE rfl (RdS.rd (by assumption) hw) (rows_map (by assumption)) | exact y_loadEsub rfl (RdS.rd (by assumption) hw) (rows_map (by assumption)) rfl rfl | exact y_loadE rfl (RdS.rd (by assumption) hw.left) (rows_map (by assumption)) | exact y_loadEsub rfl (RdS.rd (by assumption) hw.left) (rows_map (by assumption)) rfl rfl | exact y_loadE rfl (Wd.own_rd (i := 0) hw rfl) (rows_map (by assumption)) | exact y_loadEsub rfl (Wd.own_rd (i := 0) hw rfl) (rows_map (by assumption)) rfl rfl | exact y_loadE rfl (Wd.own_rd (i := 1) hw rfl) (rows_map (by assumption)) | exact y_loadEsub rfl (Wd.own_rd (i := 1) hw rfl) (rows_map (by assumption)) rfl rfl | exact y_loadE rfl (Wd.own_rd (i := 2) hw rfl) (rows_map (by assumption)) | exact y_loadEsub rfl (Wd.own_rd (i := 2) hw rfl) (rows_map (by assumption)) rfl rfl | exact y_loadE rfl (Wd.own_rd (i := 3) hw rfl) (rows_map (by assumption)) | exact y_loadEsub rfl (Wd.own_rd (i := 3) hw rfl) (rows_map (by assumption)) rfl rfl | exact y_lpb (i := 0) hw rfl rfl rfl rfl | exact y_lpb (i := 1) hw rfl rfl rfl rfl | exact y_lpb (i := 2) hw rfl rfl rfl rfl | exact y_lpb (i := 3) hw rfl rfl rfl rfl | exact y_lpb (i := 4) hw rfl rfl rfl rfl | exact y_lpb (i := 5) hw rfl rfl rfl rfl | exact y_lpb (i := 6) hw rfl rfl rfl rfl) | (apply m_field; exact y_field rfl) | (apply g_idx; first | exact y_idxI hw (by assumption) rfl rfl (by omega) (by omega) | exact y_idxO (j := 0) hw rfl rfl rfl (by omega) (by omega) | exact y_idxO (j := 1) hw rfl rfl rfl (by omega) (by omega) | exact y_idxO (j := 2) hw rfl rfl rfl (by omega) (by omega) | exact y_idxO (j := 3) hw rfl rfl rfl (by omega) (by omega) | exact y_idxD (RdS.rd (by assumption) hw) rfl rfl (by omega) (by omega) | exact y_idxD (RdS.rd (by assumption) hw.left) rfl rfl (by omega) (by omega)) | (apply g_call; first | exact y_lenS rfl | exact y_lenL rfl | exact y_cap rfl | exact y_min2 rfl rfl | exact y_max2 rfl rfl | exact y_lenMs (i := 0) hw rfl rfl | exact y_lenMs (i := 1) hw rfl rfl | exact y_lenMs (i := 2) hw rfl rfl | exact y_lenMs (i := 3) hw rfl rfl | exact y_lenMs (i := 4) hw rfl rfl) | (apply m_pick; first | exact y_pick_and rfl rfl rfl | exact y_pick_or rfl rfl rfl | exact y_pickT rfl rfl | exact y_pickF rfl rfl) | (apply m_not; exact y_not rfl) | (apply m_extract; exact y_extract rfl rfl) | (apply m_nil; exact y_nil rfl) | (apply m_build; exact y_build rfl) | (apply m_index; exact y_idxS rfl rfl (by omega) (by omega)) | (apply m_lookup; first | exact y_lookupS2 (i := 0) hw rfl rfl rfl rfl | exact y_lookupS1 (i := 0) hw rfl rfl rfl rfl | exact y_lookupS2 (i := 1) hw rfl rfl rfl rfl | exact y_lookupS1 (i := 1) hw rfl rfl rfl rfl | exact y_lookupS2 (i := 2) hw rfl rfl rfl rfl | exact y_lookupS1 (i := 2) hw rfl rfl rfl rfl | exact y_lookupS2 (i := 3) hw rfl rfl rfl rfl | exact y_lookupS1 (i := 3) hw rfl rfl rfl rfl | exact y_lookupS2 (i := 4) hw rfl rfl rfl rfl | exact y_lookupS1 (i := 4) hw rfl rfl rfl rfl) | (apply m_slice; first | exact y_sliceL rfl rfl (by omega) (by omega) | exact y_sliceH rfl rfl (by omega) (by omega) | exact y_sliceLH rfl rfl rfl (by omega) (by omega) (by omega) | exact y_sliceLHM rfl rfl rfl rfl (by omega) (by omega) (by omega) (by omega) | exact y_sliceSLH rfl rfl rfl (by omega) (by omega) (by omega) | exact y_sliceSL rfl rfl (by omega) (by omega) | exact y_sliceSH rfl rfl (by omega) (by omega)) | (apply m_conv; exact y_convI rfl) | (apply m_neg; exact y_neg64 rfl (by omega) (by omega))))) : Qw P n ops Γ S Q (o :: rest) ρ := Q_y hg hsel (fun w hw => by have := hy w hw; rw [hb] at this; exact this) h
end
/-- What is encoded is of one cell each. -/
theorem enc_one {α : Type} [GoT α] (a : α) : (enc a).all (·.oneCell') = true := by
  rw [List.all_eq_true]
  intro u hu
  have h : kOf u ∈ (GoT.ks α).map some := by rw [← GoT.kinds a]; exact List.mem_map.2 ⟨u, hu, rfl⟩
  obtain ⟨k, _, hk⟩ := List.mem_map.1 h
  cases u <;> simp [kOf] at hk <;> rfl
theorem encs_one {α : Type} [GoT α] (xs : List α) : (xs.map enc).flatten.all (·.oneCell') = true := by
  rw [List.all_eq_true]
  intro u hu
  obtain ⟨r, hr, hur⟩ := List.mem_flatten.1 hu
  obtain ⟨x, _, rfl⟩ := List.mem_map.1 hr
  exact (List.all_eq_true.1 (enc_one x)) u hur
section
end
end Mk
end
/- Drawn regions with steps that change memory in one chain (calls, boxes), what they answer being only known to lie in a relation. -/
section
open Go
namespace Mk
attribute [local irreducible] Calls

/-- What is held, where it is only known that there is a t with φ. -/
def exC {T : Type} (φ : T → Fr → Prop) (R : T → List Res) : Fr → List Res := fun g => [Res.ex (α := {t : T // φ t g}) fun p => R p.1]

section
variable {P : Program} {n : Nat} {ops : List Oper} {Γ : Gho} {K X : List Res} {wr tc stab : List (List Nat)} {N : List Nat} {Q : Fr → World → Prop} {i : Nat} {rest : List Oper} {ρ : Fr} {w : World} {M : Nat → Fr → List Res} {v : Value} {T T' : Type}

theorem Wd.as {A B C : List Res} (h : Wd Γ ((A ++ B) ++ C) w) : Wd Γ (A ++ (B ++ C)) w := by rwa [List.append_assoc] at h
theorem Wd.sa {A B C : List Res} (h : Wd Γ (A ++ (B ++ C)) w) : Wd Γ ((A ++ B) ++ C) w := by rwa [List.append_assoc]
theorem Wd.tuck {A B C S : List Res} (h : Wd Γ ((A ++ (B ++ S)) ++ C) w) : Wd Γ (A ++ (B ++ (C ++ S))) w := h.perm (by
  rw [List.append_assoc, List.append_assoc]
  exact List.Perm.append_left _ (List.Perm.append_left _ List.perm_append_comm))
theorem W_mixC {id : Nat} {l : List Oper} {QQ : Exit → Fr → World → Prop} (K X : List Res) (N : List Nat) (wr : List (List Nat)) (hw : Wd Γ (K ++ X) w)
    (h : MSw (mV P n l Γ K wr wr [N]) (fun ρ w => QQ .normal ρ w) 0 l ⟨ρ, fun _ => exC (T := Unit) (fun _ _ => True) (fun _ => X)⟩)
    (hm : P.follows .mixedOrders = true := by kernel_rfl) (hk : checkM n l wr wr [N] = true := by kernel_rfl) : W P n (.region id l.toArray true) QQ ρ w :=
  W_mix K (fun _ => exC (T := Unit) (fun _ _ => True) (fun _ => X)) wr wr [N] true hm hk (by
    have e : cellsOf (mV P n l Γ K wr wr [N]) (List.range [N].length) (fun _ => exC (T := Unit) (fun _ _ => True) (fun _ => X)) ρ = exC (T := Unit) (fun _ _ => True) (fun _ => X) (ovr N ρ noFr) := by
      show _ ++ [] = _
      rw [List.append_nil]; rfl
    show Wd Γ (K ++ cellsOf (mV P n l Γ K wr wr [N]) (List.range [N].length) (fun _ => exC (T := Unit) (fun _ _ => True) (fun _ => X)) ρ) w
    rw [e]
    have h1 : Wd Γ (X ++ K) w := hw.perm List.perm_append_comm
    have h2 := Wd.closeEx (α := {t : Unit // True}) (X := fun _ => X) ⟨(), trivial⟩ h1
    exact (h2.perm (List.perm_append_singleton _ K).symm : _)) h

theorem mStepX {φ : T → Fr → Prop} {R : T → List Res} {o : Oper} (φ' : T' → Fr → Prop) (R' : T' → List Res)
    (hs : ∀ t g w Y, φ t (ovr N g noFr) → Wd Γ (R t ++ (K ++ Y)) w → Step P o (ovr N g ρ) w fun u w' => ∃ t', φ' t' (ovr N (putO g o.dst u) noFr) ∧ (freeD [N] o.dst = false → u = v) ∧ Wd Γ (R' t' ++ (K ++ Y)) w')
    (h : MSw (mV P n ops Γ K wr wr [N]) Q (i + 1) rest ⟨putO ρ o.dst v, setC M 0 (exC φ' R')⟩) (hM : M 0 = exC φ R := by first | exact setC_self | exact rfl) (hw0 : wr.getD i [] = [0] := by exact rfl) (hg : o.guard = none := by exact rfl) :
    MSw (mV P n ops Γ K wr wr [N]) Q i (o :: rest) ⟨ρ, M⟩ := by
  refine mM _ (fun Y w g hw => ?_) h hw0 hg
  have e : cellsAt wr [N] i M g = exC φ R (ovr N g noFr) := by
    rw [cells1 hw0, hM]; rfl
  rw [e] at hw
  have e0 : ([N].flatten : List Nat) = N := by simp
  rw [e0]
  obtain ⟨⟨t, ht⟩, hw1⟩ := (Wd.mid hw).openEx
  refine (hs t g w Y ht hw1).mono ?_
  rintro u w' ⟨t', h1, h2, h3⟩
  refine ⟨?_, h2⟩
  have e2 : cellsAt wr [N] i (setC M 0 (exC φ' R')) (putO g o.dst u) = exC φ' R' (ovr N (putO g o.dst u) noFr) := by
    rw [cells1 hw0, setC_self]; rfl
  rw [e2]
  exact Wd.unmid (Wd.closeEx (X := fun p : {t : T' // φ' t (ovr N (putO g o.dst u) noFr)} => R' p.1) ⟨t', h1⟩ h3)

theorem mCallX {φ : T → Fr → Prop} {R : T → List Res} {f : Nat} {d : Option Tmp} {ty : TypeId} {pos : String} {es : Array Edge} {args : List Operand} {tys : Array TypeId} [FnOk P f] (φ' : T' → Fr → Prop) (R' : T' → List Res) (vs : T → Fr → List Value)
    (hs : ∀ t g w Y, φ t (ovr N g noFr) → Wd Γ (R t ++ (K ++ Y)) w → Calls P f (vs t (ovr N g noFr)).toArray w fun e w' => ∃ u, e = .returned u ∧ ∃ t', φ' t' (ovr N (putO g d u) noFr) ∧ (freeD [N] d = false → u = v) ∧ Wd Γ (R' t' ++ (K ++ Y)) w')
    (h : MSw (mV P n ops Γ K wr wr [N]) Q (i + 1) rest ⟨putO ρ d v, setC M 0 (exC φ' R')⟩) (ha : ∀ t g, φ t (ovr N g noFr) → EvL (ovr N g ρ) args (vs t (ovr N g noFr)) := by (intro t g ht; exact (by first | exact EvL.nil | exact (EvL.cons (by first | exact (rfl : _ = Value.int _ _) | exact (rfl : _ = Value.bool _) | exact (rfl : _ = Value.string _) | exact (rfl : _ = Value.slice _ _ _) | exact (rfl : _ = Value.pointer _) | exact (rfl : _ = Value.agg _) | exact (rfl : _ = Value.map _) | exact (rfl : _ = Value.tuple _) | exact (rfl : _ = Value.func _ _ _) | exact (rfl : _ = gv _ _) | exact rfl) EvL.nil) | exact (EvL.cons (by first | exact (rfl : _ = Value.int _ _) | exact (rfl : _ = Value.bool _) | exact (rfl : _ = Value.string _) | exact (rfl : _ = Value.slice _ _ _) | exact (rfl : _ = Value.pointer _) | exact (rfl : _ = Value.agg _) | exact (rfl : _ = Value.map _) | exact (rfl : _ = Value.tuple _) | exact (rfl : _ = Value.func _ _ _) | exact (rfl : _ = gv _ _) | exact rfl) (EvL.cons (by first | exact (rfl : _ = Value.int _ _) | exact (rfl : _ = Value.bool _) | exact (rfl : _ = Value.string _) | exact (rfl : _ = Value.slice _ _ _) | exact (rfl : _ = Value.pointer _) | exact (rfl : _ = Value.agg _) | exact (rfl : _ = Value.map _) | exact (rfl : _ = Value.tuple _) | exact (rfl : _ = Value.func _ _ _) | exact (rfl : _ = gv _ _) | exact rfl) EvL.nil)) | exact (EvL.cons (by first | exact (rfl : _ = Value.int _ _) | exact (rfl : _ = Value.bool _) | exact (rfl : _ = Value.string _) | exact (rfl : _ = Value.slice _ _ _) | exact (rfl : _ = Value.pointer _) | exact (rfl : _ = Value.agg _) | exact (rfl : _ = Value.map _) | exact (rfl : _ = Value.tuple _) | exact (rfl : _ = Value.func _ _ _) | exact (rfl : _ = gv _ _) | exact rfl) (EvL.cons (by first | exact (rfl : _ = Value.int _ _) | exact (rfl : _ = Value.bool _) | exact (rfl : _ = Value.string _) | exact (rfl : _ = Value.slice _ _ _) | exact (rfl : _ = Value.pointer _) | exact (rfl : _ = Value.agg _) | exact (rfl : _ = Value.map _) | exact (rfl : _ = Value.tuple _) | exact (rfl : _ = Value.func _ _ _) | exact (rfl : _ = gv _ _) | exact rfl) (EvL.cons (by first | exact (rfl : _ = Value.int _ _) | exact (rfl : _ = Value.bool _) | exact (rfl : _ = Value.string _) | exact (rfl : _ = Value.slice _ _ _) | exact (rfl : _ = Value.pointer _) | exact (rfl : _ = Value.agg _) | exact (rfl : _ = Value.map _) | exact (rfl : _ = Value.tuple _) | exact (rfl : _ = Value.func _ _ _) | exact (rfl : _ = gv _ _) | exact rfl) EvL.nil))) | exact (EvL.cons (by first | exact (rfl : _ = Value.int _ _) | exact (rfl : _ = Value.bool _) | exact (rfl : _ = Value.string _) | exact (rfl : _ = Value.slice _ _ _) | exact (rfl : _ = Value.pointer _) | exact (rfl : _ = Value.agg _) | exact (rfl : _ = Value.map _) | exact (rfl : _ = Value.tuple _) | exact (rfl : _ = Value.func _ _ _) | exact (rfl : _ = gv _ _) | exact rfl) (EvL.cons (by first | exact (rfl : _ = Value.int _ _) | exact (rfl : _ = Value.bool _) | exact (rfl : _ = Value.string _) | exact (rfl : _ = Value.slice _ _ _) | exact (rfl : _ = Value.pointer _) | exact (rfl : _ = Value.agg _) | exact (rfl : _ = Value.map _) | exact (rfl : _ = Value.tuple _) | exact (rfl : _ = Value.func _ _ _) | exact (rfl : _ = gv _ _) | exact rfl) (EvL.cons (by first | exact (rfl : _ = Value.int _ _) | exact (rfl : _ = Value.bool _) | exact (rfl : _ = Value.string _) | exact (rfl : _ = Value.slice _ _ _) | exact (rfl : _ = Value.pointer _) | exact (rfl : _ = Value.agg _) | exact (rfl : _ = Value.map _) | exact (rfl : _ = Value.tuple _) | exact (rfl : _ = Value.func _ _ _) | exact (rfl : _ = gv _ _) | exact rfl) (EvL.cons (by first | exact (rfl : _ = Value.int _ _) | exact (rfl : _ = Value.bool _) | exact (rfl : _ = Value.string _) | exact (rfl : _ = Value.slice _ _ _) | exact (rfl : _ = Value.pointer _) | exact (rfl : _ = Value.agg _) | exact (rfl : _ = Value.map _) | exact (rfl : _ = Value.tuple _) | exact (rfl : _ = Value.func _ _ _) | exact (rfl : _ = gv _ _) | exact rfl) EvL.nil)))) | exact (EvL.cons (by first | exact (rfl : _ = Value.int _ _) | exact (rfl : _ = Value.bool _) | exact (rfl : _ = Value.string _) | exact (rfl : _ = Value.slice _ _ _) | exact (rfl : _ = Value.pointer _) | exact (rfl : _ = Value.agg _) | exact (rfl : _ = Value.map _) | exact (rfl : _ = Value.tuple _) | exact (rfl : _ = Value.func _ _ _) | exact (rfl : _ = gv _ _) | exact rfl) (EvL.cons (by first | exact (rfl : _ = Value.int _ _) | exact (rfl : _ = Value.bool _) | exact (rfl : _ = Value.string _) | exact (rfl : _ = Value.slice _ _ _) | exact (rfl : _ = Value.pointer _) | exact (rfl : _ = Value.agg _) | exact (rfl : _ = Value.map _) | exact (rfl : _ = Value.tuple _) | exact (rfl : _ = Value.func _ _ _) | exact (rfl : _ = gv _ _) | exact rfl) (EvL.cons (by first | exact (rfl : _ = Value.int _ _) | exact (rfl : _ = Value.bool _) | exact (rfl : _ = Value.string _) | exact (rfl : _ = Value.slice _ _ _) | exact (rfl : _ = Value.pointer _) | exact (rfl : _ = Value.agg _) | exact (rfl : _ = Value.map _) | exact (rfl : _ = Value.tuple _) | exact (rfl : _ = Value.func _ _ _) | exact (rfl : _ = gv _ _) | exact rfl) (EvL.cons (by first | exact (rfl : _ = Value.int _ _) | exact (rfl : _ = Value.bool _) | exact (rfl : _ = Value.string _) | exact (rfl : _ = Value.slice _ _ _) | exact (rfl : _ = Value.pointer _) | exact (rfl : _ = Value.agg _) | exact (rfl : _ = Value.map _) | exact (rfl : _ = Value.tuple _) | exact (rfl : _ = Value.func _ _ _) | exact (rfl : _ = gv _ _) | exact rfl) (EvL.cons (by first | exact (rfl : _ = Value.int _ _) | exact (rfl : _ = Value.bool _) | exact (rfl : _ = Value.string _) | exact (rfl : _ = Value.slice _ _ _) | exact (rfl : _ = Value.pointer _) | exact (rfl : _ = Value.agg _) | exact (rfl : _ = Value.map _) | exact (rfl : _ = Value.tuple _) | exact (rfl : _ = Value.func _ _ _) | exact (rfl : _ = gv _ _) | exact rfl) EvL.nil))))) | exact (EvL.cons (by first | exact (rfl : _ = Value.int _ _) | exact (rfl : _ = Value.bool _) | exact (rfl : _ = Value.string _) | exact (rfl : _ = Value.slice _ _ _) | exact (rfl : _ = Value.pointer _) | exact (rfl : _ = Value.agg _) | exact (rfl : _ = Value.map _) | exact (rfl : _ = Value.tuple _) | exact (rfl : _ = Value.func _ _ _) | exact (rfl : _ = gv _ _) | exact rfl) (EvL.cons (by first | exact (rfl : _ = Value.int _ _) | exact (rfl : _ = Value.bool _) | exact (rfl : _ = Value.string _) | exact (rfl : _ = Value.slice _ _ _) | exact (rfl : _ = Value.pointer _) | exact (rfl : _ = Value.agg _) | exact (rfl : _ = Value.map _) | exact (rfl : _ = Value.tuple _) | exact (rfl : _ = Value.func _ _ _) | exact (rfl : _ = gv _ _) | exact rfl) (EvL.cons (by first | exact (rfl : _ = Value.int _ _) | exact (rfl : _ = Value.bool _) | exact (rfl : _ = Value.string _) | exact (rfl : _ = Value.slice _ _ _) | exact (rfl : _ = Value.pointer _) | exact (rfl : _ = Value.agg _) | exact (rfl : _ = Value.map _) | exact (rfl : _ = Value.tuple _) | exact (rfl : _ = Value.func _ _ _) | exact (rfl : _ = gv _ _) | exact rfl) (EvL.cons (by first | exact (rfl : _ = Value.int _ _) | exact (rfl : _ = Value.bool _) | exact (rfl : _ = Value.string _) | exact (rfl : _ = Value.slice _ _ _) | exact (rfl : _ = Value.pointer _) | exact (rfl : _ = Value.agg _) | exact (rfl : _ = Value.map _) | exact (rfl : _ = Value.tuple _) | exact (rfl : _ = Value.func _ _ _) | exact (rfl : _ = gv _ _) | exact rfl) (EvL.cons (by first | exact (rfl : _ = Value.int _ _) | exact (rfl : _ = Value.bool _) | exact (rfl : _ = Value.string _) | exact (rfl : _ = Value.slice _ _ _) | exact (rfl : _ = Value.pointer _) | exact (rfl : _ = Value.agg _) | exact (rfl : _ = Value.map _) | exact (rfl : _ = Value.tuple _) | exact (rfl : _ = Value.func _ _ _) | exact (rfl : _ = gv _ _) | exact rfl) (EvL.cons (by first | exact (rfl : _ = Value.int _ _) | exact (rfl : _ = Value.bool _) | exact (rfl : _ = Value.string _) | exact (rfl : _ = Value.slice _ _ _) | exact (rfl : _ = Value.pointer _) | exact (rfl : _ = Value.agg _) | exact (rfl : _ = Value.map _) | exact (rfl : _ = Value.tuple _) | exact (rfl : _ = Value.func _ _ _) | exact (rfl : _ = gv _ _) | exact rfl) EvL.nil))))))))) (hM : M 0 = exC φ R := by first | exact setC_self | exact rfl) (hw0 : wr.getD i [] = [0] := by exact rfl) :
    MSw (mV P n ops Γ K wr wr [N]) Q i (⟨d, .call { callee := .value (.func f), args := args.toArray, argTypes := tys }, ty, pos, es, none⟩ :: rest) ⟨ρ, M⟩ :=
  mStepX φ' R' (fun t g w Y ht hw => s_call (ha t g ht).eqA (hs t g w Y ht hw)) h hM hw0 rfl

theorem mEndX {φ : T → Fr → Prop} {R : T → List Res} (h : ∀ t w g, φ t (ovr N g noFr) → Wd Γ (R t ++ K) w → Q (ovr N g ρ) w) (hM : M 0 = exC φ R := by first | exact setC_self | exact rfl) : MSw (mV P n ops Γ K wr tc [N]) Q i [] ⟨ρ, M⟩ :=
  mEnd fun w g hw => by
    have e : ((List.range [N].length).flatMap fun x => M x (ovr ([N].getD x []) g noFr)) = exC φ R (ovr N g noFr) := by
      show M 0 _ ++ [] = _
      rw [List.append_nil, hM]; rfl
    rw [e] at hw
    have e0 : ([N].flatten : List Nat) = N := by simp
    rw [e0]
    obtain ⟨⟨t, ht⟩, hw1⟩ := (Wd.mid (Y := []) hw).openEx
    exact h t w g ht (by simpa using hw1)
end
end Mk
end
/- maps.Clone: a copy of a map. -/
section
open Go
namespace Mk
theorem holds_mp {m h : Hp} {b : Nat} {l : List (Value × Value)} {es : Array MapEntry} {clock : Nat} (h1 : h b = some (.map es clock)) (h2 : es.toList.map (fun e => (e.key, e.val)) = l) (h3 : (es.toList.map (·.born)).Nodup) (h4 : ∀ e ∈ es.toList, e.born < clock) : (Res.mp b l).holds m [b] h := by
  unfold Res.mp
  exact ⟨rfl, es, clock, h1, h2, h3, h4⟩
theorem Clone_mp {P : Program} {ρ : Go.Shelf.Ren} (L : Go.Proofs.SlLaysW.n5 P ρ) {Γ : Gho} {S : List Res} {w : World} {i b : Nat} {l : List (Value × Value)} (hw : Wd Γ S w) (hi : S[i]? = some (.mp b l)) :
    Calls P (ρ.f 5) #[.map (some b)] w fun e w' => ∃ b2, e = .returned (.map (some b2)) ∧ Wd Γ (.mp b2 l :: S) w' := by
  obtain ⟨es, clock, h1, h2, h3, h4⟩ := hw.at_mp hi
  refine (Go.Proofs.AnyW.maps_Clone L b es clock w h1).mono ?_
  rintro e w' ⟨rfl, rfl⟩
  exact ⟨_, rfl, hw.add (r := .mp w.heap.size l) (bs := [w.heap.size]) (w' := w.alloc (.map es clock)) ⟨rfl, rfl, rfl, (by first | exact Nat.le_refl _ | exact Nat.le_succ _), by simp⟩ (holds_mp (heap_alloc_new w _) h2 h3 h4) (by simp) (by simp) fun k hk => heap_alloc_old w _ hk⟩
end Mk
end
/- Comparisons that answer -1, 0 or 1: numbers, strings, one behind another, lists. -/
section
open Go
namespace Mk

def cI (a b : Int) : Int := if a < b then -1 else if b < a then 1 else 0
def cB (a b : ByteArray) : Int := if bLt a b = true then -1 else if bLt b a = true then 1 else 0
def orI (x y : Int) : Int := if x = 0 then y else x
def cL {α : Type} (c : α → α → Int) : List α → List α → Int
  | [], [] => 0
  | [], _ :: _ => -1
  | _ :: _, [] => 1
  | a :: l, b :: k => orI (c a b) (cL c l k)

structure Ord3 {α : Type} (c : α → α → Int) : Prop where
  rng : ∀ a b, c a b = -1 ∨ c a b = 0 ∨ c a b = 1
  eq0 : ∀ {a b}, c a b = 0 → a = b
  refl : ∀ a, c a a = 0
  anti : ∀ a b, c b a = -(c a b)
  trans : ∀ {a b d}, c a b = -1 → c b d = -1 → c a d = -1

theorem cI_lt {a b : Int} : cI a b = -1 ↔ a < b := by
  unfold cI
  by_cases h : a < b
  · simp [h]
  · by_cases h2 : b < a <;> simp [h, h2]
theorem cI_ord : Ord3 cI where
  rng a b := by
    unfold cI
    by_cases h : a < b
    · simp [h]
    · by_cases h2 : b < a <;> simp [h, h2]
  eq0 {a b} e := by
    unfold cI at e
    by_cases h : a < b
    · simp [h] at e
    · by_cases h2 : b < a
      · simp [h, h2] at e
      · omega
  refl a := by unfold cI; simp
  anti a b := by
    unfold cI
    by_cases h : a < b
    · rw [if_neg (by omega), if_pos h, if_pos h]; rfl
    · by_cases h2 : b < a
      · rw [if_pos h2, if_neg h, if_pos h2]
      · rw [if_neg h2, if_neg h, if_neg h, if_neg h2]; rfl
  trans {a b d} h k := by rw [cI_lt] at *; omega
theorem cB_lt {a b : ByteArray} : cB a b = -1 ↔ bLt a b = true := by
  unfold cB
  cases h : bLt a b with
  | true => simp
  | false => cases bLt b a <;> simp
theorem cB_ord : Ord3 cB where
  rng a b := by unfold cB; cases bLt a b <;> cases bLt b a <;> simp
  eq0 {a b} h := by
    unfold cB at h
    cases h1 : bLt a b with
    | true => rw [h1] at h; cases h
    | false =>
      cases h2 : bLt b a with
      | true => rw [h1, h2] at h; cases h
      | false => exact bLt_total h1 h2
  refl a := by unfold cB; simp [bLt_irrefl]
  anti a b := by
    unfold cB
    cases h1 : bLt a b with
    | true => rw [bLt_asymm h1]; rfl
    | false => cases h2 : bLt b a <;> rfl
  trans {a b d} h k := by rw [cB_lt] at *; exact bLt_trans h k

section
variable {α β : Type} {c : α → α → Int} {c2 : β → β → Int}
theorem orI_zero {x y : Int} : orI x y = 0 ↔ x = 0 ∧ y = 0 := by
  unfold orI; split
  · rename_i h; simp [h]
  · rename_i h; simp [h]
theorem Ord3.map (h : Ord3 c) (f : β → α) (hf : ∀ a b, f a = f b → a = b) : Ord3 (fun a b => c (f a) (f b)) :=
  ⟨fun _ _ => h.rng _ _, fun e => hf _ _ (h.eq0 e), fun _ => h.refl _, fun _ _ => h.anti _ _, fun a b => h.trans a b⟩
theorem orI_neg {x y : Int} : orI x y = -1 ↔ x = -1 ∨ (x = 0 ∧ y = -1) := by
  unfold orI; split
  · rename_i h; subst h; simp
  · rename_i h; simp [h]
theorem Ord3.prod (h : Ord3 c) (h2 : Ord3 c2) : Ord3 (fun (a b : α × β) => orI (c a.1 b.1) (c2 a.2 b.2)) where
  rng a b := by
    unfold orI; split
    · exact h2.rng _ _
    · exact h.rng _ _
  eq0 {a b} e := by
    rw [orI_zero] at e
    exact Prod.ext (h.eq0 e.1) (h2.eq0 e.2)
  refl a := by rw [orI_zero]; exact ⟨h.refl _, h2.refl _⟩
  anti a b := by
    unfold orI
    rw [h.anti a.1 b.1, h2.anti a.2 b.2]
    by_cases e : c a.1 b.1 = 0
    · simp [e]
    · rw [if_neg (by omega), if_neg e]
  trans {a b d} e k := by
    rw [orI_neg] at *
    rcases e with e | ⟨e, e'⟩ <;> rcases k with k | ⟨k, k'⟩
    · exact .inl (h.trans e k)
    · rw [← h.eq0 k]; exact .inl e
    · rw [h.eq0 e]; exact .inl k
    · rw [h.eq0 e]; exact .inr ⟨k, h2.trans e' k'⟩
theorem cL_rng (h : Ord3 c) : ∀ a b, cL c a b = -1 ∨ cL c a b = 0 ∨ cL c a b = 1
  | [], [] => .inr (.inl rfl)
  | [], _ :: _ => .inl rfl
  | _ :: _, [] => .inr (.inr rfl)
  | a :: l, b :: k => by
    unfold cL orI; split
    · exact cL_rng h l k
    · exact h.rng _ _
theorem cL_eq0 (h : Ord3 c) : ∀ {a b}, cL c a b = 0 → a = b
  | [], [], _ => rfl
  | [], _ :: _, e => by cases e
  | _ :: _, [], e => by cases e
  | a :: l, b :: k, e => by
    unfold cL at e; rw [orI_zero] at e
    rw [h.eq0 e.1, cL_eq0 h e.2]
theorem cL_refl (h : Ord3 c) : ∀ a, cL c a a = 0
  | [] => rfl
  | a :: l => by unfold cL; rw [orI_zero]; exact ⟨h.refl _, cL_refl h l⟩
theorem cL_anti (h : Ord3 c) : ∀ a b, cL c b a = -(cL c a b)
  | [], [] => rfl
  | [], _ :: _ => rfl
  | _ :: _, [] => rfl
  | a :: l, b :: k => by
    unfold cL orI
    rw [h.anti a b, cL_anti h l k]
    by_cases e : c a b = 0
    · simp [e]
    · rw [if_neg (by omega), if_neg e]
theorem cL_trans (h : Ord3 c) : ∀ {a b d}, cL c a b = -1 → cL c b d = -1 → cL c a d = -1
  | [], _, _ :: _, _, _ => rfl
  | [], [], [], e, _ => by cases e
  | [], _ :: _, [], _, k => by cases k
  | _ :: _, [], _, e, _ => by cases e
  | _ :: _, _ :: _, [], _, k => by cases k
  | a :: l, b :: m, d :: n, e, k => by
    unfold cL at *
    rw [orI_neg] at *
    rcases e with e | ⟨e, e'⟩ <;> rcases k with k | ⟨k, k'⟩
    · exact .inl (h.trans e k)
    · rw [← h.eq0 k]; exact .inl e
    · rw [h.eq0 e]; exact .inl k
    · rw [h.eq0 e]; exact .inr ⟨k, cL_trans h e' k'⟩
theorem Ord3.list (h : Ord3 c) : Ord3 (cL c) := ⟨cL_rng h, cL_eq0 h, cL_refl h, cL_anti h, cL_trans h⟩
theorem Ord3.lt_iff (h : Ord3 c) {a b : α} : Go.Proofs.ltOf c a b = true ↔ c a b = -1 := by
  unfold Go.Proofs.ltOf
  rw [decide_eq_true_iff]
  rcases h.rng a b with e | e | e <;> rw [e] <;> simp
theorem Ord3.swo (h : Ord3 c) : Go.Sort.SWO (Go.Proofs.ltOf c) where
  irrefl x := by unfold Go.Proofs.ltOf; rw [h.refl]; rfl
  trans x y z e k := by rw [h.lt_iff] at *; exact h.trans e k
  ntrans x y z e k := by
    cases q : Go.Proofs.ltOf c x z with
    | false => rfl
    | true =>
      rw [h.lt_iff] at q
      rcases h.rng x y with a | a | a
      · rw [h.lt_iff.2 a] at e; cases e
      · have := h.eq0 a; subst this; rw [h.lt_iff.2 q] at k; cases k
      · have : c y x = -1 := by rw [h.anti x y, a]
        rw [h.lt_iff.2 (h.trans this q)] at k; cases k
end
end Mk
end
