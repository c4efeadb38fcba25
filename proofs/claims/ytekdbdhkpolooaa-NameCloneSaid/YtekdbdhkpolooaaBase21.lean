/- Drawn regions with steps that change memory in one chain (calls, boxes), what they answer being only known to lie in a relation. -/
import Derived.Test.YtekdbdhkpolooaaBase20
open Go
namespace Mk
attribute [local irreducible] Calls

/-- What is held, where it is only known that there is a t with φ. -/
def exC {T : Type} (φ : T → Fr → Prop) (R : T → List Res) : Fr → List Res := fun g => [Res.ex (α := {t : T // φ t g}) fun p => R p.1]

section
variable {P : Program} {n : Nat} {ops : List Oper} {Γ : Gho} {K X : List Res} {wr tc stab : List (List Nat)} {N : List Nat} {Q : Fr → World → Prop} {i : Nat} {rest : List Oper} {ρ : Fr} {w : World} {M : Nat → Fr → List Res} {v : Value} {T T' : Type}

theorem Wd.as {A B C : List Res} (h : Wd Γ ((A ++ B) ++ C) w) : Wd Γ (A ++ (B ++ C)) w := by rwa [List.append_assoc] at h
theorem Wd.sa {A B C : List Res} (h : Wd Γ (A ++ (B ++ C)) w) : Wd Γ ((A ++ B) ++ C) w := by rwa [List.append_assoc]
theorem Wd.tuck {A B C S : List Res} (h : Wd Γ ((A ++ (B ++ S)) ++ C) w) : Wd Γ (A ++ (B ++ (C ++ S))) w := h.perm (by
  rw [List.append_assoc, List.append_assoc]
  exact List.Perm.append_left _ (List.Perm.append_left _ List.perm_append_comm))
theorem W_mixC {id : Nat} {l : List Oper} {QQ : Exit → Fr → World → Prop} (K X : List Res) (N : List Nat) (wr : List (List Nat)) (hw : Wd Γ (K ++ X) w)
    (h : MSw (mV P n l Γ K wr wr [N]) (fun ρ w => QQ .normal ρ w) 0 l ⟨ρ, fun _ => exC (T := Unit) (fun _ _ => True) (fun _ => X)⟩)
    (hm : P.follows .mixedOrders = true := by kernel_rfl) (hk : checkM n l wr wr [N] = true := by kernel_rfl) : W P n (.region id l.toArray true) QQ ρ w :=
  W_mix K (fun _ => exC (T := Unit) (fun _ _ => True) (fun _ => X)) wr wr [N] true hm hk (by
    have e : cellsOf (mV P n l Γ K wr wr [N]) (List.range [N].length) (fun _ => exC (T := Unit) (fun _ _ => True) (fun _ => X)) ρ = exC (T := Unit) (fun _ _ => True) (fun _ => X) (ovr N ρ noFr) := by
      show _ ++ [] = _
      rw [List.append_nil]; rfl
    show Wd Γ (K ++ cellsOf (mV P n l Γ K wr wr [N]) (List.range [N].length) (fun _ => exC (T := Unit) (fun _ _ => True) (fun _ => X)) ρ) w
    rw [e]
    have h1 : Wd Γ (X ++ K) w := hw.perm List.perm_append_comm
    have h2 := Wd.closeEx (α := {t : Unit // True}) (X := fun _ => X) ⟨(), trivial⟩ h1
    exact (h2.perm (List.perm_append_singleton _ K).symm : _)) h

theorem mStepX {φ : T → Fr → Prop} {R : T → List Res} {o : Oper} (φ' : T' → Fr → Prop) (R' : T' → List Res)
    (hs : ∀ t g w Y, φ t (ovr N g noFr) → Wd Γ (R t ++ (K ++ Y)) w → Step P o (ovr N g ρ) w fun u w' => ∃ t', φ' t' (ovr N (putO g o.dst u) noFr) ∧ (freeD [N] o.dst = false → u = v) ∧ Wd Γ (R' t' ++ (K ++ Y)) w')
    (h : MSw (mV P n ops Γ K wr wr [N]) Q (i + 1) rest ⟨putO ρ o.dst v, setC M 0 (exC φ' R')⟩) (hM : M 0 = exC φ R := by first | exact setC_self | exact rfl) (hw0 : wr.getD i [] = [0] := by exact rfl) (hg : o.guard = none := by exact rfl) :
    MSw (mV P n ops Γ K wr wr [N]) Q i (o :: rest) ⟨ρ, M⟩ := by
  refine mM _ (fun Y w g hw => ?_) h hw0 hg
  have e : cellsAt wr [N] i M g = exC φ R (ovr N g noFr) := by
    rw [cells1 hw0, hM]; rfl
  rw [e] at hw
  have e0 : ([N].flatten : List Nat) = N := by simp
  rw [e0]
  obtain ⟨⟨t, ht⟩, hw1⟩ := (Wd.mid hw).openEx
  refine (hs t g w Y ht hw1).mono ?_
  rintro u w' ⟨t', h1, h2, h3⟩
  refine ⟨?_, h2⟩
  have e2 : cellsAt wr [N] i (setC M 0 (exC φ' R')) (putO g o.dst u) = exC φ' R' (ovr N (putO g o.dst u) noFr) := by
    rw [cells1 hw0, setC_self]; rfl
  rw [e2]
  exact Wd.unmid (Wd.closeEx (X := fun p : {t : T' // φ' t (ovr N (putO g o.dst u) noFr)} => R' p.1) ⟨t', h1⟩ h3)

theorem mCallX {φ : T → Fr → Prop} {R : T → List Res} {f : Nat} {d : Option Tmp} {ty : TypeId} {pos : String} {es : Array Edge} {args : List Operand} {tys : Array TypeId} [FnOk P f] (φ' : T' → Fr → Prop) (R' : T' → List Res) (vs : T → Fr → List Value)
    (hs : ∀ t g w Y, φ t (ovr N g noFr) → Wd Γ (R t ++ (K ++ Y)) w → Calls P f (vs t (ovr N g noFr)).toArray w fun e w' => ∃ u, e = .returned u ∧ ∃ t', φ' t' (ovr N (putO g d u) noFr) ∧ (freeD [N] d = false → u = v) ∧ Wd Γ (R' t' ++ (K ++ Y)) w')
    (h : MSw (mV P n ops Γ K wr wr [N]) Q (i + 1) rest ⟨putO ρ d v, setC M 0 (exC φ' R')⟩) (ha : ∀ t g, φ t (ovr N g noFr) → EvL (ovr N g ρ) args (vs t (ovr N g noFr)) := by (intro t g ht; exact (by first | exact EvL.nil | exact (EvL.cons (by first | exact (rfl : _ = Value.int _ _) | exact (rfl : _ = Value.bool _) | exact (rfl : _ = Value.string _) | exact (rfl : _ = Value.slice _ _ _) | exact (rfl : _ = Value.pointer _) | exact (rfl : _ = Value.agg _) | exact (rfl : _ = Value.map _) | exact (rfl : _ = Value.tuple _) | exact (rfl : _ = Value.func _ _ _) | exact (rfl : _ = gv _ _) | exact rfl) EvL.nil) | exact (EvL.cons (by first | exact (rfl : _ = Value.int _ _) | exact (rfl : _ = Value.bool _) | exact (rfl : _ = Value.string _) | exact (rfl : _ = Value.slice _ _ _) | exact (rfl : _ = Value.pointer _) | exact (rfl : _ = Value.agg _) | exact (rfl : _ = Value.map _) | exact (rfl : _ = Value.tuple _) | exact (rfl : _ = Value.func _ _ _) | exact (rfl : _ = gv _ _) | exact rfl) (EvL.cons (by first | exact (rfl : _ = Value.int _ _) | exact (rfl : _ = Value.bool _) | exact (rfl : _ = Value.string _) | exact (rfl : _ = Value.slice _ _ _) | exact (rfl : _ = Value.pointer _) | exact (rfl : _ = Value.agg _) | exact (rfl : _ = Value.map _) | exact (rfl : _ = Value.tuple _) | exact (rfl : _ = Value.func _ _ _) | exact (rfl : _ = gv _ _) | exact rfl) EvL.nil)) | exact (EvL.cons (by first | exact (rfl : _ = Value.int _ _) | exact (rfl : _ = Value.bool _) | exact (rfl : _ = Value.string _) | exact (rfl : _ = Value.slice _ _ _) | exact (rfl : _ = Value.pointer _) | exact (rfl : _ = Value.agg _) | exact (rfl : _ = Value.map _) | exact (rfl : _ = Value.tuple _) | exact (rfl : _ = Value.func _ _ _) | exact (rfl : _ = gv _ _) | exact rfl) (EvL.cons (by first | exact (rfl : _ = Value.int _ _) | exact (rfl : _ = Value.bool _) | exact (rfl : _ = Value.string _) | exact (rfl : _ = Value.slice _ _ _) | exact (rfl : _ = Value.pointer _) | exact (rfl : _ = Value.agg _) | exact (rfl : _ = Value.map _) | exact (rfl : _ = Value.tuple _) | exact (rfl : _ = Value.func _ _ _) | exact (rfl : _ = gv _ _) | exact rfl) (EvL.cons (by first | exact (rfl : _ = Value.int _ _) | exact (rfl : _ = Value.bool _) | exact (rfl : _ = Value.string _) | exact (rfl : _ = Value.slice _ _ _) | exact (rfl : _ = Value.pointer _) | exact (rfl : _ = Value.agg _) | exact (rfl : _ = Value.map _) | exact (rfl : _ = Value.tuple _) | exact (rfl : _ = Value.func _ _ _) | exact (rfl : _ = gv _ _) | exact rfl) EvL.nil))) | exact (EvL.cons (by first | exact (rfl : _ = Value.int _ _) | exact (rfl : _ = Value.bool _) | exact (rfl : _ = Value.string _) | exact (rfl : _ = Value.slice _ _ _) | exact (rfl : _ = Value.pointer _) | exact (rfl : _ = Value.agg _) | exact (rfl : _ = Value.map _) | exact (rfl : _ = Value.tuple _) | exact (rfl : _ = Value.func _ _ _) | exact (rfl : _ = gv _ _) | exact rfl) (EvL.cons (by first | exact (rfl : _ = Value.int _ _) | exact (rfl : _ = Value.bool _) | exact (rfl : _ = Value.string _) | exact (rfl : _ = Value.slice _ _ _) | exact (rfl : _ = Value.pointer _) | exact (rfl : _ = Value.agg _) | exact (rfl : _ = Value.map _) | exact (rfl : _ = Value.tuple _) | exact (rfl : _ = Value.func _ _ _) | exact (rfl : _ = gv _ _) | exact rfl) (EvL.cons (by first | exact (rfl : _ = Value.int _ _) | exact (rfl : _ = Value.bool _) | exact (rfl : _ = Value.string _) | exact (rfl : _ = Value.slice _ _ _) | exact (rfl : _ = Value.pointer _) | exact (rfl : _ = Value.agg _) | exact (rfl : _ = Value.map _) | exact (rfl : _ = Value.tuple _) | exact (rfl : _ = Value.func _ _ _) | exact (rfl : _ = gv _ _) | exact rfl) (EvL.cons (by first | exact (rfl : _ = Value.int _ _) | exact (rfl : _ = Value.bool _) | exact (rfl : _ = Value.string _) | exact (rfl : _ = Value.slice _ _ _) | exact (rfl : _ = Value.pointer _) | exact (rfl : _ = Value.agg _) | exact (rfl : _ = Value.map _) | exact (rfl : _ = Value.tuple _) | exact (rfl : _ = Value.func _ _ _) | exact (rfl : _ = gv _ _) | exact rfl) EvL.nil)))) | exact (EvL.cons (by first | exact (rfl : _ = Value.int _ _) | exact (rfl : _ = Value.bool _) | exact (rfl : _ = Value.string _) | exact (rfl : _ = Value.slice _ _ _) | exact (rfl : _ = Value.pointer _) | exact (rfl : _ = Value.agg _) | exact (rfl : _ = Value.map _) | exact (rfl : _ = Value.tuple _) | exact (rfl : _ = Value.func _ _ _) | exact (rfl : _ = gv _ _) | exact rfl) (EvL.cons (by first | exact (rfl : _ = Value.int _ _) | exact (rfl : _ = Value.bool _) | exact (rfl : _ = Value.string _) | exact (rfl : _ = Value.slice _ _ _) | exact (rfl : _ = Value.pointer _) | exact (rfl : _ = Value.agg _) | exact (rfl : _ = Value.map _) | exact (rfl : _ = Value.tuple _) | exact (rfl : _ = Value.func _ _ _) | exact (rfl : _ = gv _ _) | exact rfl) (EvL.cons (by first | exact (rfl : _ = Value.int _ _) | exact (rfl : _ = Value.bool _) | exact (rfl : _ = Value.string _) | exact (rfl : _ = Value.slice _ _ _) | exact (rfl : _ = Value.pointer _) | exact (rfl : _ = Value.agg _) | exact (rfl : _ = Value.map _) | exact (rfl : _ = Value.tuple _) | exact (rfl : _ = Value.func _ _ _) | exact (rfl : _ = gv _ _) | exact rfl) (EvL.cons (by first | exact (rfl : _ = Value.int _ _) | exact (rfl : _ = Value.bool _) | exact (rfl : _ = Value.string _) | exact (rfl : _ = Value.slice _ _ _) | exact (rfl : _ = Value.pointer _) | exact (rfl : _ = Value.agg _) | exact (rfl : _ = Value.map _) | exact (rfl : _ = Value.tuple _) | exact (rfl : _ = Value.func _ _ _) | exact (rfl : _ = gv _ _) | exact rfl) (EvL.cons (by first | exact (rfl : _ = Value.int _ _) | exact (rfl : _ = Value.bool _) | exact (rfl : _ = Value.string _) | exact (rfl : _ = Value.slice _ _ _) | exact (rfl : _ = Value.pointer _) | exact (rfl : _ = Value.agg _) | exact (rfl : _ = Value.map _) | exact (rfl : _ = Value.tuple _) | exact (rfl : _ = Value.func _ _ _) | exact (rfl : _ = gv _ _) | exact rfl) EvL.nil))))) | exact (EvL.cons (by first | exact (rfl : _ = Value.int _ _) | exact (rfl : _ = Value.bool _) | exact (rfl : _ = Value.string _) | exact (rfl : _ = Value.slice _ _ _) | exact (rfl : _ = Value.pointer _) | exact (rfl : _ = Value.agg _) | exact (rfl : _ = Value.map _) | exact (rfl : _ = Value.tuple _) | exact (rfl : _ = Value.func _ _ _) | exact (rfl : _ = gv _ _) | exact rfl) (EvL.cons (by first | exact (rfl : _ = Value.int _ _) | exact (rfl : _ = Value.bool _) | exact (rfl : _ = Value.string _) | exact (rfl : _ = Value.slice _ _ _) | exact (rfl : _ = Value.pointer _) | exact (rfl : _ = Value.agg _) | exact (rfl : _ = Value.map _) | exact (rfl : _ = Value.tuple _) | exact (rfl : _ = Value.func _ _ _) | exact (rfl : _ = gv _ _) | exact rfl) (EvL.cons (by first | exact (rfl : _ = Value.int _ _) | exact (rfl : _ = Value.bool _) | exact (rfl : _ = Value.string _) | exact (rfl : _ = Value.slice _ _ _) | exact (rfl : _ = Value.pointer _) | exact (rfl : _ = Value.agg _) | exact (rfl : _ = Value.map _) | exact (rfl : _ = Value.tuple _) | exact (rfl : _ = Value.func _ _ _) | exact (rfl : _ = gv _ _) | exact rfl) (EvL.cons (by first | exact (rfl : _ = Value.int _ _) | exact (rfl : _ = Value.bool _) | exact (rfl : _ = Value.string _) | exact (rfl : _ = Value.slice _ _ _) | exact (rfl : _ = Value.pointer _) | exact (rfl : _ = Value.agg _) | exact (rfl : _ = Value.map _) | exact (rfl : _ = Value.tuple _) | exact (rfl : _ = Value.func _ _ _) | exact (rfl : _ = gv _ _) | exact rfl) (EvL.cons (by first | exact (rfl : _ = Value.int _ _) | exact (rfl : _ = Value.bool _) | exact (rfl : _ = Value.string _) | exact (rfl : _ = Value.slice _ _ _) | exact (rfl : _ = Value.pointer _) | exact (rfl : _ = Value.agg _) | exact (rfl : _ = Value.map _) | exact (rfl : _ = Value.tuple _) | exact (rfl : _ = Value.func _ _ _) | exact (rfl : _ = gv _ _) | exact rfl) (EvL.cons (by first | exact (rfl : _ = Value.int _ _) | exact (rfl : _ = Value.bool _) | exact (rfl : _ = Value.string _) | exact (rfl : _ = Value.slice _ _ _) | exact (rfl : _ = Value.pointer _) | exact (rfl : _ = Value.agg _) | exact (rfl : _ = Value.map _) | exact (rfl : _ = Value.tuple _) | exact (rfl : _ = Value.func _ _ _) | exact (rfl : _ = gv _ _) | exact rfl) EvL.nil))))))))) (hM : M 0 = exC φ R := by first | exact setC_self | exact rfl) (hw0 : wr.getD i [] = [0] := by exact rfl) :
    MSw (mV P n ops Γ K wr wr [N]) Q i (⟨d, .call { callee := .value (.func f), args := args.toArray, argTypes := tys }, ty, pos, es, none⟩ :: rest) ⟨ρ, M⟩ :=
  mStepX φ' R' (fun t g w Y ht hw => s_call (ha t g ht).eqA (hs t g w Y ht hw)) h hM hw0 rfl

theorem mEndX {φ : T → Fr → Prop} {R : T → List Res} (h : ∀ t w g, φ t (ovr N g noFr) → Wd Γ (R t ++ K) w → Q (ovr N g ρ) w) (hM : M 0 = exC φ R := by first | exact setC_self | exact rfl) : MSw (mV P n ops Γ K wr tc [N]) Q i [] ⟨ρ, M⟩ :=
  mEnd fun w g hw => by
    have e : ((List.range [N].length).flatMap fun x => M x (ovr ([N].getD x []) g noFr)) = exC φ R (ovr N g noFr) := by
      show M 0 _ ++ [] = _
      rw [List.append_nil, hM]; rfl
    rw [e] at hw
    have e0 : ([N].flatten : List Nat) = N := by simp
    rw [e0]
    obtain ⟨⟨t, ht⟩, hw1⟩ := (Wd.mid (Y := []) hw).openEx
    exact h t w g ht (by simpa using hw1)
end
end Mk
