/- The walker's ground: Go code walked over frames that are functions from slots to values; rules for the code's shapes. -/
import Derived.WalkKit
import Derived.Still
import Derived.Deep.LoopGhost
import Derived.KernelRfl
open Go
namespace Mk

abbrev Fr := Nat → Value

def upd (ρ : Fr) (d : Nat) (v : Value) : Fr := fun t => bif Nat.beq t d then v else ρ t

/-- What an operand is worth in a frame. -/
def ev (ρ : Fr) : Operand → Value
  | .tmp t => ρ t
  | .const v => v
  | .global g => .pointer (some ⟨g, 0, none⟩)
  | .func f => .func (.func f) #[] #[]

def fnOf (a : Act) : Fr := fun t => a.tmps.getD t undef

theorem eval_fnOf (a : Act) : a.eval = ev (fnOf a) := by
  funext x; cases x <;> rfl

theorem upd_same (ρ : Fr) (d : Nat) (v : Value) : upd ρ d v d = v := by simp [upd]
theorem upd_ne (ρ : Fr) {d t : Nat} (v : Value) (h : t ≠ d) : upd ρ d v t = ρ t := by
  unfold upd
  have : Nat.beq t d = false := by
    cases hb : Nat.beq t d with
    | false => rfl
    | true => exact absurd (Nat.eq_of_beq_eq_true hb) h
  rw [this]; rfl

theorem fnOf_put (a : Act) (d : Nat) (v : Value) (h : d < a.tmps.size) : fnOf (a.put (some d) v) = upd (fnOf a) d v := by
  funext t
  unfold fnOf Act.put
  by_cases ht : t = d
  · subst ht; rw [upd_same]; simp [h]
  · rw [upd_ne _ _ ht]
    simp only [Array.getD_eq_getD_getElem?]
    rw [Array.getElem?_setIfInBounds_ne (by omega)]

theorem size_put (a : Act) (d : Option Tmp) (v : Value) : (a.put d v).tmps.size = a.tmps.size := by
  cases d <;> simp [Act.put]

theorem defers_put (a : Act) (d : Option Tmp) (v : Value) : (a.put d v).defers = a.defers := by
  cases d <;> rfl

/-- A post over frames, seen over the model's own. -/
def lift (n : Nat) (Q : Exit → Fr → World → Prop) : Exit → Act → World → Prop := fun e a w => a.defers = [] ∧ a.tmps.size = n ∧ Q e (fnOf a) w

def W (P : Program) (n : Nat) (c : Code) (Q : Exit → Fr → World → Prop) (ρ : Fr) (w : World) : Prop :=
  ∀ a : Act, a.defers = [] → a.tmps.size = n → fnOf a = ρ → c.wp P (lift n Q) a w

def Then (K : Fr → World → Prop) (Q : Exit → Fr → World → Prop) : Exit → Fr → World → Prop
  | .normal, ρ, w => K ρ w
  | e, ρ, w => Q e ρ w

def InBl (id : Nat) (Q : Exit → Fr → World → Prop) : Exit → Fr → World → Prop
  | .exit i, ρ, w => if i = id then Q .normal ρ w else Q (.exit i) ρ w
  | e, ρ, w => Q e ρ w

section
variable {P : Program} {n : Nat} {Q : Exit → Fr → World → Prop} {ρ : Fr} {w : World}

theorem W.mono {c : Code} {Q' : Exit → Fr → World → Prop} (h : W P n c Q ρ w) (hq : ∀ e ρ w, Q e ρ w → Q' e ρ w) : W P n c Q' ρ w :=
  fun a hd hs hf => Code.wp_mono (fun e a w ⟨x, y, z⟩ => ⟨x, y, hq _ _ _ z⟩) (h a hd hs hf)

theorem W_skip (h : Q .normal ρ w) : W P n .skip Q ρ w := fun a hd hs hf => wp_skip ⟨hd, hs, hf ▸ h⟩
theorem W_exit {id : Nat} (h : Q (.exit id) ρ w) : W P n (.exit id) Q ρ w := fun a hd hs hf => wp_exit ⟨hd, hs, hf ▸ h⟩
theorem W_ret (h : Q .ret ρ w) : W P n .ret Q ρ w := fun a hd hs hf => wp_ret ⟨hd, hs, hf ▸ h⟩
theorem W_seq {x y : Code} (h : W P n x (Then (W P n y Q) Q) ρ w) : W P n (.seq x y) Q ρ w := fun a hd hs hf =>
  wp_seq (Code.wp_mono (fun e a w ⟨p, q, r⟩ => by cases e <;> first | exact r a p q rfl | exact ⟨p, q, r⟩) (h a hd hs hf))
theorem W_cond {c : Operand} {x y : Code} {b : Bool} (hc : ev ρ c = .bool b) (ht : b = true → W P n x Q ρ w) (hf : b = false → W P n y Q ρ w) :
    W P n (.cond c x y) Q ρ w := fun a hd hs he =>
  wp_cond_split (t := b) (by rw [eval_fnOf, he]; exact hc) (fun h => ht h a hd hs he) (fun h => hf h a hd hs he)
theorem W_cond_true {c : Operand} {x y : Code} (hc : ev ρ c = .bool true) (ht : W P n x Q ρ w) : W P n (.cond c x y) Q ρ w :=
  W_cond hc (fun _ => ht) (fun h => by cases h)
theorem W_cond_false {c : Operand} {x y : Code} (hc : ev ρ c = .bool false) (ht : W P n y Q ρ w) : W P n (.cond c x y) Q ρ w :=
  W_cond hc (fun h => by cases h) (fun _ => ht)
theorem W_block {id : Nat} {c : Code} (h : W P n c (InBl id Q) ρ w) : W P n (.block id c) Q ρ w := fun a hd hs hf =>
  wp_block (Code.wp_mono (fun e a w ⟨p, q, r⟩ => by
    cases e <;> first | exact ⟨p, q, r⟩ | (simp only [InBl] at r; simp only [Exit.inBlock]; split <;> rename_i h <;> simp only [h, if_true, if_false] at r <;> exact ⟨p, q, r⟩)) (h a hd hs hf))
theorem W_scope {c : Code} (h : W P n c (fun e ρ w => (∀ l, e ≠ .goto l) ∧ Q e ρ w) ρ w) (hsc : ∀ a, c.wp P (fun e a w => (∀ l, e ≠ .goto l) ∧ lift n Q e a w) a w → (Code.scope c).wp P (lift n Q) a w) : W P n (.scope c) Q ρ w := fun a hd hs hf =>
  hsc a (Code.wp_mono (fun e a w ⟨p, q, r1, r2⟩ => ⟨r1, p, q, r2⟩) (h a hd hs hf))
theorem W_loop {c : Code} (I : Nat → Fr → World → Prop) (m₀ : Nat) (h0 : I m₀ ρ w)
    (round : ∀ m ρ w, I m ρ w → W P n c (Then (fun ρ' w' => ∃ m' < m, I m' ρ' w') Q) ρ w) : W P n (.loop c) Q ρ w := fun a hd hs hf =>
  wp_loop_ghost (fun m a w => a.defers = [] ∧ a.tmps.size = n ∧ I m (fnOf a) w) m₀ ⟨hd, hs, hf ▸ h0⟩ fun m a w ⟨p, q, r⟩ =>
    Code.wp_mono (fun e a w ⟨p, q, r⟩ => by
      cases e <;> first | exact ⟨p, q, r⟩ | (obtain ⟨m', h1, h2⟩ := r; exact ⟨m', h1, p, q, h2⟩)) (round m _ w r a p q rfl)

/-! ### lists of operations -/
def L (P : Program) (n : Nat) (ops : Array Oper) (Q : Exit → Fr → World → Prop) (l : List Oper) (ρ : Fr) (w : World) : Prop :=
  ∀ a : Act, a.defers = [] → a.tmps.size = n → fnOf a = ρ → wpList P ops (lift n Q) l a w

theorem W_region {id : Nat} {l : List Oper} (h : L P n l.toArray Q l ρ w) : W P n (.region id l.toArray false) Q ρ w :=
  fun a hd hs hf => wp_region_lit (h a hd hs hf)
theorem L_nil {ops : Array Oper} (h : Q .normal ρ w) : L P n ops Q [] ρ w := fun a hd hs hf => ⟨hd, hs, hf ▸ h⟩

/-- One operation, in the frame ρ. -/
def Step (P : Program) (o : Oper) (ρ : Fr) (w : World) (K : Value → World → Prop) : Prop :=
  match (execOp (ev ρ) o).run P w with
  | .ok (.value v) w' => K v w'
  | .ok .skip w' => K undef w'
  | .ok (.enter f args) w' => Calls P f args w' fun e w'' => ∃ v, e = .returned v ∧ K v w''
  | .ok (.row row args) w' => Rows P row args w' K
  | _ => False

theorem Step.mono {o : Oper} {K K' : Value → World → Prop} (h : Step P o ρ w K) (hk : ∀ v w, K v w → K' v w) : Step P o ρ w K' := by
  unfold Step at *
  split at h <;> first | exact hk _ _ h | exact h.mono fun e w'' ⟨v, he, hv⟩ => ⟨v, he, hk _ _ hv⟩ | exact h.mono hk | exact h.elim

theorem Step.wp {o : Oper} {a : Act} {K : Value → World → Prop} {K' : Act → World → Prop} {Q' : Exit → Act → World → Prop} (h : Step P o (fnOf a) w K)
    (hk : ∀ v w, K v w → K' (a.put o.dst v) w) : o.wp P a w K' Q' := by
  unfold Step at h
  unfold Oper.wp
  rw [eval_fnOf]
  generalize (execOp (ev (fnOf a)) o).run P w = r at *
  cases r with
  | ok x w' =>
    cases x <;> simp only [Oper.upon] at h ⊢ <;> first
      | exact hk _ _ h
      | exact Calls.mono h (fun e w'' he => by obtain ⟨v, rfl, hv⟩ := he; exact hk _ _ hv)
      | exact Rows.mono h hk
      | exact h.elim
  | halt x w' => exact h.elim

/-- The frame behind an operation. -/
def putO (ρ : Fr) (d : Option Tmp) (v : Value) : Fr := match d with | some d => upd ρ d v | none => ρ

theorem fnOf_putO (a : Act) (d : Option Tmp) (v : Value) (h : ∀ t, d = some t → t < a.tmps.size) : fnOf (a.put d v) = putO (fnOf a) d v := by
  cases d with
  | none => rfl
  | some d => exact fnOf_put a d v (h d rfl)

def okDst (n : Nat) (d : Option Tmp) : Bool := match d with | some d => Nat.ble (d + 1) n | none => true
theorem okDst_spec {n : Nat} {d : Option Tmp} (h : okDst n d = true) : ∀ t, d = some t → t < n := by
  intro t ht; subst ht; exact Nat.le_of_ble_eq_true h

theorem L_step {ops : Array Oper} {o : Oper} {rest : List Oper} (hg : o.guard = none) (hd : okDst n o.dst = true) (h : Step P o ρ w fun v w' => L P n ops Q rest (putO ρ o.dst v) w') :
    L P n ops Q (o :: rest) ρ w := fun a hda hs hf =>
  wpList_plain hg fun K hK => by
    subst hf
    refine Step.wp h fun v w' hv => hK _ _ (hv _ ?_ ?_ ?_)
    · rw [defers_put]; exact hda
    · rw [size_put]; exact hs
    · exact fnOf_putO a _ v (by rw [hs]; exact okDst_spec hd)

/-! ### guards -/
/-- A value that is there if c holds. -/
def gv (c : Bool) (v : Value) : Value := bif c then v else undef
def saysB (v : Value) : Option Bool := match v with | .bool b => some b | _ => none
def GuardIs (v : Value) (want c : Bool) : Prop := (saysB v == some want) = c
theorem GuardIs.t {b : Bool} : GuardIs (.bool b) true b := by cases b <;> rfl
theorem GuardIs.f {b : Bool} : GuardIs (.bool b) false (!b) := by cases b <;> rfl
theorem GuardIs.gt {b c : Bool} : GuardIs (gv c (.bool b)) true (c && b) := by cases b <;> cases c <;> rfl
theorem GuardIs.gf {b c : Bool} : GuardIs (gv c (.bool b)) false (c && !b) := by cases b <;> cases c <;> rfl

theorem wanted_fn (o : Oper) (ops : Array Oper) (a : Act) (j : Nat) (want : Bool) (hg : o.guard = some (j, want)) (dj : Nat) (hj : (ops[j]?).bind (·.dst) = some dj) (hlt : dj < a.tmps.size) :
    Region.wanted o (yielded ops a.tmps) = (saysB (fnOf a dj) == some want) := by
  unfold Region.wanted
  simp only [hg]
  unfold yielded
  rw [hj]
  simp only [Option.bind_some, fnOf, Array.getD_eq_getD_getElem?]
  rw [Array.getElem?_eq_getElem hlt]
  simp only [Option.getD_some]
  unfold saysB
  cases a.tmps[dj] <;> rfl

/-- An operation under a guard that is not known: both ways go on in one frame. -/
theorem L_guard {ops : Array Oper} {o : Oper} {rest : List Oper} {j dj : Nat} {want c : Bool} {v : Value} (hg : o.guard = some (j, want)) (hj : (ops[j]?).bind (·.dst) = some dj) (hjn : okDst n (some dj) = true)
    (hc : GuardIs (ρ dj) want c) (hd : okDst n o.dst = true) (hv : c = true → Step P o ρ w fun u w' => u = v ∧ w' = w) (h : L P n ops Q rest (putO ρ o.dst (gv c v)) w) :
    L P n ops Q (o :: rest) ρ w := fun a hda hs hf =>
  wpList_step fun K hK => by
    subst hf
    have hw := wanted_fn o ops a j want hg dj hj (by rw [hs]; exact okDst_spec hjn _ rfl)
    rw [hw, show (saysB (fnOf a dj) == some want) = c from hc]
    have fin : ∀ u, u = gv c v → K (a.put o.dst u) w := fun u hu => hK _ _ (by
      subst hu
      exact h _ (by rw [defers_put]; exact hda) (by rw [size_put]; exact hs) (fnOf_putO a _ _ (by rw [hs]; exact okDst_spec hd)))
    cases c with
    | true => exact Step.wp (hv rfl) fun u w' ⟨hu, hw'⟩ => by subst hw'; subst hu; exact fin _ rfl
    | false => exact fin _ rfl
end

/-! ### calls -/
def resVal (rs : Array ResultVar) (ρ : Fr) : Option Value :=
  match rs.toList with
  | [] => some (.tuple #[])
  | [.tmp t] => some (ρ t)
  | [.tmp t, .tmp u] => some (.tuple #[ρ t, ρ u])
  | [.tmp t, .tmp u, .tmp x] => some (.tuple #[ρ t, ρ u, ρ x])
  | _ => none

def Post (rs : Array ResultVar) (R : Ending → World → Prop) : Exit → Fr → World → Prop
  | .normal, ρ, w | .ret, ρ, w => ∃ v, resVal rs ρ = some v ∧ R (.returned v) w
  | .panic ch, _, w => R (.panicked ch) w
  | .outgrown, _, w => R .outgrown w
  | _, _, _ => False

theorem results_resVal {P : Program} {fn : Func} {a : Act} {w : World} {v : Value} (h : resVal fn.results (fnOf a) = some v) : (results fn a.tmps).run P w = .ok v w := by
  obtain ⟨l, hl⟩ : ∃ l : List ResultVar, fn.results = l.toArray := ⟨fn.results.toList, by simp⟩
  rw [hl] at h
  unfold resVal at h
  rcases l with _ | ⟨x1, _ | ⟨x2, _ | ⟨x3, _ | ⟨x4, l⟩⟩⟩⟩
  · simp only [Option.some.injEq] at h; subst h; simp [results, hl]
  · cases x1 <;> simp at h; subst h; exact results_tmp (by simpa using hl) _ _ _
  · cases x1 <;> cases x2 <;> simp at h; subst h; exact results_tmp2 (by simpa using hl) _ _ _
  · cases x1 <;> cases x2 <;> cases x3 <;> simp at h; subst h; simp [results, hl, fnOf]
  · cases x1 <;> cases x2 <;> cases x3 <;> simp at h

def entryFr (args : Array Value) : Fr := fun t => args.getD t undef

theorem calls_of_W {P : Program} {f : FuncId} {fn : Func} {c : Code} {args : Array Value} {w : World} {R : Ending → World → Prop} (hf : P.funcs[f]? = some fn) (hb : fn.body = some c)
    (hn : Nat.ble args.size fn.ntmps = true) (h : W P fn.ntmps c (Post fn.results R) (entryFr args) w) : Calls P f args w R := by
  have hle : args.size ≤ fn.ntmps := Nat.le_of_ble_eq_true hn
  refine calls_of_wp hf hb (Code.wp_mono ?_ (h _ rfl (by simp; omega) ?_))
  · rintro e a w ⟨hd, hs, hq⟩
    cases e with
    | normal => obtain ⟨v, hv, hR⟩ := hq; exact ⟨hd, v, results_resVal hv, hR⟩
    | ret => obtain ⟨v, hv, hR⟩ := hq; exact ⟨hd, v, results_resVal hv, hR⟩
    | panic ch => exact ⟨hd, hq⟩
    | outgrown => exact hq
    | exit id => exact hq.elim
    | goto l => exact hq.elim
  · funext t
    simp only [fnOf, entryFr, Array.getD_eq_getD_getElem?, Array.getElem?_append]
    by_cases ht : t < args.size
    · rw [if_pos ht]
    · rw [if_neg ht, Array.getElem?_eq_none (by omega : args.size ≤ t)]
      simp only [Array.getElem?_replicate]
      split <;> rfl
attribute [irreducible] W L Step GuardIs gv
end Mk
namespace Mk
/-- What a frame holds at the slots that matter. -/
def FL : List (Nat × Value) → Fr → Fr
  | [], ρ => ρ
  | (d, v) :: l, ρ => upd (FL l ρ) d v
def Has (ρ : Fr) : List (Nat × Value) → Prop
  | [] => True
  | (d, v) :: l => ρ d = v ∧ Has ρ l
theorem Has.eq {ρ : Fr} : ∀ {l : List (Nat × Value)}, Has ρ l → ρ = FL l ρ
  | [], _ => rfl
  | (d, v) :: l, h => by
    have ih := Has.eq h.2
    funext t
    unfold FL
    by_cases ht : t = d
    · subst ht; rw [upd_same]; exact h.1
    · rw [upd_ne _ _ ht, ← ih]
end Mk
