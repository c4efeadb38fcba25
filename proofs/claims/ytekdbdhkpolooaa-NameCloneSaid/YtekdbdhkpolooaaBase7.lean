/- A region that draws its order: each operation is shown once, in the order of the text, from any world in which it may come up. -/
import Derived.Test.YtekdbdhkpolooaaBase6
open Go
namespace Mk

structure Ctr where
  e : Value → Gho → Prop
  r : Value → List Res
  m : Option (List Res)
  x : Option Value
  p : Bool

structure St where
  ρ : Fr
  E : List (Nat × (Value → Gho → Prop))
  M : List Res
  R : List (Nat × (Value → List Res))

def dropE (E : List (Nat × (Value → Gho → Prop))) (d : Option Tmp) : List (Nat × (Value → Gho → Prop)) := match d with
  | some d => E.filter fun p => !(Nat.beq p.1 d)
  | none => E

def St.next (st : St) (o : Oper) (c : Ctr) : St :=
  { ρ := match c.x with | some v => putO st.ρ o.dst v | none => st.ρ
    E := match c.x, o.dst with
      | some _, d => dropE st.E d
      | none, some d => (d, c.e) :: dropE st.E (some d)
      | none, none => st.E
    M := match c.m with | some M => M | none => st.M
    R := match c.p, o.dst with | true, some d => (d, c.r) :: st.R | _, _ => st.R }

def sat (st : St) (ρ : Fr) (Γ : Gho) (t : Nat) : Prop := match st.E.find? (fun p => Nat.beq p.1 t) with
  | some p => p.2 (ρ t) Γ
  | none => ρ t = st.ρ t

def looks (ops : List Oper) (o : Oper) : List Nat := o.looksAt ops.toArray

def wantF (ops : List Oper) (o : Oper) (ρ : Fr) : Bool := match o.guard with
  | none => true
  | some (j, want) => match (ops[j]?).bind (·.dst) with
    | some d => saysB (ρ d) == some want
    | none => false

structure Env where
  P : Program
  n : Nat
  ops : List Oper
  Γ : Gho
  K : List Res
  muts : List Nat
  prods : List Nat
  fixed : Bool

def Env.rl (V : Env) (Γ Γ' : Gho) : Prop := match V.fixed with | true => Γ' = Γ | false => Γ.le Γ'
theorem Env.rl.refl (V : Env) (Γ : Gho) : V.rl Γ Γ := by unfold Env.rl; cases V.fixed <;> first | rfl | exact Gho.le.refl _
theorem Env.rl.trans {V : Env} {a b c : Gho} (h : V.rl a b) (k : V.rl b c) : V.rl a c := by
  unfold Env.rl at *; cases hf : V.fixed <;> simp only [hf] at * <;> first | exact k.trans h | exact Gho.le.trans h k
theorem Env.rl.le {V : Env} {a b : Gho} (h : V.rl a b) : a.le b := by
  unfold Env.rl at *; cases hf : V.fixed <;> simp only [hf] at * <;> first | exact h | (subst h; exact Gho.le.refl _)

structure Good (V : Env) (i : Nat) (o : Oper) (st : St) (c : Ctr) : Prop where
  mono : ∀ v Γ' Γ'', Gho.le Γ' Γ'' → c.e v Γ' → c.e v Γ''
  det : ∀ v X Γ', c.x = some X → c.e v Γ' → v = X
  pr : c.p = true → V.prods.contains i = true ∧ o.dst.isSome = true
  np : c.p = false → ∀ v, c.r v = []
  mt : c.m.isSome = true → V.muts.contains i = true
  run : ∀ Γ' Y w ρ, V.rl V.Γ Γ' → Wd Γ' (V.K ++ ((match c.m with | some _ => st.M | none => []) ++ Y)) w → (∀ t ∈ looks V.ops o, sat st ρ Γ' t) →
    (wantF V.ops o ρ = true → Step V.P o ρ w fun v w' => ∃ Γ'', V.rl Γ' Γ'' ∧ Wd Γ'' (V.K ++ ((match c.m with | some M => M | none => []) ++ (c.r v ++ Y))) w' ∧ c.e v Γ'') ∧
    (wantF V.ops o ρ = false → c.e undef Γ' ∧ c.r undef = [] ∧ c.m = none)

def prodL (R : List (Nat × (Value → List Res))) (ρ : Fr) : List Res := R.flatMap fun p => p.2 (ρ p.1)

def FinalOK (V : Env) (Q : Fr → World → Prop) (st : St) : Prop :=
  ∀ Γ' w ρ, V.rl V.Γ Γ' → (∀ t, sat st ρ Γ' t) → Wd Γ' (V.K ++ (st.M ++ prodL st.R ρ)) w → Q ρ w

def Sw (V : Env) (Q : Fr → World → Prop) : Nat → List Oper → St → Prop
  | _, [], st => FinalOK V Q st
  | i, o :: l, st => ∃ c, Good V i o st c ∧ Sw V Q (i + 1) l (st.next o c)

/-! ### the check on the region's text -/
def ancOf (done : List (List Nat)) (o : Oper) : List Nat :=
  o.after.toList.flatMap fun e => if Region.binds .any e then e.on :: (done.getD e.on []) else []
def ancs : List (List Nat) → List Oper → List (List Nat)
  | done, [] => done
  | done, o :: l => ancs (done ++ [ancOf done o]) l
/-- may the two be carried out in either order? -/
def apartR (ops : List Oper) (x y : Oper) : Bool :=
  (match x.dst with | some d => !(looks ops y).contains d && !(y.dst == some d) | none => true) &&
  (match y.dst with | some d => !(looks ops x).contains d | none => true)
def checkR (ops : List Oper) (muts prods : List Nat) : Bool :=
  let A := ancs [] ops
  (List.range ops.length).all fun j => match ops[j]? with
    | none => true
    | some oj => (oj.after.toList.all fun e => !Region.binds .any e || Nat.blt e.on j) && okNoSel oj && (match oj.guard with | some (g, _) => ((ops[g]?).bind (·.dst)).isSome | none => true) &&
      ((List.range j).all fun i => match ops[i]? with
        | none => true
        | some oi => ((apartR ops oi oj && !(muts.contains i && muts.contains j)) || (A.getD j []).contains i) && (oi.dst.isNone || !(oi.dst == oj.dst) || !prods.contains i))
where okNoSel (o : Oper) : Bool := match o.op with | .select _ _ => false | _ => true

/-! ### why it serves every order -/
def Chain (V : Env) (Q : Fr → World → Prop) : Nat → List Oper → List Ctr → St → Prop
  | _, [], [], st => FinalOK V Q st
  | i, o :: l, c :: cs, st => Good V i o st c ∧ Chain V Q (i + 1) l cs (st.next o c)
  | _, _, _, _ => False

theorem Sw.chain {V : Env} {Q : Fr → World → Prop} : ∀ (l : List Oper) (i : Nat) (st : St), Sw V Q i l st → ∃ cs, Chain V Q i l cs st
  | [], _, _, h => ⟨[], h⟩
  | _ :: l, i, st, ⟨c, hg, h⟩ => by
    obtain ⟨cs, hc⟩ := Sw.chain l (i + 1) _ h
    exact ⟨c :: cs, hg, hc⟩

def stL : List Oper → List Ctr → St → Nat → St
  | o :: l, c :: cs, st, k + 1 => stL l cs (st.next o c) k
  | _, _, st, _ => st

section
variable {V : Env} {Q : Fr → World → Prop}

theorem Chain.length : ∀ {l : List Oper} {i : Nat} {cs : List Ctr} {st : St}, Chain V Q i l cs st → cs.length = l.length
  | [], _, [], _, _ => rfl
  | _ :: l, _, _ :: cs, _, h => by simp [Chain.length h.2]
  | [], _, _ :: _, _, h => h.elim
  | _ :: _, _, [], _, h => h.elim

theorem Chain.good : ∀ {l : List Oper} {i : Nat} {cs : List Ctr} {st : St} (k : Nat) {o : Oper}, Chain V Q i l cs st → l[k]? = some o → ∃ c, cs[k]? = some c ∧ Good V (i + k) o (stL l cs st k) c
  | o' :: l, i, c :: cs, st, 0, o, h, ho => by
    simp at ho; subst ho
    exact ⟨c, rfl, h.1⟩
  | o' :: l, i, c :: cs, st, k + 1, o, h, ho => by
    obtain ⟨c', h1, h2⟩ := Chain.good k h.2 (by simpa using ho)
    refine ⟨c', by simpa using h1, ?_⟩
    rw [show i + (k + 1) = i + 1 + k from by omega]
    exact h2
  | [], _, _, _, _, _, _, ho => by simp at ho
  | _ :: _, _, [], _, _, _, h, _ => h.elim

theorem Chain.final : ∀ {l : List Oper} {i : Nat} {cs : List Ctr} {st : St}, Chain V Q i l cs st → FinalOK V Q (stL l cs st l.length)
  | [], _, [], _, h => h
  | o :: l, i, c :: cs, st, h => by
    have := Chain.final (l := l) (cs := cs) h.2
    simpa [stL] using this
  | [], _, _ :: _, _, h => h.elim
  | _ :: _, _, [], _, h => h.elim

theorem stL_succ : ∀ {l : List Oper} {cs : List Ctr} {st : St} {k : Nat} {o : Oper} {c : Ctr}, l[k]? = some o → cs[k]? = some c → stL l cs st (k + 1) = (stL l cs st k).next o c
  | o' :: l, c' :: cs, st, 0, o, c, ho, hc => by
    simp at ho hc; subst ho; subst hc
    cases l <;> cases cs <;> rfl
  | o' :: l, c' :: cs, st, k + 1, o, c, ho, hc => stL_succ (l := l) (cs := cs) (by simpa using ho) (by simpa using hc)
  | [], _, _, _, _, _, ho, _ => by simp at ho
  | _ :: _, [], _, _, _, _, _, hc => by simp at hc

theorem beq_nat {a b : Nat} : Nat.beq a b = true ↔ a = b := ⟨Nat.eq_of_beq_eq_true, fun h => by subst h; simp⟩

theorem find_dropE {E : List (Nat × (Value → Gho → Prop))} {d t : Nat} (h : t ≠ d) : (dropE E (some d)).find? (fun p => Nat.beq p.1 t) = E.find? (fun p => Nat.beq p.1 t) := by
  simp only [dropE]
  induction E with
  | nil => rfl
  | cons p E ih =>
    by_cases hp : Nat.beq p.1 d = true
    · have h1 : Nat.beq p.1 t = false := by
        cases hb : Nat.beq p.1 t with
        | false => rfl
        | true => exact absurd ((beq_nat.1 hb).symm.trans (beq_nat.1 hp)) h
      simp [List.filter_cons, hp, List.find?_cons, h1]
      simpa using ih
    · simp only [List.filter_cons, hp, Bool.not_false, if_true, List.find?_cons]
      cases Nat.beq p.1 t with
      | true => simp
      | false => simpa using ih
theorem find_dropE_same {E : List (Nat × (Value → Gho → Prop))} {d : Nat} : (dropE E (some d)).find? (fun p => Nat.beq p.1 d) = none := by
  simp only [dropE]
  rw [List.find?_eq_none]
  intro p hp hb
  have := (List.mem_filter.1 hp).2
  rw [hb] at this; cases this

theorem sat_ne {st : St} {o : Oper} {c : Ctr} {ρ : Fr} {Γ : Gho} {t : Nat} (h : o.dst ≠ some t) (hs : sat st ρ Γ t) : sat (st.next o c) ρ Γ t := by
  unfold sat at *
  cases hd : o.dst with
  | none =>
    cases hx : c.x <;> simpa [St.next, hd, hx, dropE, putO] using hs
  | some d =>
    have hne : t ≠ d := fun e => h (by rw [hd, e])
    have hb : Nat.beq d t = false := by
      cases hb : Nat.beq d t with
      | false => rfl
      | true => exact absurd (beq_nat.1 hb).symm hne
    cases hx : c.x with
    | none =>
      simp only [St.next, hd, hx, List.find?_cons, hb]
      rw [find_dropE hne]; exact hs
    | some X =>
      simp only [St.next, hd, hx]
      rw [find_dropE hne]
      have : putO st.ρ (some d) X t = st.ρ t := upd_ne _ _ hne
      rw [this]; exact hs

theorem sat_eq {i : Nat} {st : St} {o : Oper} {c : Ctr} {ρ : Fr} {Γ : Gho} {t : Nat} (hg : Good V i o st c) (h : o.dst = some t) (he : c.e (ρ t) Γ) : sat (st.next o c) ρ Γ t := by
  unfold sat
  cases hx : c.x with
  | none =>
    have hb : Nat.beq t t = true := beq_nat.2 rfl
    simp only [St.next, h, hx, List.find?_cons, hb]
    exact he
  | some X =>
    simp only [St.next, h, hx, find_dropE_same]
    have : putO st.ρ (some t) X t = X := upd_same _ _ _
    rw [this]
    exact hg.det _ X _ hx he

/-- Closed under the edges. -/
def Closed (ops : List Oper) (D : Nat → Prop) : Prop := ∀ i o e, D i → ops[i]? = some o → e ∈ o.after → Region.binds .any e = true → D e.on

theorem ancOf_mem {done : List (List Nat)} {o : Oper} {j : Nat} (h : j ∈ ancOf done o) : ∃ e ∈ o.after, Region.binds .any e = true ∧ (j = e.on ∨ j ∈ done.getD e.on []) := by
  unfold ancOf at h
  rw [List.mem_flatMap] at h
  obtain ⟨e, he, hj⟩ := h
  refine ⟨e, by simpa using he, ?_⟩
  split at hj
  · rename_i hb; simp at hj; exact ⟨hb, by simpa using hj⟩
  · simp at hj

theorem ancs_sound {ops : List Oper} {D : Nat → Prop} (hD : Closed ops D) : ∀ (l : List Oper) (done : List (List Nat)), (∀ k, l[k]? = ops[done.length + k]?) → (∀ i j, j ∈ done.getD i [] → D i → D j) → ∀ i j, j ∈ (ancs done l).getD i [] → D i → D j
  | [], done, _, h => h
  | o :: l, done, hl, h => by
    unfold ancs
    refine ancs_sound hD l _ (fun k => ?_) ?_
    · have := hl (k + 1)
      simp only [List.getElem?_cons_succ] at this
      rw [this]
      simp only [List.length_append, List.length_cons, List.length_nil]
      congr 1; omega
    · intro i j hj hi
      have ho : ops[done.length]? = some o := by have := hl 0; simpa using this.symm
      by_cases h1 : i < done.length
      · rw [List.getD_eq_getElem?_getD, List.getElem?_append_left h1, ← List.getD_eq_getElem?_getD] at hj
        exact h i j hj hi
      · by_cases h2 : i = done.length
        · subst h2
          rw [List.getD_eq_getElem?_getD, List.getElem?_append_right (Nat.le_refl _)] at hj
          simp at hj
          obtain ⟨e, he, hb, h3⟩ := ancOf_mem hj
          have hon := hD _ o e hi ho he hb
          rcases h3 with rfl | h3
          · exact hon
          · exact h _ j h3 hon
        · rw [List.getD_eq_getElem?_getD, List.getElem?_eq_none (by simp; omega)] at hj
          simp at hj

structure Inv (V : Env) (st0 : St) (cs : List Ctr) (listed : Array Bool) (a : Act) (w : World) (done : List Nat) (vals : Nat → Value) (Γ' : Gho) : Prop where
  defers : a.defers = []
  size : a.tmps.size = V.n
  lsz : listed.size = V.ops.length
  nd : done.Nodup
  lt : ∀ i ∈ done, i < V.ops.length
  ls : ∀ i, i < V.ops.length → (listed.getD i true = true ↔ i ∈ done)
  cl : Closed V.ops (· ∈ done)
  le : V.rl V.Γ Γ'
  ep : ∀ i ∈ done, ∀ c, cs[i]? = some c → c.e (vals i) Γ'
  init : ∀ t, (∀ i ∈ done, ∀ o, V.ops[i]? = some o → o.dst ≠ some t) → fnOf a t = st0.ρ t
  last : ∀ i ∈ done, ∀ o t, V.ops[i]? = some o → o.dst = some t → (∀ j ∈ done, ∀ o', V.ops[j]? = some o' → o'.dst = some t → j ≤ i) → fnOf a t = vals i
  wd : ∃ p, p ≤ V.ops.length ∧ (∀ i, V.muts.contains i = true → i < V.ops.length → (i ∈ done ↔ i < p)) ∧
    Wd Γ' (V.K ++ ((stL V.ops cs st0 p).M ++ done.flatMap fun i => match cs[i]? with | some c => c.r (vals i) | none => [])) w

theorem checkR_at {ops : List Oper} {muts prods : List Nat} (h : checkR ops muts prods = true) {j : Nat} {oj : Oper} (hj : ops[j]? = some oj) :
    (∀ e ∈ oj.after, Region.binds .any e = true → e.on < j) ∧ (∀ cs b, oj.op ≠ .select cs b) ∧ (∀ g want, oj.guard = some (g, want) → ∃ d, (ops[g]?).bind (·.dst) = some d) ∧
    ∀ i oi, i < j → ops[i]? = some oi → ((apartR ops oi oj = true ∧ ¬ (muts.contains i = true ∧ muts.contains j = true)) ∨ i ∈ (ancs [] ops).getD j []) ∧ (oi.dst = none ∨ oi.dst ≠ oj.dst ∨ prods.contains i = false) := by
  have hlt : j < ops.length := (List.getElem?_eq_some_iff.1 hj).1
  unfold checkR at h
  simp only [List.all_eq_true, List.mem_range] at h
  have h1 := h j hlt
  simp only [hj, Bool.and_eq_true] at h1
  obtain ⟨⟨⟨h2, h3⟩, h4⟩, h5⟩ := h1
  refine ⟨fun e he hb => ?_, fun c b hs => ?_, fun g want hg => ?_, fun i oi hi ho => ?_⟩
  · have := (List.all_eq_true.1 h2) e (by simpa using he)
    rw [hb] at this
    simp at this; omega
  · unfold checkR.okNoSel at h3; rw [hs] at h3; simp at h3
  · rw [hg] at h4; exact Option.isSome_iff_exists.1 h4
  · have := (List.all_eq_true.1 h5) i (List.mem_range.2 hi)
    simp only [ho, Bool.and_eq_true, Bool.or_eq_true] at this
    obtain ⟨h6, h7⟩ := this
    refine ⟨h6.imp (fun h => ⟨h.1, fun ⟨x, y⟩ => ?_⟩) (fun h => by simpa using h), ?_⟩
    · have h8 := h.2
      simp [x, y] at h8
      rcases h8 with h8 | h8
      · exact h8 (by simpa using x)
      · exact h8 (by simpa using y)
    · rcases h7 with (h7 | h7) | h7
      · exact .inl (by simpa using h7)
      · exact .inr (.inl (by simpa using h7))
      · exact .inr (.inr (by simpa using h7))

theorem apartR_spec {ops : List Oper} {x y : Oper} (h : apartR ops x y = true) : (∀ d, x.dst = some d → d ∉ looks ops y ∧ y.dst ≠ some d) ∧ (∀ d, y.dst = some d → d ∉ looks ops x) := by
  unfold apartR at h
  simp only [Bool.and_eq_true] at h
  refine ⟨fun d hd => ?_, fun d hd => ?_⟩
  · have := h.1; rw [hd] at this; simp at this; exact ⟨this.1, fun e => this.2 e⟩
  · have := h.2; rw [hd] at this; simpa using this

section
variable {st0 : St} {cs : List Ctr} {listed : Array Bool} {a : Act} {w : World} {done : List Nat} {vals : Nat → Value} {Γ' : Gho}

theorem last_or_none (p : Nat → Prop) : ∀ k, (∀ j, j < k → ¬ p j) ∨ ∃ j, j < k ∧ p j ∧ ∀ i, j < i → i < k → ¬ p i
  | 0 => .inl fun j h => by omega
  | k + 1 => by
    by_cases hk : p k
    · exact .inr ⟨k, by omega, hk, fun i h1 h2 => by omega⟩
    · rcases last_or_none p k with h | ⟨j, h1, h2, h3⟩
      · refine .inl fun j hj => ?_
        by_cases e : j = k
        · subst e; exact hk
        · exact h j (by omega)
      · refine .inr ⟨j, by omega, h2, fun i h4 h5 => ?_⟩
        by_cases e : i = k
        · subst e; exact hk
        · exact h3 i h4 (by omega)

theorem sat_from (hc : Chain V Q 0 V.ops cs st0) {ρ : Fr} {t j : Nat} : ∀ (m : Nat), j + m ≤ V.ops.length → (∀ i, j ≤ i → i < j + m → ∀ o, V.ops[i]? = some o → o.dst ≠ some t) → sat (stL V.ops cs st0 j) ρ Γ' t → sat (stL V.ops cs st0 (j + m)) ρ Γ' t
  | 0, _, _, h => h
  | m + 1, hl, hn, h => by
    have ih := sat_from hc m (by omega) (fun i h1 h2 => hn i h1 (by omega)) h
    have ho : V.ops[j + m]? = some V.ops[j + m] := List.getElem?_eq_getElem (by omega)
    obtain ⟨c, h1, _⟩ := hc.good (j + m) ho
    rw [← Nat.add_assoc, stL_succ ho h1]
    exact sat_ne (hn (j + m) (by omega) (by omega) _ ho) ih

theorem Inv.sat_at (hc : Chain V Q 0 V.ops cs st0) (hE : st0.E = []) (inv : Inv V st0 cs listed a w done vals Γ') {k t : Nat} (hk : k ≤ V.ops.length) (h1 : ∀ j, j < k → ∀ o, V.ops[j]? = some o → o.dst = some t → j ∈ done)
    (h2 : ∀ j ∈ done, ∀ o, V.ops[j]? = some o → o.dst = some t → j < k) : sat (stL V.ops cs st0 k) (fnOf a) Γ' t := by
  rcases last_or_none (fun j => ∃ o, V.ops[j]? = some o ∧ o.dst = some t) k with hn | ⟨j, hj, ⟨o, ho, hd⟩, hlast⟩
  · have h0 : sat (stL V.ops cs st0 0) (fnOf a) Γ' t := by
      have : stL V.ops cs st0 0 = st0 := by cases V.ops <;> cases cs <;> rfl
      rw [this]
      unfold sat
      rw [hE]
      exact inv.init t fun i hi o ho hd => hn i (h2 i hi o ho hd) ⟨o, ho, hd⟩
    have := sat_from (j := 0) hc k (by omega) (fun i _ hi o ho hd => hn i (by omega) ⟨o, ho, hd⟩) h0
    simpa using this
  · have hin := h1 j hj o ho hd
    obtain ⟨c, hcj, hg⟩ := hc.good j ho
    have hval := inv.last j hin o t ho hd fun i hi o' ho' hd' => by
      have := h2 i hi o' ho' hd'
      rcases Nat.lt_or_ge j i with h | h
      · exact absurd ⟨o', ho', hd'⟩ (hlast i h this)
      · exact h
    have hs : sat (stL V.ops cs st0 (j + 1)) (fnOf a) Γ' t := by
      rw [stL_succ ho hcj]
      exact sat_eq hg hd (by rw [hval]; exact inv.ep j hin c hcj)
    have := sat_from (j := j + 1) hc (k - (j + 1)) (by omega) (fun i h3 h4 o' ho' hd' => hlast i (by omega) (by omega) ⟨o', ho', hd'⟩) hs
    rwa [show j + 1 + (k - (j + 1)) = k from by omega] at this

theorem M_const (hc : Chain V Q 0 V.ops cs st0) {p : Nat} : ∀ (m : Nat), p + m ≤ V.ops.length → (∀ j, p ≤ j → j < p + m → V.muts.contains j = false) → (stL V.ops cs st0 (p + m)).M = (stL V.ops cs st0 p).M
  | 0, _, _ => rfl
  | m + 1, hl, hn => by
    have ih := M_const hc m (by omega) (fun i h1 h2 => hn i h1 (by omega))
    have ho : V.ops[p + m]? = some V.ops[p + m] := List.getElem?_eq_getElem (by omega)
    obtain ⟨c, h1, hg⟩ := hc.good (p + m) ho
    rw [← Nat.add_assoc, stL_succ ho h1, ← ih]
    cases hm : c.m with
    | none => simp [St.next, hm]
    | some M =>
      have := hg.mt (by simp [hm])
      rw [Nat.zero_add, hn (p + m) (by omega) (by omega)] at this; cases this

theorem flatMap_congr' {f g : Nat → List Res} : ∀ {l : List Nat}, (∀ x ∈ l, f x = g x) → l.flatMap f = l.flatMap g
  | [], _ => rfl
  | x :: l, h => by
    simp only [List.flatMap_cons]
    rw [h x (by simp), flatMap_congr' fun y hy => h y (by simp [hy])]

theorem Inv.step {i : Nat} {QQ : Exit → Act → World → Prop} (hc : Chain V Q 0 V.ops cs st0) (hE : st0.E = []) (hk : checkR V.ops V.muts V.prods = true) (hD : V.ops.all (fun o => okDst V.n o.dst) = true) (inv : Inv V st0 cs listed a w done vals Γ')
    (hr : i ∈ Region.ready .any V.ops.toArray listed) : wpOp V.P V.ops.toArray QQ i (fun a' w' => ∃ done' vals' Γ'', Inv V st0 cs (listed.setIfInBounds i true) a' w' done' vals' Γ'' ∧ done'.length = done.length + 1) a w ∧ i ∉ done := by
  obtain ⟨hun, o, hoa, hall⟩ := mem_ready.1 hr
  have ho : V.ops[i]? = some o := by simpa using hoa
  have hil : i < V.ops.length := (List.getElem?_eq_some_iff.1 ho).1
  have hni : i ∉ done := fun h => by rw [(inv.ls i hil).2 h] at hun; cases hun
  refine ⟨?_, hni⟩
  obtain ⟨c, hci, hg⟩ := hc.good i ho
  rw [Nat.zero_add] at hg
  obtain ⟨k1, k2, k3, k4⟩ := checkR_at hk ho
  have hedges : ∀ e ∈ o.after, Region.binds .any e = true → e.on ∈ done := fun e he hb => by
    have h1 := hall e he hb
    have h2 := k1 e he hb
    have h3 : e.on < listed.size := by rw [inv.lsz]; omega
    refine (inv.ls e.on (by omega)).1 ?_
    simp only [Array.getD_eq_getD_getElem?, Array.getElem?_eq_getElem h3, Option.getD_some] at h1 ⊢
    exact h1
  have hcl' : Closed V.ops (· ∈ i :: done) := fun j o' e hj ho' he hb => by
    rcases List.mem_cons.1 hj with rfl | hj
    · rw [ho] at ho'; cases ho'; exact List.mem_cons_of_mem _ (hedges e he hb)
    · exact List.mem_cons_of_mem _ (inv.cl j o' e hj ho' he hb)
  have hanc : ∀ j, j ∈ (ancs [] V.ops).getD i [] → j ∈ i :: done := fun j hj => ancs_sound hcl' V.ops [] (by simp) (by simp) i j hj (by simp)
  have hanc2 : ∀ j k, j ∈ (ancs [] V.ops).getD k [] → k ∈ done → j ∈ done := fun j k hj hk => ancs_sound inv.cl V.ops [] (by simp) (by simp) k j hj hk
  -- what it looks at
  have hsat : ∀ t ∈ looks V.ops o, sat (stL V.ops cs st0 i) (fnOf a) Γ' t := fun t ht => inv.sat_at hc hE (Nat.le_of_lt hil) (fun j hj oj hoj hdj => by
      rcases (k4 j oj hj hoj).1 with h | h
      · exact absurd ht ((apartR_spec h.1).1 t hdj).1
      · rcases List.mem_cons.1 (hanc j h) with h | h
        · omega
        · exact h) (fun j hj oj hoj hdj => by
      rcases Nat.lt_or_ge j i with h | h
      · exact h
      · rcases Nat.eq_or_lt_of_le h with h | h
        · subst h; exact absurd hj hni
        · obtain ⟨_, _, _, q4⟩ := checkR_at hk hoj
          rcases (q4 i o h ho).1 with h' | h'
          · exact absurd ht ((apartR_spec h'.1).2 t hdj)
          · exact absurd (hanc2 i j h' hj) hni)
  obtain ⟨p, hp, hpm, hwd⟩ := inv.wd
  have himut : V.muts.contains i = true → (stL V.ops cs st0 i).M = (stL V.ops cs st0 p).M := fun hmi => by
    have hpi : p ≤ i := Nat.le_of_not_lt fun h => hni ((hpm i hmi hil).2 h)
    have := M_const hc (p := p) (i - p) (by omega) (fun j h1 h2 => by
      cases hb : V.muts.contains j with
      | false => rfl
      | true =>
        have hj : V.ops[j]? = some V.ops[j] := List.getElem?_eq_getElem (by omega)
        rcases (k4 j _ (by omega) hj).1 with h | h
        · exact absurd ⟨hb, hmi⟩ h.2
        · rcases List.mem_cons.1 (hanc j h) with h | h
          · omega
          · have := (hpm j hb (by omega)).1 h; omega)
    rwa [show p + (i - p) = i from by omega] at this
  have hw1 : Wd Γ' (V.K ++ ((match c.m with | some _ => (stL V.ops cs st0 i).M | none => []) ++ (match c.m with | some _ => done.flatMap (fun i => match cs[i]? with | some c => c.r (vals i) | none => []) | none => (stL V.ops cs st0 p).M ++ done.flatMap fun i => match cs[i]? with | some c => c.r (vals i) | none => []))) w := by
    cases hm : c.m with
    | none => simpa using hwd
    | some M =>
      have hmi := hg.mt (by simp [hm])
      simp only [himut hmi]
      exact hwd
  have hrun := hg.run Γ' _ w (fnOf a) inv.le hw1 hsat
  -- the invariant behind it
  have next : ∀ v w' Γ'', V.rl Γ' Γ'' → c.e v Γ'' → Wd Γ'' (V.K ++ ((match c.m with | some M => M | none => []) ++ (c.r v ++ (match c.m with | some _ => done.flatMap (fun i => match cs[i]? with | some c => c.r (vals i) | none => []) | none => (stL V.ops cs st0 p).M ++ done.flatMap fun i => match cs[i]? with | some c => c.r (vals i) | none => [])))) w' →
      Inv V st0 cs (listed.setIfInBounds i true) (a.put o.dst v) w' (i :: done) (fun j => if j = i then v else vals j) Γ'' := by
    intro v w' Γ'' hle he hwd'
    have hdn : okDst V.n o.dst = true := (List.all_eq_true.1 hD) o (List.mem_of_getElem? ho)
    have hput : fnOf (a.put o.dst v) = putO (fnOf a) o.dst v := fnOf_putO a _ v (by rw [inv.size]; exact okDst_spec hdn)
    have hfm : done.flatMap (fun j => match cs[j]? with | some c => c.r (if j = i then v else vals j) | none => []) = done.flatMap fun i => match cs[i]? with | some c => c.r (vals i) | none => [] :=
      flatMap_congr' fun j hj => by
        have : j ≠ i := fun e => hni (e ▸ hj)
        simp [this]
    have hcons : (i :: done).flatMap (fun j => match cs[j]? with | some c => c.r (if j = i then v else vals j) | none => []) = c.r v ++ done.flatMap fun i => match cs[i]? with | some c => c.r (vals i) | none => [] := by
      rw [List.flatMap_cons, hfm]; simp [hci]
    refine ⟨(defers_put a _ v).trans inv.defers, (size_put a _ v).trans inv.size, by simpa using inv.lsz, List.nodup_cons.2 ⟨hni, inv.nd⟩, ?_, ?_, hcl', inv.le.trans hle, ?_, ?_, ?_, ?_⟩
    · intro j hj
      rcases List.mem_cons.1 hj with rfl | hj
      · exact hil
      · exact inv.lt j hj
    · intro j hj
      by_cases hji : j = i
      · subst hji
        simp [inv.lsz, hil]
      · rw [getD_set_ne true (Ne.symm hji), inv.ls j hj]
        simp [hji]
    · intro j hj c' hc'
      rcases List.mem_cons.1 hj with rfl | hj
      · rw [hci] at hc'; cases hc'; simpa using he
      · have hji : j ≠ i := fun e => hni (e ▸ hj)
        simp only [hji, if_false]
        have hjl := inv.lt j hj
        have hoj : V.ops[j]? = some V.ops[j] := List.getElem?_eq_getElem hjl
        obtain ⟨c2, hc2, hg2⟩ := hc.good j hoj
        rw [hc'] at hc2; cases hc2
        exact hg2.mono _ _ _ hle.le (inv.ep j hj c' hc')
    · intro t hn
      rw [hput]
      have h1 : o.dst ≠ some t := hn i (by simp) o ho
      have : putO (fnOf a) o.dst v t = fnOf a t := by
        cases hd : o.dst with
        | none => rfl
        | some d => exact upd_ne _ _ (fun e => h1 (by rw [hd, e]))
      rw [this]
      exact inv.init t fun j hj => hn j (List.mem_cons_of_mem _ hj)
    · intro j hj o' t ho' hd' hmax
      rw [hput]
      rcases List.mem_cons.1 hj with rfl | hj
      · rw [ho] at ho'; cases ho'
        simp only [if_true]
        rw [hd']; exact upd_same _ _ _
      · have hji : j ≠ i := fun e => hni (e ▸ hj)
        simp only [hji, if_false]
        have h1 : o.dst ≠ some t := fun e => by
          have hle' := hmax i (by simp) o ho e
          have hlt : i < j := by omega
          obtain ⟨_, _, _, q4⟩ := checkR_at hk ho'
          rcases (q4 i o hlt ho).1 with h | h
          · exact ((apartR_spec h.1).1 t e).2 hd'
          · exact hni (hanc2 i j h hj)
        have : putO (fnOf a) o.dst v t = fnOf a t := by
          cases hd : o.dst with
          | none => rfl
          | some d => exact upd_ne _ _ (fun e => h1 (by rw [hd, e]))
        rw [this]
        exact inv.last j hj o' t ho' hd' fun k hk' => hmax k (List.mem_cons_of_mem _ hk')
    · cases hmi : V.muts.contains i with
      | true =>
        refine ⟨i + 1, by omega, fun j hj hjl => ?_, ?_⟩
        · by_cases hji : j = i
          · subst hji; simp
          · simp only [List.mem_cons, hji, false_or]
            rw [hpm j hj hjl]
            have hpi : p ≤ i := Nat.le_of_not_lt fun h => hni ((hpm i hmi hil).2 h)
            constructor
            · intro h; omega
            · intro h
              refine (hpm j hj hjl).1 ?_
              have hoj : V.ops[j]? = some V.ops[j] := List.getElem?_eq_getElem hjl
              rcases (k4 j _ (by omega) hoj).1 with h' | h'
              · exact absurd ⟨hj, hmi⟩ h'.2
              · rcases List.mem_cons.1 (hanc j h') with h' | h'
                · omega
                · exact h'
        · rw [hcons, stL_succ ho hci]
          cases hm : c.m with
          | some M => simp only [hm] at hwd'; simpa [St.next, hm] using hwd'
          | none =>
            simp only [hm, List.nil_append] at hwd'
            simp only [St.next, hm]
            rw [himut hmi]
            refine hwd'.perm (List.Perm.append_left _ ?_)
            rw [← List.append_assoc, ← List.append_assoc]
            exact (List.perm_append_comm).append_right _
      | false =>
        have hm : c.m = none := by
          cases hm : c.m with
          | none => rfl
          | some M => have := hg.mt (by simp [hm]); rw [hmi] at this; cases this
        refine ⟨p, hp, fun j hj hjl => ?_, ?_⟩
        · have hji : j ≠ i := fun e => by rw [e, hmi] at hj; cases hj
          simp only [List.mem_cons, hji, false_or]
          exact hpm j hj hjl
        · rw [hcons]
          simp only [hm, List.nil_append] at hwd'
          refine hwd'.perm (List.Perm.append_left _ ?_)
          rw [← List.append_assoc, ← List.append_assoc]
          exact (List.perm_append_comm).append_right _
  have hwant : Region.wanted o (yielded V.ops.toArray a.tmps) = wantF V.ops o (fnOf a) := by
    unfold wantF
    cases hgd : o.guard with
    | none => simp [Region.wanted, hgd]
    | some q =>
      obtain ⟨j, want⟩ := q
      obtain ⟨dj, hdj⟩ := k3 j want hgd
      have hdn : dj < V.n := by
        cases hoj : V.ops[j]? with
        | none => simp [hoj] at hdj
        | some oj => simp [hoj] at hdj; exact okDst_spec ((List.all_eq_true.1 hD) oj (List.mem_of_getElem? hoj)) dj hdj
      simp only [hdj]
      exact wanted_fn o V.ops.toArray a j want hgd dj (by simpa using hdj) (by rw [inv.size]; exact hdn)
  unfold wpOp
  simp only [hoa, hwant]
  cases hwt : wantF V.ops o (fnOf a) with
  | true =>
    simp only [if_true]
    exact .inl (Step.wp (hrun.1 hwt) fun v w' ⟨Γ'', h1, h2, h3⟩ => ⟨_, _, _, next v w' Γ'' h1 h3 h2, by simp⟩)
  | false =>
    obtain ⟨h1, h2, h3⟩ := hrun.2 hwt
    refine ⟨_, _, _, next undef w Γ' (Env.rl.refl V _) h1 ?_, by simp⟩
    rw [h2]
    simpa [h3] using hw1

theorem R_perm (hc : Chain V Q 0 V.ops cs st0) (hR : st0.R = []) {ρ : Fr} (hv : ∀ i o d c, V.ops[i]? = some o → cs[i]? = some c → c.p = true → o.dst = some d → vals i = ρ d) : ∀ k, k ≤ V.ops.length →
    (prodL (stL V.ops cs st0 k).R ρ).Perm ((List.range k).flatMap fun i => match cs[i]? with | some c => c.r (vals i) | none => [])
  | 0, _ => by
    have : stL V.ops cs st0 0 = st0 := by cases V.ops <;> cases cs <;> rfl
    rw [this, hR]; simp [prodL]
  | k + 1, hk => by
    have ih := R_perm hc hR hv k (by omega)
    have ho : V.ops[k]? = some V.ops[k] := List.getElem?_eq_getElem (by omega)
    obtain ⟨c, h1, hg⟩ := hc.good k ho
    rw [stL_succ ho h1, List.range_succ, List.flatMap_append]
    simp only [List.flatMap_cons, List.flatMap_nil, List.append_nil, h1]
    cases hp : c.p with
    | false =>
      rw [hg.np hp, List.append_nil]
      simpa [St.next, hp] using ih
    | true =>
      obtain ⟨d, hd⟩ := Option.isSome_iff_exists.1 (hg.pr hp).2
      simp only [St.next, hp, hd, prodL, List.flatMap_cons]
      rw [← hv k _ d c ho h1 hp hd]
      exact (List.perm_append_comm).trans (List.Perm.append_right _ ih)

theorem Inv.fin (hc : Chain V Q 0 V.ops cs st0) (hE : st0.E = []) (hR : st0.R = []) (hk : checkR V.ops V.muts V.prods = true) (inv : Inv V st0 cs listed a w done vals Γ') (hall : ∀ i, i < V.ops.length → i ∈ done) : Q (fnOf a) w := by
  have hfin := hc.final
  obtain ⟨p, hp, hpm, hwd⟩ := inv.wd
  refine hfin Γ' w (fnOf a) inv.le (fun t => inv.sat_at hc hE (Nat.le_refl _) (fun j hj _ _ _ => hall j hj) (fun j hj _ _ _ => inv.lt j hj)) ?_
  have hM : (stL V.ops cs st0 V.ops.length).M = (stL V.ops cs st0 p).M := by
    have := M_const hc (p := p) (V.ops.length - p) (by omega) (fun j h1 h2 => by
      cases hb : V.muts.contains j with
      | false => rfl
      | true => have := (hpm j hb (by omega)).1 (hall j (by omega)); omega)
    rwa [show p + (V.ops.length - p) = V.ops.length from by omega] at this
  rw [hM]
  have hperm : done.Perm (List.range V.ops.length) := (List.perm_ext_iff_of_nodup inv.nd List.nodup_range).2 fun x => by
    rw [List.mem_range]; exact ⟨inv.lt x, hall x⟩
  have hv : ∀ i o d c, V.ops[i]? = some o → cs[i]? = some c → c.p = true → o.dst = some d → vals i = fnOf a d := fun i o d c ho hci hpp hd => by
    have hil : i < V.ops.length := (List.getElem?_eq_some_iff.1 ho).1
    refine (inv.last i (hall i hil) o d ho hd fun j hj o' ho' hd' => ?_).symm
    rcases Nat.lt_or_ge i j with h | h
    · obtain ⟨_, _, _, q4⟩ := checkR_at hk ho'
      obtain ⟨c2, hc2, hg⟩ := hc.good i ho
      rw [hci] at hc2; cases hc2
      rw [Nat.zero_add] at hg
      rcases (q4 i o h ho).2 with h' | h' | h'
      · rw [hd] at h'; cases h'
      · exact absurd (hd.trans hd'.symm) h'
      · rw [(hg.pr hpp).1] at h'; cases h'
    · exact h
  refine hwd.perm (List.Perm.append_left _ (List.Perm.append_left _ ?_))
  exact (List.Perm.flatMap_right _ hperm).trans (R_perm hc hR hv _ (Nat.le_refl _)).symm

theorem all_of_not_ready (hk : checkR V.ops V.muts V.prods = true) (inv : Inv V st0 cs listed a w done vals Γ') (h : Region.ready .any V.ops.toArray listed = []) : ∀ i, i < V.ops.length → i ∈ done := by
  intro i
  induction i using Nat.strongRecOn with
  | _ i ih =>
    intro hi
    refine Classical.byContradiction fun hn => ?_
    have hmem : i ∈ Region.ready .any V.ops.toArray listed := mem_ready.2 ⟨?_, V.ops[i], by simp [hi], fun e he hb => ?_⟩
    · rw [h] at hmem; cases hmem
    · cases hb : listed.getD i true with
      | false => rfl
      | true => exact absurd ((inv.ls i hi).1 hb) hn
    · have h1 := (checkR_at hk (List.getElem?_eq_getElem hi)).1 e he hb
      have h2 := (inv.ls e.on (by omega)).2 (ih e.on h1 (by omega))
      have h3 : e.on < listed.size := by rw [inv.lsz]; omega
      simp only [Array.getD_eq_getD_getElem?, Array.getElem?_eq_getElem h3, Option.getD_some] at h2 ⊢
      exact h2

theorem nodup_le : ∀ (m : Nat) (l : List Nat), l.Nodup → (∀ x ∈ l, x < m) → l.length ≤ m
  | 0, l, _, h => by
    cases l with
    | nil => simp
    | cons x l => have := h x (by simp); omega
  | m + 1, l, hn, h => by
    have h1 := nodup_le m (l.erase m) (hn.erase m) (fun x hx => by
      have h2 := h x (List.mem_of_mem_erase hx)
      have h3 : x ≠ m := fun e => by subst e; exact absurd hx (hn.not_mem_erase)
      omega)
    by_cases hm : m ∈ l
    · have := List.length_erase_of_mem hm; omega
    · rw [List.erase_of_not_mem hm] at h1; omega

theorem Inv.any {QQ : Exit → Fr → World → Prop} (hc : Chain V (fun ρ w => QQ .normal ρ w) 0 V.ops cs st0) (hE : st0.E = []) (hR : st0.R = []) (hk : checkR V.ops V.muts V.prods = true) (hD : V.ops.all (fun o => okDst V.n o.dst) = true) :
    ∀ (fuel : Nat) (listed : Array Bool) (a : Act) (w : World) (done : List Nat) (vals : Nat → Value) (Γ' : Gho), Inv V st0 cs listed a w done vals Γ' → fuel + done.length = V.ops.length → wpAny V.P .any V.ops.toArray (lift V.n QQ) fuel listed a w
  | 0, listed, a, w, done, vals, Γ', inv, hf => by
    have hall : ∀ i, i < V.ops.length → i ∈ done := by
      intro i hi
      refine Classical.byContradiction fun hn => ?_
      have := nodup_le V.ops.length (i :: done) (List.nodup_cons.2 ⟨hn, inv.nd⟩) (fun x hx => by
        rcases List.mem_cons.1 hx with rfl | hx
        · exact hi
        · exact inv.lt x hx)
      simp at this; omega
    refine ⟨?_, inv.defers, inv.size, inv.fin hc hE hR hk hall⟩
    refine List.eq_nil_iff_forall_not_mem.2 fun i hi => ?_
    obtain ⟨hun, o, ho, _⟩ := mem_ready.1 hi
    have hil : i < V.ops.length := by have := (Array.getElem?_eq_some_iff.1 ho).1; simpa using this
    rw [(inv.ls i hil).2 (hall i hil)] at hun; cases hun
  | fuel + 1, listed, a, w, done, vals, Γ', inv, hf => by
    refine ⟨fun h => ⟨inv.defers, inv.size, inv.fin hc hE hR hk (all_of_not_ready hk inv h)⟩, fun i hi => ?_⟩
    refine wpOp_mono ?_ (inv.step hc hE hk hD hi).1
    rintro a' w' ⟨done', vals', Γ'', inv', hl⟩
    exact Inv.any hc hE hR hk hD fuel _ a' w' done' vals' Γ'' inv' (by omega)
end
end

/-- **A region that draws its order**: one walk in the text's order. K: what is owned and stays; M: what is owned and may be turned. -/
theorem W_draw {P : Program} {n id : Nat} {l : List Oper} {Q : Exit → Fr → World → Prop} {ρ : Fr} {w : World} {Γ : Gho} {K M : List Res} (muts prods : List Nat) (fixed : Bool) (hm : P.follows .mixedOrders = true) (hw : Wd Γ (K ++ M) w)
    (hk : checkR l muts prods = true) (hD : l.all (fun o => okDst n o.dst) = true) (h : Sw ⟨P, n, l, Γ, K, muts, prods, fixed⟩ (fun ρ w => Q .normal ρ w) 0 l ⟨ρ, [], M, []⟩) : W P n (.region id l.toArray true) Q ρ w := by
  unfold W
  intro a hda hs hf
  refine wp_region_any hm ?_
  obtain ⟨cs, hc⟩ := h.chain
  have inv : Inv ⟨P, n, l, Γ, K, muts, prods, fixed⟩ ⟨ρ, [], M, []⟩ cs (Array.replicate l.toArray.size false) a { w with drawn := w.drawn + 1 } [] (fun _ => undef) Γ := by
    refine ⟨hda, hs, by simp, by simp, by simp, fun i hi => ?_, fun _ _ _ h => by simp at h, Env.rl.refl _ _, by simp, fun t _ => by rw [hf], by simp, 0, Nat.zero_le _, by simp, ?_⟩
    · have : i < l.length := hi
      simp [this]
    · have : stL l cs ⟨ρ, [], M, []⟩ 0 = ⟨ρ, [], M, []⟩ := by cases l <;> cases cs <;> rfl
      simp only [this]
      simpa using hw.drawn
  exact Inv.any hc rfl rfl hk hD _ _ a _ [] _ Γ inv (by simp)
end Mk
