/- Regions that draw their order and change memory: what they change lies in cells, and the changes of a cell come in one order. -/
import Derived.Test.YtekdbdhkpolooaaBase13
open Go
namespace Mk

/-- ρ, with the slots N as g has them. -/
def ovr : List Nat → Fr → Fr → Fr
  | [], _, ρ => ρ
  | d :: N, g, ρ => upd (ovr N g ρ) d (g d)
theorem ovr_in {d : Nat} {g ρ : Fr} : ∀ {N : List Nat}, d ∈ N → ovr N g ρ d = g d
  | e :: N, h => by
    by_cases he : d = e
    · subst he; exact upd_same _ _ _
    · exact (upd_ne _ _ he).trans (ovr_in ((List.mem_cons.1 h).resolve_left he))
theorem ovr_out {d : Nat} {g ρ : Fr} : ∀ {N : List Nat}, d ∉ N → ovr N g ρ d = ρ d
  | [], _ => rfl
  | e :: N, h => (upd_ne _ _ (fun he => h (by simp [he]))).trans (ovr_out fun hm => h (by simp [hm]))
def noFr : Fr := fun _ => undef

structure Mt where
  ρ : Fr
  M : Nat → Fr → List Res
structure Mc where
  x : Value
  m : Nat → Fr → List Res
structure MEnv where
  P : Program
  n : Nat
  ops : List Oper
  Γ : Gho
  K : List Res
  wr : List (List Nat)
  tc : List (List Nat)
  stab : List (List Nat)
  fixed : Bool

section
variable (V : MEnv)
def MEnv.w (i : Nat) : List Nat := V.wr.getD i []
def MEnv.t (i : Nat) : List Nat := V.tc.getD i []
def MEnv.s (x : Nat) : List Nat := V.stab.getD x []
def MEnv.N : List Nat := V.stab.flatten
def MEnv.free (o : Oper) : Bool := match o.dst with | some d => V.N.contains d | none => true
def MEnv.rl (Γ Γ' : Gho) : Prop := match V.fixed with | true => Γ' = Γ | false => Γ.le Γ'
def cellsOf (l : List Nat) (M : Nat → Fr → List Res) (g : Fr) : List Res := l.flatMap fun x => M x (ovr (V.s x) g noFr)
def Mt.nxt (i : Nat) (st : Mt) (c : Mc) : Nat → Fr → List Res := fun x => bif (V.w i).contains x then c.m x else st.M x
def Mt.next (i : Nat) (st : Mt) (o : Oper) (c : Mc) : Mt := ⟨putO st.ρ o.dst c.x, Mt.nxt V i st c⟩
structure MGood (i : Nat) (o : Oper) (st : Mt) (c : Mc) : Prop where
  run : ∀ Γ' Y w g, V.rl V.Γ Γ' → Wd Γ' (V.K ++ (cellsOf V (V.t i) st.M g ++ Y)) w →
    (wantF V.ops o (ovr V.N g st.ρ) = true → Step V.P o (ovr V.N g st.ρ) w fun v w' => ∃ Γ'', V.rl Γ' Γ'' ∧ Wd Γ'' (V.K ++ (cellsOf V (V.t i) (Mt.nxt V i st c) (putO g o.dst v) ++ Y)) w' ∧ (V.free o = false → v = c.x)) ∧
    (wantF V.ops o (ovr V.N g st.ρ) = false → Wd Γ' (V.K ++ (cellsOf V (V.t i) (Mt.nxt V i st c) (putO g o.dst undef) ++ Y)) w ∧ (V.free o = false → undef = c.x))
def MFinal (Q : Fr → World → Prop) (st : Mt) : Prop := ∀ Γ' w g, V.rl V.Γ Γ' → Wd Γ' (V.K ++ cellsOf V (List.range V.stab.length) st.M g) w → Q (ovr V.N g st.ρ) w
def MSw (Q : Fr → World → Prop) : Nat → List Oper → Mt → Prop
  | _, [], st => MFinal V Q st
  | i, o :: l, st => ∃ c, MGood V i o st c ∧ MSw Q (i + 1) l (Mt.next V i st o c)
end

def clash (wr tc : List (List Nat)) (i j : Nat) : Bool := (wr.getD i []).any (fun x => (tc.getD j []).contains x) || (wr.getD j []).any fun x => (tc.getD i []).contains x
def dup : List Nat → Bool
  | [] => false
  | x :: l => l.contains x || dup l
def checkM (n : Nat) (ops : List Oper) (wr tc stab : List (List Nat)) : Bool :=
  let A := ancs [] ops
  (List.range ops.length).all fun j => match ops[j]? with
    | none => true
    | some oj => (oj.after.toList.all fun e => !Region.binds .any e || Nat.blt e.on j) && checkR.okNoSel oj && (match oj.guard with | some (g, _) => ((ops[g]?).bind (·.dst)).isSome | none => true) && okDst n oj.dst &&
      ((wr.getD j []).all fun x => (tc.getD j []).contains x) && ((tc.getD j []).all fun x => Nat.blt x stab.length) && !dup (tc.getD j []) &&
      (match oj.dst with | some d => (List.range stab.length).all fun x => !((stab.getD x []).contains d) || (wr.getD j []).contains x | none => true) &&
      ((List.range j).all fun i => match ops[i]? with
        | none => true
        | some oi => (apartR ops oi oj && !clash wr tc i j) || (A.getD j []).contains i)

/-! ### why it serves every order -/
def MChain (V : MEnv) (Q : Fr → World → Prop) : Nat → List Oper → List Mc → Mt → Prop
  | _, [], [], st => MFinal V Q st
  | i, o :: l, c :: cs, st => MGood V i o st c ∧ MChain V Q (i + 1) l cs (Mt.next V i st o c)
  | _, _, _, _ => False
theorem MSw.chain {V : MEnv} {Q : Fr → World → Prop} : ∀ (l : List Oper) (i : Nat) (st : Mt), MSw V Q i l st → ∃ cs, MChain V Q i l cs st
  | [], _, _, h => ⟨[], h⟩
  | _ :: l, i, st, ⟨c, hg, h⟩ => by
    obtain ⟨cs, hc⟩ := MSw.chain l (i + 1) _ h
    exact ⟨c :: cs, hg, hc⟩
def mstL (V : MEnv) : List Oper → List Mc → Nat → Mt → Nat → Mt
  | o :: l, c :: cs, i, st, k + 1 => mstL V l cs (i + 1) (Mt.next V i st o c) k
  | _, _, _, st, _ => st

section
variable {V : MEnv} {Q : Fr → World → Prop}
theorem MEnv.rl_refl (Γ : Gho) : V.rl Γ Γ := by unfold MEnv.rl; cases V.fixed <;> first | rfl | exact Gho.le.refl _
theorem MEnv.rl_trans {a b c : Gho} (h : V.rl a b) (k : V.rl b c) : V.rl a c := by
  unfold MEnv.rl at *; cases hf : V.fixed <;> simp only [hf] at * <;> first | exact k.trans h | exact Gho.le.trans h k

theorem MChain.good : ∀ {l : List Oper} {i : Nat} {cs : List Mc} {st : Mt} (k : Nat) {o : Oper}, MChain V Q i l cs st → l[k]? = some o → ∃ c, cs[k]? = some c ∧ MGood V (i + k) o (mstL V l cs i st k) c
  | o' :: l, i, c :: cs, st, 0, o, h, ho => by
    simp at ho; subst ho
    exact ⟨c, rfl, h.1⟩
  | o' :: l, i, c :: cs, st, k + 1, o, h, ho => by
    obtain ⟨c', h1, h2⟩ := MChain.good k h.2 (by simpa using ho)
    refine ⟨c', by simpa using h1, ?_⟩
    rw [show i + (k + 1) = i + 1 + k from by omega]
    exact h2
  | [], _, _, _, _, _, _, ho => by simp at ho
  | _ :: _, _, [], _, _, _, h, _ => h.elim
theorem MChain.final : ∀ {l : List Oper} {i : Nat} {cs : List Mc} {st : Mt}, MChain V Q i l cs st → MFinal V Q (mstL V l cs i st l.length)
  | [], _, [], _, h => h
  | o :: l, i, c :: cs, st, h => by
    have := MChain.final (l := l) (cs := cs) h.2
    simpa [mstL] using this
  | [], _, _ :: _, _, h => h.elim
  | _ :: _, _, [], _, h => h.elim
theorem mstL_succ : ∀ {l : List Oper} {cs : List Mc} {i : Nat} {st : Mt} {k : Nat} {o : Oper} {c : Mc}, l[k]? = some o → cs[k]? = some c → mstL V l cs i st (k + 1) = Mt.next V (i + k) (mstL V l cs i st k) o c
  | o' :: l, c' :: cs, i, st, 0, o, c, ho, hc => by
    simp at ho hc; subst ho; subst hc
    cases l <;> cases cs <;> rfl
  | o' :: l, c' :: cs, i, st, k + 1, o, c, ho, hc => by
    have := mstL_succ (l := l) (cs := cs) (i := i + 1) (st := Mt.next V i st o' c') (k := k) (by simpa using ho) (by simpa using hc)
    rw [show i + (k + 1) = i + 1 + k from by omega]
    exact this
  | [], _, _, _, _, _, _, ho, _ => by simp at ho
  | _ :: _, [], _, _, _, _, _, _, hc => by simp at hc
theorem mstL_zero {l : List Oper} {cs : List Mc} {i : Nat} {st : Mt} : mstL V l cs i st 0 = st := by cases l <;> cases cs <;> rfl

structure MInv (V : MEnv) (st0 : Mt) (cs : List Mc) (listed : Array Bool) (a : Act) (w : World) (done : List Nat) (Γ' : Gho) : Prop where
  defers : a.defers = []
  size : a.tmps.size = V.n
  lsz : listed.size = V.ops.length
  nd : done.Nodup
  lt : ∀ i ∈ done, i < V.ops.length
  ls : ∀ i, i < V.ops.length → (listed.getD i true = true ↔ i ∈ done)
  cl : Closed V.ops (· ∈ done)
  le : V.rl V.Γ Γ'
  init : ∀ t, t ∉ V.N → (∀ i ∈ done, ∀ o, V.ops[i]? = some o → o.dst ≠ some t) → fnOf a t = st0.ρ t
  last : ∀ i ∈ done, ∀ o t c, V.ops[i]? = some o → o.dst = some t → t ∉ V.N → cs[i]? = some c → (∀ j ∈ done, ∀ o', V.ops[j]? = some o' → o'.dst = some t → j ≤ i) → fnOf a t = c.x
  wd : ∃ p : Nat → Nat, (∀ x, p x ≤ V.ops.length ∧ ∀ i, x ∈ V.w i → i < V.ops.length → (i ∈ done ↔ i < p x)) ∧
    Wd Γ' (V.K ++ (List.range V.stab.length).flatMap fun x => (mstL V V.ops cs 0 st0 (p x)).M x (ovr (V.s x) (fnOf a) noFr)) w

theorem dup_nodup : ∀ {l : List Nat}, dup l = false → l.Nodup
  | [], _ => List.nodup_nil
  | x :: l, h => by
    simp only [dup, Bool.or_eq_false_iff] at h
    exact List.nodup_cons.2 ⟨by simpa using h.1, dup_nodup h.2⟩

theorem checkM_at {n : Nat} {ops : List Oper} {wr tc stab : List (List Nat)} (h : checkM n ops wr tc stab = true) {j : Nat} {oj : Oper} (hj : ops[j]? = some oj) :
    (∀ e ∈ oj.after, Region.binds .any e = true → e.on < j) ∧ (∀ cs b, oj.op ≠ .select cs b) ∧ (∀ g want, oj.guard = some (g, want) → ∃ d, (ops[g]?).bind (·.dst) = some d) ∧ okDst n oj.dst = true ∧
    (∀ x ∈ wr.getD j [], x ∈ tc.getD j []) ∧ (∀ x ∈ tc.getD j [], x < stab.length) ∧ (tc.getD j []).Nodup ∧ (∀ d x, oj.dst = some d → d ∈ stab.getD x [] → x ∈ wr.getD j []) ∧
    ∀ i oi, i < j → ops[i]? = some oi → (apartR ops oi oj = true ∧ clash wr tc i j = false) ∨ i ∈ (ancs [] ops).getD j [] := by
  have hlt : j < ops.length := (List.getElem?_eq_some_iff.1 hj).1
  unfold checkM at h
  simp only [List.all_eq_true, List.mem_range] at h
  have h1 := h j hlt
  simp only [hj, Bool.and_eq_true] at h1
  obtain ⟨⟨⟨⟨⟨⟨⟨⟨h2, h3⟩, h4⟩, h6⟩, h7⟩, h8⟩, h9⟩, h10⟩, h5⟩ := h1
  refine ⟨fun e he hb => ?_, fun c b hs => ?_, fun g want hg => ?_, h6, fun x hx => ?_, fun x hx => ?_, dup_nodup (by simpa using h9), fun d x hd hx => ?_, fun i oi hi ho => ?_⟩
  · have := (List.all_eq_true.1 h2) e (by simpa using he)
    rw [hb] at this
    simp at this; omega
  · unfold checkR.okNoSel at h3; rw [hs] at h3; simp at h3
  · rw [hg] at h4; exact Option.isSome_iff_exists.1 h4
  · simpa using (List.all_eq_true.1 h7) x hx
  · exact Nat.le_of_ble_eq_true ((List.all_eq_true.1 h8) x hx)
  · rw [hd] at h10
    by_cases hl : x < stab.length
    · have := (List.all_eq_true.1 h10) x (List.mem_range.2 hl)
      simp [hx] at this
      exact (this.resolve_left (fun h => h hx))
    · rw [List.getD_eq_getElem?_getD, List.getElem?_eq_none (by omega)] at hx; simp at hx
  · have := (List.all_eq_true.1 h5) i (List.mem_range.2 hi)
    simp only [ho, Bool.and_eq_true, Bool.or_eq_true] at this
    exact this.imp (fun h => ⟨h.1, by simpa using h.2⟩) (fun h => by simpa using h)

theorem clash_w {wr tc : List (List Nat)} {i j x : Nat} (h : clash wr tc i j = false) (h1 : x ∈ wr.getD i []) (h2 : x ∈ tc.getD j []) : False := by
  simp only [clash, Bool.or_eq_false_iff] at h
  have := List.any_eq_false.1 h.1 x h1
  exact this (by simpa using h2)
theorem clash_t {wr tc : List (List Nat)} {i j x : Nat} (h : clash wr tc i j = false) (h1 : x ∈ tc.getD i []) (h2 : x ∈ wr.getD j []) : False := by
  simp only [clash, Bool.or_eq_false_iff] at h
  have := List.any_eq_false.1 h.2 x h2
  exact this (by simpa using h1)

section
variable {st0 : Mt} {cs : List Mc} {listed : Array Bool} {a : Act} {w : World} {done : List Nat} {Γ' : Gho}

theorem mρ_from (hc : MChain V Q 0 V.ops cs st0) {t j : Nat} : ∀ (m : Nat), j + m ≤ V.ops.length → (∀ i, j ≤ i → i < j + m → ∀ o, V.ops[i]? = some o → o.dst ≠ some t) → (mstL V V.ops cs 0 st0 (j + m)).ρ t = (mstL V V.ops cs 0 st0 j).ρ t
  | 0, _, _ => rfl
  | m + 1, hl, hn => by
    have ih := mρ_from hc m (by omega) (fun i h1 h2 => hn i h1 (by omega))
    have ho : V.ops[j + m]? = some V.ops[j + m] := List.getElem?_eq_getElem (by omega)
    obtain ⟨c, h1, _⟩ := hc.good (j + m) ho
    rw [← Nat.add_assoc, mstL_succ ho h1, ← ih]
    have hne := hn (j + m) (by omega) (by omega) _ ho
    simp only [Mt.next]
    cases hd : (V.ops[j + m]).dst with
    | none => rfl
    | some d => exact upd_ne _ _ (fun e => hne (by rw [hd, e]))

theorem MInv.sat_at (hc : MChain V Q 0 V.ops cs st0) (inv : MInv V st0 cs listed a w done Γ') {k t : Nat} (hN : t ∉ V.N) (hk : k ≤ V.ops.length) (h1 : ∀ j, j < k → ∀ o, V.ops[j]? = some o → o.dst = some t → j ∈ done)
    (h2 : ∀ j ∈ done, ∀ o, V.ops[j]? = some o → o.dst = some t → j < k) : fnOf a t = (mstL V V.ops cs 0 st0 k).ρ t := by
  rcases last_or_none (fun j => ∃ o, V.ops[j]? = some o ∧ o.dst = some t) k with hn | ⟨j, hj, ⟨o, ho, hd⟩, hlast⟩
  · have := mρ_from (j := 0) (t := t) hc k (by omega) (fun i _ hi o ho hd => hn i (by omega) ⟨o, ho, hd⟩)
    rw [Nat.zero_add, mstL_zero] at this
    rw [this]
    exact inv.init t hN fun i hi o ho hd => hn i (h2 i hi o ho hd) ⟨o, ho, hd⟩
  · have hin := h1 j hj o ho hd
    obtain ⟨c, hcj, hg⟩ := hc.good j ho
    have hval := inv.last j hin o t c ho hd hN hcj fun i hi o' ho' hd' => by
      have := h2 i hi o' ho' hd'
      rcases Nat.lt_or_ge j i with h | h
      · exact absurd ⟨o', ho', hd'⟩ (hlast i h this)
      · exact h
    have hs : (mstL V V.ops cs 0 st0 (j + 1)).ρ t = c.x := by
      rw [mstL_succ ho hcj]
      simp only [Mt.next, hd]
      exact upd_same _ _ _
    have := mρ_from (j := j + 1) (t := t) hc (k - (j + 1)) (by omega) (fun i h3 h4 o' ho' hd' => hlast i (by omega) (by omega) ⟨o', ho', hd'⟩)
    rw [show j + 1 + (k - (j + 1)) = k from by omega] at this
    rw [hval, this, hs]

theorem mM_const (hc : MChain V Q 0 V.ops cs st0) {p x : Nat} : ∀ (m : Nat), p + m ≤ V.ops.length → (∀ j, p ≤ j → j < p + m → x ∉ V.w j) → (mstL V V.ops cs 0 st0 (p + m)).M x = (mstL V V.ops cs 0 st0 p).M x
  | 0, _, _ => rfl
  | m + 1, hl, hn => by
    have ih := mM_const hc m (by omega) (fun i h1 h2 => hn i h1 (by omega))
    have ho : V.ops[p + m]? = some V.ops[p + m] := List.getElem?_eq_getElem (by omega)
    obtain ⟨c, h1, hg⟩ := hc.good (p + m) ho
    rw [← Nat.add_assoc, mstL_succ ho h1, ← ih]
    have := hn (p + m) (by omega) (by omega)
    simp [Mt.next, Mt.nxt, this]

theorem cellsOf_congr {l : List Nat} {M M' : Nat → Fr → List Res} {g g' : Fr} (h : ∀ x ∈ l, M x (ovr (V.s x) g noFr) = M' x (ovr (V.s x) g' noFr)) : cellsOf V l M g = cellsOf V l M' g' := flatMap_congr' h
theorem ovr_congr {g g' ρ : Fr} : ∀ {N : List Nat}, (∀ t ∈ N, g t = g' t) → ovr N g ρ = ovr N g' ρ
  | [], _ => rfl
  | d :: N, h => by
    simp only [ovr]
    rw [h d (by simp), ovr_congr (N := N) fun t ht => h t (by simp [ht])]

theorem MInv.step {i : Nat} {QQ : Exit → Act → World → Prop} (hc : MChain V Q 0 V.ops cs st0) (hk : checkM V.n V.ops V.wr V.tc V.stab = true) (inv : MInv V st0 cs listed a w done Γ')
    (hr : i ∈ Region.ready .any V.ops.toArray listed) : wpOp V.P V.ops.toArray QQ i (fun a' w' => ∃ done' Γ'', MInv V st0 cs (listed.setIfInBounds i true) a' w' done' Γ'' ∧ done'.length = done.length + 1) a w ∧ i ∉ done := by
  obtain ⟨hun, o, hoa, hall⟩ := mem_ready.1 hr
  have ho : V.ops[i]? = some o := by simpa using hoa
  have hil : i < V.ops.length := (List.getElem?_eq_some_iff.1 ho).1
  have hni : i ∉ done := fun h => by rw [(inv.ls i hil).2 h] at hun; cases hun
  refine ⟨?_, hni⟩
  obtain ⟨c, hci, hg⟩ := hc.good i ho
  rw [Nat.zero_add] at hg
  obtain ⟨k1, k2, k3, kd, kw, kl, kn, ks, k4⟩ := checkM_at hk ho
  have hedges : ∀ e ∈ o.after, Region.binds .any e = true → e.on ∈ done := fun e he hb => by
    have h1 := hall e he hb
    have h2 := k1 e he hb
    have h3 : e.on < listed.size := by rw [inv.lsz]; omega
    refine (inv.ls e.on (by omega)).1 ?_
    simp only [Array.getD_eq_getD_getElem?, Array.getElem?_eq_getElem h3, Option.getD_some] at h1 ⊢
    exact h1
  have hcl' : Closed V.ops (· ∈ i :: done) := fun j o' e hj ho' he hb => by
    rcases List.mem_cons.1 hj with rfl | hj
    · rw [ho] at ho'; cases ho'; exact List.mem_cons_of_mem _ (hedges e he hb)
    · exact List.mem_cons_of_mem _ (inv.cl j o' e hj ho' he hb)
  have hanc : ∀ j, j ∈ (ancs [] V.ops).getD i [] → j ∈ i :: done := fun j hj => ancs_sound hcl' V.ops [] (by simp) (by simp) i j hj (by simp)
  have hanc2 : ∀ j k, j ∈ (ancs [] V.ops).getD k [] → k ∈ done → j ∈ done := fun j k hj hk => ancs_sound inv.cl V.ops [] (by simp) (by simp) k j hj hk
  -- what it looks at
  have hsat : ∀ t ∈ looks V.ops o, t ∉ V.N → fnOf a t = (mstL V V.ops cs 0 st0 i).ρ t := fun t ht hN => inv.sat_at hc hN (Nat.le_of_lt hil) (fun j hj oj hoj hdj => by
      rcases k4 j oj hj hoj with h | h
      · exact absurd ht ((apartR_spec h.1).1 t hdj).1
      · rcases List.mem_cons.1 (hanc j h) with h | h
        · omega
        · exact h) (fun j hj oj hoj hdj => by
      rcases Nat.lt_or_ge j i with h | h
      · exact h
      · rcases Nat.eq_or_lt_of_le h with h | h
        · subst h; exact absurd hj hni
        · obtain ⟨_, _, _, _, _, _, _, _, q4⟩ := checkM_at hk hoj
          rcases q4 i o h ho with h' | h'
          · exact absurd ht ((apartR_spec h'.1).2 t hdj)
          · exact absurd (hanc2 i j h' hj) hni)
  have hlook : ∀ t ∈ looks V.ops o, fnOf a t = ovr V.N (fnOf a) (mstL V V.ops cs 0 st0 i).ρ t := fun t ht => by
    by_cases hN : t ∈ V.N
    · rw [ovr_in hN]
    · rw [ovr_out hN]; exact hsat t ht hN
  obtain ⟨p, hp, hwd⟩ := inv.wd
  have htc : ∀ x ∈ V.t i, (mstL V V.ops cs 0 st0 i).M x = (mstL V V.ops cs 0 st0 (p x)).M x := fun x hx => by
    rcases Nat.lt_or_ge i (p x) with hlt | hge
    · -- the writers between are done, and later than i: none
      have := mM_const hc (p := i) (x := x) (p x - i) (by have := (hp x).1; omega) (fun j h1 h2 hj => by
        have hjl : j < V.ops.length := by have := (hp x).1; omega
        have hjd := ((hp x).2 j hj hjl).2 (by omega)
        have hoj : V.ops[j]? = some V.ops[j] := List.getElem?_eq_getElem hjl
        rcases Nat.eq_or_lt_of_le h1 with h | h
        · subst h; exact hni hjd
        · obtain ⟨_, _, _, _, _, _, _, _, q4⟩ := checkM_at hk hoj
          rcases q4 i o h ho with h' | h'
          · exact clash_t h'.2 hx hj
          · exact hni (hanc2 i j h' hjd))
      rw [show i + (p x - i) = p x from by omega] at this
      exact this.symm
    · have := mM_const hc (p := p x) (x := x) (i - p x) (by omega) (fun j h1 h2 hj => by
        have hoj : V.ops[j]? = some V.ops[j] := List.getElem?_eq_getElem (by omega)
        rcases k4 j _ (by omega) hoj with h | h
        · exact clash_w h.2 hj hx
        · rcases List.mem_cons.1 (hanc j h) with h | h
          · omega
          · have := ((hp x).2 j hj (by omega)).1 h; omega)
      rwa [show p x + (i - p x) = i from by omega] at this
  let rest := (List.range V.stab.length).filter fun x => !(V.t i).contains x
  have hperm : (List.range V.stab.length).Perm (V.t i ++ rest) := by
    refine (List.perm_ext_iff_of_nodup List.nodup_range ?_).2 fun x => ?_
    · refine List.nodup_append.2 ⟨kn, List.nodup_range.filter _, fun x hx y hy hxy => ?_⟩
      subst hxy
      have := (List.mem_filter.1 hy).2
      simp at this; exact this hx
    · simp only [List.mem_append, List.mem_range, rest, List.mem_filter]
      constructor
      · intro h
        by_cases hx : x ∈ V.t i
        · exact .inl hx
        · exact .inr ⟨h, by simpa using hx⟩
      · rintro (h | h)
        · exact kl x h
        · exact h.1
  have hfm : ∀ F : Nat → List Res, ((List.range V.stab.length).flatMap F).Perm ((V.t i).flatMap F ++ rest.flatMap F) := fun F => by
    rw [← List.flatMap_append]; exact List.Perm.flatMap_right _ hperm
  have hw1 : Wd Γ' (V.K ++ (cellsOf V (V.t i) (mstL V V.ops cs 0 st0 i).M (fnOf a) ++ rest.flatMap fun x => (mstL V V.ops cs 0 st0 (p x)).M x (ovr (V.s x) (fnOf a) noFr))) w := by
    have := hwd.perm (List.Perm.append_left V.K (hfm _))
    rwa [show cellsOf V (V.t i) (mstL V V.ops cs 0 st0 i).M (fnOf a) = (V.t i).flatMap fun x => (mstL V V.ops cs 0 st0 (p x)).M x (ovr (V.s x) (fnOf a) noFr) from flatMap_congr' fun x hx => by rw [htc x hx]]
  have hrun := hg.run Γ' _ w (fnOf a) inv.le hw1
  -- the invariant behind it
  have next : ∀ v w' Γ'', V.rl Γ' Γ'' → (V.free o = false → v = c.x) → Wd Γ'' (V.K ++ (cellsOf V (V.t i) (Mt.nxt V i (mstL V V.ops cs 0 st0 i) c) (putO (fnOf a) o.dst v) ++ rest.flatMap fun x => (mstL V V.ops cs 0 st0 (p x)).M x (ovr (V.s x) (fnOf a) noFr))) w' →
      MInv V st0 cs (listed.setIfInBounds i true) (a.put o.dst v) w' (i :: done) Γ'' := by
    intro v w' Γ'' hle he hwd'
    have hput : fnOf (a.put o.dst v) = putO (fnOf a) o.dst v := fnOf_putO a _ v (by rw [inv.size]; exact okDst_spec kd)
    refine ⟨(defers_put a _ v).trans inv.defers, (size_put a _ v).trans inv.size, by simpa using inv.lsz, List.nodup_cons.2 ⟨hni, inv.nd⟩, ?_, ?_, hcl', V.rl_trans inv.le hle, ?_, ?_, ?_⟩
    · intro j hj
      rcases List.mem_cons.1 hj with rfl | hj
      · exact hil
      · exact inv.lt j hj
    · intro j hj
      by_cases hji : j = i
      · subst hji
        simp [inv.lsz, hil]
      · rw [getD_set_ne true (Ne.symm hji), inv.ls j hj]
        simp [hji]
    · intro t hN hn
      rw [hput]
      have h1 : o.dst ≠ some t := hn i (by simp) o ho
      have : putO (fnOf a) o.dst v t = fnOf a t := by
        cases hd : o.dst with
        | none => rfl
        | some d => exact upd_ne _ _ (fun e => h1 (by rw [hd, e]))
      rw [this]
      exact inv.init t hN fun j hj => hn j (List.mem_cons_of_mem _ hj)
    · intro j hj o' t c' ho' hd' hN hc' hmax
      rw [hput]
      rcases List.mem_cons.1 hj with rfl | hj
      · rw [ho] at ho'; cases ho'
        rw [hci] at hc'; cases hc'
        rw [hd', show putO (fnOf a) (some t) v t = v from upd_same _ _ _]
        exact he (by simp only [MEnv.free, hd']; simpa using hN)
      · have hji : j ≠ i := fun e => hni (e ▸ hj)
        have h1 : o.dst ≠ some t := fun e => by
          have hle' := hmax i (by simp) o ho e
          have hlt : i < j := by omega
          obtain ⟨_, _, _, _, _, _, _, _, q4⟩ := checkM_at hk ho'
          rcases q4 i o hlt ho with h | h
          · exact ((apartR_spec h.1).1 t e).2 hd'
          · exact hni (hanc2 i j h hj)
        have : putO (fnOf a) o.dst v t = fnOf a t := by
          cases hd : o.dst with
          | none => rfl
          | some d => exact upd_ne _ _ (fun e => h1 (by rw [hd, e]))
        rw [this]
        exact inv.last j hj o' t c' ho' hd' hN hc' fun k hk' => hmax k (List.mem_cons_of_mem _ hk')
    · refine ⟨fun x => if x ∈ V.w i then i + 1 else p x, fun x => ⟨?_, fun j hj hjl => ?_⟩, ?_⟩
      · show (if x ∈ V.w i then i + 1 else p x) ≤ V.ops.length
        have := (hp x).1
        split <;> omega
      · by_cases hx : x ∈ V.w i
        · simp only [hx, if_true]
          by_cases hji : j = i
          · subst hji; simp
          · simp only [List.mem_cons, hji, false_or]
            have hpi : p x ≤ i := Nat.le_of_not_lt fun h => hni (((hp x).2 i hx hil).2 h)
            rw [(hp x).2 j hj hjl]
            constructor
            · intro h; omega
            · intro h
              refine ((hp x).2 j hj hjl).1 ?_
              have hoj : V.ops[j]? = some V.ops[j] := List.getElem?_eq_getElem hjl
              rcases k4 j _ (by omega) hoj with h' | h'
              · exact absurd (clash_w h'.2 hj (kw x hx)) id
              · rcases List.mem_cons.1 (hanc j h') with h' | h'
                · omega
                · exact h'
        · have hji : j ≠ i := fun e => hx (e ▸ hj)
          simp only [hx, if_false, List.mem_cons, hji, false_or]
          exact (hp x).2 j hj hjl
      · refine Wd.perm ?_ (List.Perm.append_left V.K (hfm _)).symm
        have e1 : cellsOf V (V.t i) (Mt.nxt V i (mstL V V.ops cs 0 st0 i) c) (putO (fnOf a) o.dst v) = (V.t i).flatMap fun x => (mstL V V.ops cs 0 st0 (if x ∈ V.w i then i + 1 else p x)).M x (ovr (V.s x) (fnOf (a.put o.dst v)) noFr) := flatMap_congr' fun x hx => by
          rw [hput]
          by_cases hxw : x ∈ V.w i
          · simp only [hxw, if_true]
            rw [mstL_succ ho hci, Nat.zero_add]
            rfl
          · simp only [hxw, if_false, Mt.nxt]
            rw [← htc x hx]
            simp [hxw]
        have e2 : (rest.flatMap fun x => (mstL V V.ops cs 0 st0 (p x)).M x (ovr (V.s x) (fnOf a) noFr)) = rest.flatMap fun x => (mstL V V.ops cs 0 st0 (if x ∈ V.w i then i + 1 else p x)).M x (ovr (V.s x) (fnOf (a.put o.dst v)) noFr) := flatMap_congr' fun x hx => by
          have hxt : x ∉ V.t i := by have := (List.mem_filter.1 hx).2; simpa using this
          have hxw : x ∉ V.w i := fun h => hxt (kw x h)
          simp only [hxw, if_false]
          rw [hput]
          congr 1
          refine ovr_congr fun t ht => ?_
          cases hd : o.dst with
          | none => rfl
          | some d => exact (upd_ne _ _ (fun e => hxw (ks d x hd (by subst e; exact ht)))).symm
        rw [← e1, ← e2]
        exact hwd'
  have hwant : Region.wanted o (yielded V.ops.toArray a.tmps) = wantF V.ops o (ovr V.N (fnOf a) (mstL V V.ops cs 0 st0 i).ρ) := by
    unfold wantF
    cases hgd : o.guard with
    | none => simp [Region.wanted, hgd]
    | some q =>
      obtain ⟨j, want⟩ := q
      obtain ⟨dj, hdj⟩ := k3 j want hgd
      have hdn : dj < V.n := by
        cases hoj : V.ops[j]? with
        | none => simp [hoj] at hdj
        | some oj => simp [hoj] at hdj; exact okDst_spec ((checkM_at hk hoj).2.2.2.1) dj hdj
      simp only [hdj]
      rw [← hlook dj (List.mem_append_right _ (by simp only [hgd]; simpa using hdj))]
      exact wanted_fn o V.ops.toArray a j want hgd dj (by simpa using hdj) (by rw [inv.size]; exact hdn)
  unfold wpOp
  simp only [hoa, hwant]
  have hsel : noSel o = true := by
    unfold noSel; split
    · rename_i h; exact absurd h (k2 _ _)
    · rfl
  cases hwt : wantF V.ops o (ovr V.N (fnOf a) (mstL V V.ops cs 0 st0 i).ρ) with
  | true =>
    simp only [if_true]
    have hst := (hrun.1 hwt).congr (ops := V.ops) hsel hlook
    exact .inl (Step.wp hst fun v w' ⟨Γ'', h1, h2, h3⟩ => ⟨_, _, next v w' Γ'' h1 h3 h2, by simp⟩)
  | false =>
    obtain ⟨h1, h2⟩ := hrun.2 hwt
    exact ⟨_, _, next undef w Γ' (V.rl_refl _) h2 h1, by simp⟩

theorem MInv.fin (hc : MChain V Q 0 V.ops cs st0) (inv : MInv V st0 cs listed a w done Γ') (hall : ∀ i, i < V.ops.length → i ∈ done) : Q (fnOf a) w := by
  have hfin := hc.final
  obtain ⟨p, hp, hwd⟩ := inv.wd
  have hρ : fnOf a = ovr V.N (fnOf a) (mstL V V.ops cs 0 st0 V.ops.length).ρ := by
    funext t
    by_cases hN : t ∈ V.N
    · rw [ovr_in hN]
    · rw [ovr_out hN]
      exact inv.sat_at hc hN (Nat.le_refl _) (fun j hj _ _ _ => hall j hj) (fun j hj _ _ _ => inv.lt j hj)
  rw [hρ]
  refine hfin Γ' w (fnOf a) inv.le ?_
  have : cellsOf V (List.range V.stab.length) (mstL V V.ops cs 0 st0 V.ops.length).M (fnOf a) = (List.range V.stab.length).flatMap fun x => (mstL V V.ops cs 0 st0 (p x)).M x (ovr (V.s x) (fnOf a) noFr) := flatMap_congr' fun x _ => by
    have := mM_const hc (p := p x) (x := x) (V.ops.length - p x) (by have := (hp x).1; omega) (fun j h1 h2 hj => by
      have hjl : j < V.ops.length := by have := (hp x).1; omega
      have := ((hp x).2 j hj hjl).1 (hall j hjl)
      omega)
    rw [show p x + (V.ops.length - p x) = V.ops.length from by have := (hp x).1; omega] at this
    rw [this]
  rw [this]
  exact hwd

theorem m_all_of_not_ready (hk : checkM V.n V.ops V.wr V.tc V.stab = true) (inv : MInv V st0 cs listed a w done Γ') (h : Region.ready .any V.ops.toArray listed = []) : ∀ i, i < V.ops.length → i ∈ done := by
  intro i
  induction i using Nat.strongRecOn with
  | _ i ih =>
    intro hi
    refine Classical.byContradiction fun hn => ?_
    have hmem : i ∈ Region.ready .any V.ops.toArray listed := mem_ready.2 ⟨?_, V.ops[i], by simp [hi], fun e he hb => ?_⟩
    · rw [h] at hmem; cases hmem
    · cases hb : listed.getD i true with
      | false => rfl
      | true => exact absurd ((inv.ls i hi).1 hb) hn
    · have h1 := (checkM_at hk (List.getElem?_eq_getElem hi)).1 e he hb
      have h2 := (inv.ls e.on (by omega)).2 (ih e.on h1 (by omega))
      have h3 : e.on < listed.size := by rw [inv.lsz]; omega
      simp only [Array.getD_eq_getD_getElem?, Array.getElem?_eq_getElem h3, Option.getD_some] at h2 ⊢
      exact h2

theorem MInv.any {QQ : Exit → Fr → World → Prop} (hc : MChain V (fun ρ w => QQ .normal ρ w) 0 V.ops cs st0) (hk : checkM V.n V.ops V.wr V.tc V.stab = true) :
    ∀ (fuel : Nat) (listed : Array Bool) (a : Act) (w : World) (done : List Nat) (Γ' : Gho), MInv V st0 cs listed a w done Γ' → fuel + done.length = V.ops.length → wpAny V.P .any V.ops.toArray (lift V.n QQ) fuel listed a w
  | 0, listed, a, w, done, Γ', inv, hf => by
    have hall : ∀ i, i < V.ops.length → i ∈ done := by
      intro i hi
      refine Classical.byContradiction fun hn => ?_
      have := nodup_le V.ops.length (i :: done) (List.nodup_cons.2 ⟨hn, inv.nd⟩) (fun x hx => by
        rcases List.mem_cons.1 hx with rfl | hx
        · exact hi
        · exact inv.lt x hx)
      simp at this; omega
    refine ⟨?_, inv.defers, inv.size, inv.fin hc hall⟩
    refine List.eq_nil_iff_forall_not_mem.2 fun i hi => ?_
    obtain ⟨hun, o, ho, _⟩ := mem_ready.1 hi
    have hil : i < V.ops.length := by have := (Array.getElem?_eq_some_iff.1 ho).1; simpa using this
    rw [(inv.ls i hil).2 (hall i hil)] at hun; cases hun
  | fuel + 1, listed, a, w, done, Γ', inv, hf => by
    refine ⟨fun h => ⟨inv.defers, inv.size, inv.fin hc (m_all_of_not_ready hk inv h)⟩, fun i hi => ?_⟩
    refine wpOp_mono ?_ (inv.step hc hk hi).1
    rintro a' w' ⟨done', Γ'', inv', hl⟩
    exact MInv.any hc hk fuel _ a' w' done' Γ'' inv' (by omega)
end
end

/-- **A region that draws its order and changes memory.** K stays; the cells M may change. -/
theorem W_mix {P : Program} {n id : Nat} {l : List Oper} {Q : Exit → Fr → World → Prop} {ρ : Fr} {w : World} {Γ : Gho} (K : List Res) (M : Nat → Fr → List Res) (wr tc stab : List (List Nat)) (fixed : Bool) (hm : P.follows .mixedOrders = true)
    (hk : checkM n l wr tc stab = true) (hw : Wd Γ (K ++ cellsOf ⟨P, n, l, Γ, K, wr, tc, stab, fixed⟩ (List.range stab.length) M ρ) w) (h : MSw ⟨P, n, l, Γ, K, wr, tc, stab, fixed⟩ (fun ρ w => Q .normal ρ w) 0 l ⟨ρ, M⟩) : W P n (.region id l.toArray true) Q ρ w := by
  unfold W
  intro a hda hs hf
  refine wp_region_any hm ?_
  obtain ⟨cs, hc⟩ := h.chain
  have inv : MInv ⟨P, n, l, Γ, K, wr, tc, stab, fixed⟩ ⟨ρ, M⟩ cs (Array.replicate l.toArray.size false) a { w with drawn := w.drawn + 1 } [] Γ := by
    refine ⟨hda, hs, by simp, by simp, by simp, fun i hi => ?_, fun _ _ _ h => by simp at h, MEnv.rl_refl _, fun t _ _ => by rw [hf], by simp, fun _ => 0, fun x => ⟨Nat.zero_le _, by simp⟩, ?_⟩
    · have : i < l.length := hi
      simp [this]
    · simp only [mstL_zero, hf]
      exact hw.drawn
  exact MInv.any hc hk _ _ a _ [] Γ inv (by simp)
end Mk
