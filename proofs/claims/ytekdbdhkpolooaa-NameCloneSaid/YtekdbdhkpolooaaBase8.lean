/- Quiet regions; loads by what is known; '==' at flat structs. -/
import Derived.Test.YtekdbdhkpolooaaBase7
open Go
namespace Mk

/-! ### quiet regions -/
abbrev qV (P : Program) (n : Nat) (ops : List Oper) (Γ : Gho) (S : List Res) : Env := ⟨P, n, ops, Γ, S, [], [], true⟩
def Qw (P : Program) (n : Nat) (ops : List Oper) (Γ : Gho) (S : List Res) (Q : Fr → World → Prop) (l : List Oper) (ρ : Fr) : Prop :=
  ∀ i, Sw (qV P n ops Γ S) Q i l ⟨ρ, [], [], []⟩
def quietOK (n : Nat) (l : List Oper) : Bool := checkR l [] [] && l.all fun o => okDst n o.dst

section
variable {P : Program} {n : Nat} {ops : List Oper} {Γ : Gho} {S : List Res} {Q : Fr → World → Prop} {ρ : Fr} {w : World} {rest : List Oper} {o : Oper}

theorem W_quiet {id : Nat} {l : List Oper} {QQ : Exit → Fr → World → Prop} (hm : P.follows .mixedOrders = true) (hk : quietOK n l = true) (hw : Wd Γ S w) (h : Qw P n l Γ S (fun ρ w => QQ .normal ρ w) l ρ) :
    W P n (.region id l.toArray true) QQ ρ w := by
  simp only [quietOK, Bool.and_eq_true] at hk
  exact W_draw (K := S) (M := []) [] [] true hm (by simpa using hw) hk.1 hk.2 (h 0)

theorem Q_nil (h : ∀ w, Wd Γ S w → Q ρ w) : Qw P n ops Γ S Q [] ρ := fun i => by
  intro Γ' w ρ' hΓ hs hw
  have hΓ' : Γ' = Γ := hΓ
  subst hΓ'
  have : ρ' = ρ := funext fun t => by have := hs t; unfold sat at this; simpa using this
  subst this
  exact h w (by simpa [prodL] using hw)

theorem Wd.left {S' : List Res} (h : Wd Γ (S ++ S') w) : Wd Γ S w := by
  obtain ⟨bss, h1, h2, h3⟩ := h.own
  obtain ⟨a, b, rfl, g1, _⟩ := Holds.split S S' bss h1
  simp only [List.flatten_append, List.nodup_append] at h2
  exact ⟨h.os, h.tape, h.out, h.dr, h.imm, a, g1, h2.1, fun x hx => h3 x (by simp at hx ⊢; exact .inl hx)⟩

theorem Qw.cons {v : Value} (hn : ∀ Y w, Wd Γ (S ++ Y) w → ∀ ρ', (∀ t ∈ looks ops o, ρ' t = ρ t) → (wantF ops o ρ' = true → Step P o ρ' w fun u w' => u = v ∧ Wd Γ (S ++ Y) w') ∧ (wantF ops o ρ' = false → v = undef)) (h : Qw P n ops Γ S Q rest (putO ρ o.dst v)) :
    Qw P n ops Γ S Q (o :: rest) ρ := fun i => by
  refine ⟨⟨fun u _ => u = v, fun _ => [], none, some v, false⟩, ⟨fun _ _ _ _ h => h, fun u X _ hX hu => (by cases hX; exact hu), fun h => (by cases h), fun _ _ => rfl, fun h => (by cases h), ?_⟩, ?_⟩
  · intro Γ' Y w ρ' hΓ hw hs
    have hΓ' : Γ' = Γ := hΓ
    subst hΓ'
    have hs' : ∀ t ∈ looks ops o, ρ' t = ρ t := fun t ht => by have := hs t ht; unfold sat at this; simpa using this
    obtain ⟨h1, h2⟩ := hn Y w (by simpa using hw) ρ' hs'
    refine ⟨fun hwt => (h1 hwt).mono fun u w' ⟨hu, hw'⟩ => ⟨Γ', rfl, by simpa using hw', hu⟩, fun hwt => ⟨(h2 hwt).symm, rfl, rfl⟩⟩
  · have : St.next ⟨ρ, [], [], []⟩ o ⟨fun u _ => u = v, fun _ => [], none, some v, false⟩ = ⟨putO ρ o.dst v, [], [], []⟩ := by
      cases hd : o.dst <;> simp [St.next, hd, dropE]
    rw [this]
    exact h (i + 1)

def noSel (o : Oper) : Bool := match o.op with | .select _ _ => false | _ => true
theorem ev_eq {ρ ρ' : Fr} (hs : ∀ t ∈ looks ops o, ρ' t = ρ t) : ∀ x ∈ o.op.operands, ev ρ' x = ev ρ x := fun x hx => by
  cases x with
  | tmp t => exact hs t (List.mem_append_left _ (List.mem_filterMap.2 ⟨.tmp t, by simpa using hx, rfl⟩))
  | _ => rfl
theorem Step.congr {ρ' : Fr} {K : Value → World → Prop} (hsel : noSel o = true) (hs : ∀ t ∈ looks ops o, ρ' t = ρ t) (h : Step P o ρ w K) : Step P o ρ' w K := by
  have := execOp_congr o (fun cs b e => by simp [noSel, e] at hsel) (ev_eq hs)
  unfold Step at *
  rw [this]
  exact h

theorem wantF_none {ρ : Fr} (hg : o.guard = none) : wantF ops o ρ = true := by simp [wantF, hg]

theorem Q_c {v : Value} (hg : o.guard = none) (hsel : noSel o = true) (hy : ∀ Y w, Wd Γ (S ++ Y) w → Step P o ρ w fun u w' => u = v ∧ Wd Γ (S ++ Y) w') (h : Qw P n ops Γ S Q rest (putO ρ o.dst v)) : Qw P n ops Γ S Q (o :: rest) ρ :=
  Qw.cons (fun Y w hw ρ' hs => ⟨fun _ => (hy Y w hw).congr hsel hs, fun hf => by rw [wantF_none hg] at hf; cases hf⟩) h
theorem Q_y {v : Value} (hg : o.guard = none) (hsel : noSel o = true) (hy : ∀ w, Wd Γ S w → Yields P o ρ w v) (h : Qw P n ops Γ S Q rest (putO ρ o.dst v)) : Qw P n ops Γ S Q (o :: rest) ρ :=
  Q_c hg hsel (fun _ _ hw => (hy _ hw.left).step ⟨rfl, hw⟩) h
theorem Q_gc {j dj : Nat} {want c : Bool} {v : Value} (hg : o.guard = some (j, want)) (hj : (ops[j]?).bind (·.dst) = some dj) (hc : GuardIs (ρ dj) want c) (hsel : noSel o = true)
    (hy : c = true → ∀ Y w, Wd Γ (S ++ Y) w → Step P o ρ w fun u w' => u = v ∧ Wd Γ (S ++ Y) w') (h : Qw P n ops Γ S Q rest (putO ρ o.dst (gv c v))) : Qw P n ops Γ S Q (o :: rest) ρ := by
  refine Qw.cons (v := gv c v) (fun Y w hw ρ' hs => ?_) h
  have hdj : ρ' dj = ρ dj := hs dj (List.mem_append_right _ (by simp only [hg]; simpa using hj))
  have hwt : wantF ops o ρ' = c := by
    have h2 : (saysB (ρ dj) == some want) = c := by have := hc; unfold GuardIs at this; exact this
    simp only [wantF, hg, hj, hdj]
    exact h2
  rw [hwt]
  refine ⟨fun hct => ?_, fun hcf => ?_⟩
  · exact ((hy hct Y w hw).congr hsel hs).mono fun u w' ⟨hu, hw'⟩ => ⟨by rw [hu, hct]; unfold gv; rfl, hw'⟩
  · rw [hcf]; unfold gv; rfl
theorem Q_gy {j dj : Nat} {want c : Bool} {v : Value} (hg : o.guard = some (j, want)) (hj : (ops[j]?).bind (·.dst) = some dj) (hc : GuardIs (ρ dj) want c) (hsel : noSel o = true)
    (hy : c = true → ∀ w, Wd Γ S w → Yields P o ρ w v) (h : Qw P n ops Γ S Q rest (putO ρ o.dst (gv c v))) : Qw P n ops Γ S Q (o :: rest) ρ :=
  Q_gc hg hj hc hsel (fun hct _ _ hw => (hy hct _ hw.left).step ⟨rfl, hw⟩) h

/-! ### loads -/
variable {d : Option Tmp} {T U ty : TypeId} {pos : String} {es : Array Edge} {g : Option (Nat × Bool)} {x y z : Operand}
theorem g_bin {op : BinOp} {v : Value} (h : Yields P ⟨d, .binOp op T x y U, ty, pos, es, g⟩ ρ w v) : Yields P ⟨d, .binOp op T x y U, ty, pos, es, g⟩ ρ w v := h
theorem g_load {v : Value} (h : Yields P ⟨d, .load T x, ty, pos, es, g⟩ ρ w v) : Yields P ⟨d, .load T x, ty, pos, es, g⟩ ρ w v := h
theorem g_idx {v : Value} (h : Yields P ⟨d, .indexAddr T x y, ty, pos, es, g⟩ ρ w v) : Yields P ⟨d, .indexAddr T x y, ty, pos, es, g⟩ ρ w v := h
theorem g_call {bi : Builtin} {as : Array Operand} {ts : Array TypeId} {v : Value} (h : Yields P ⟨d, .call { callee := .builtin bi, args := as, argTypes := ts }, ty, pos, es, g⟩ ρ w v) : Yields P ⟨d, .call { callee := .builtin bi, args := as, argTypes := ts }, ty, pos, es, g⟩ ρ w v := h
theorem m_op (op : BinOp) {v : Value} (h : Yields P ⟨d, .binOp op T x y U, ty, pos, es, g⟩ ρ w v) : Yields P ⟨d, .binOp op T x y U, ty, pos, es, g⟩ ρ w v := h
theorem m_loadS [TS P T] {v : Value} (h : Yields P ⟨d, .load T x, ty, pos, es, g⟩ ρ w v) : Yields P ⟨d, .load T x, ty, pos, es, g⟩ ρ w v := h
theorem m_loadA {k : Nat} [TA P T k] {v : Value} (h : Yields P ⟨d, .load T x, ty, pos, es, g⟩ ρ w v) : Yields P ⟨d, .load T x, ty, pos, es, g⟩ ρ w v := h
theorem m_move {v : Value} (h : Yields P ⟨d, .move x, ty, pos, es, g⟩ ρ w v) : Yields P ⟨d, .move x, ty, pos, es, g⟩ ρ w v := h
theorem m_assign {v : Value} (h : Yields P ⟨d, .assign x, ty, pos, es, g⟩ ρ w v) : Yields P ⟨d, .assign x, ty, pos, es, g⟩ ρ w v := h
theorem m_lookup {ok : Bool} {v : Value} (h : Yields P ⟨d, .lookup T x y ok, ty, pos, es, g⟩ ρ w v) : Yields P ⟨d, .lookup T x y ok, ty, pos, es, g⟩ ρ w v := h
theorem m_slice {l h' mx : Option Operand} {v : Value} (h : Yields P ⟨d, .slice T x l h' mx, ty, pos, es, g⟩ ρ w v) : Yields P ⟨d, .slice T x l h' mx, ty, pos, es, g⟩ ρ w v := h
theorem m_pick {v : Value} (h : Yields P ⟨d, .pick x y z, ty, pos, es, g⟩ ρ w v) : Yields P ⟨d, .pick x y z, ty, pos, es, g⟩ ρ w v := h
theorem m_not {v : Value} (h : Yields P ⟨d, .unOp .not T x, ty, pos, es, g⟩ ρ w v) : Yields P ⟨d, .unOp .not T x, ty, pos, es, g⟩ ρ w v := h
theorem m_conv {v : Value} (h : Yields P ⟨d, .convert T U x, ty, pos, es, g⟩ ρ w v) : Yields P ⟨d, .convert T U x, ty, pos, es, g⟩ ρ w v := h
theorem m_neg {v : Value} (h : Yields P ⟨d, .unOp .neg T x, ty, pos, es, g⟩ ρ w v) : Yields P ⟨d, .unOp .neg T x, ty, pos, es, g⟩ ρ w v := h
theorem m_field {f : Nat} {v : Value} (h : Yields P ⟨d, .fieldAddr T x f, ty, pos, es, g⟩ ρ w v) : Yields P ⟨d, .fieldAddr T x f, ty, pos, es, g⟩ ρ w v := h
theorem m_extract {i : Nat} {v : Value} (h : Yields P ⟨d, .extract x i, ty, pos, es, g⟩ ρ w v) : Yields P ⟨d, .extract x i, ty, pos, es, g⟩ ρ w v := h
theorem m_nil {v : Value} (h : Yields P ⟨d, .nilCheck x, ty, pos, es, g⟩ ρ w v) : Yields P ⟨d, .nilCheck x, ty, pos, es, g⟩ ρ w v := h
theorem m_build {ps : Array (Nat × Operand)} {v : Value} (h : Yields P ⟨d, .build T ps, ty, pos, es, g⟩ ρ w v) : Yields P ⟨d, .build T ps, ty, pos, es, g⟩ ρ w v := h
theorem m_index {v : Value} (h : Yields P ⟨d, .index T x y, ty, pos, es, g⟩ ρ w v) : Yields P ⟨d, .index T x y, ty, pos, es, g⟩ ρ w v := h
theorem L_plain {n : Nat} {opa : Array Oper} {QQ : Exit → Fr → World → Prop} {rest : List Oper} {op : Op} (h : L P n opa QQ (⟨d, op, ty, pos, es, none⟩ :: rest) ρ w) : L P n opa QQ (⟨d, op, ty, pos, es, none⟩ :: rest) ρ w := h
theorem L_guarded {n : Nat} {opa : Array Oper} {QQ : Exit → Fr → World → Prop} {rest : List Oper} {op : Op} {q : Nat × Bool} (h : L P n opa QQ (⟨d, op, ty, pos, es, some q⟩ :: rest) ρ w) : L P n opa QQ (⟨d, op, ty, pos, es, some q⟩ :: rest) ρ w := h
theorem L_go {n : Nat} {opa : Array Oper} {QQ : Exit → Fr → World → Prop} {rest : List Oper} {f : Nat} {as : Array Operand} {ts : Array TypeId} (h : L P n opa QQ (⟨d, .call { callee := .value (.func f), args := as, argTypes := ts }, ty, pos, es, g⟩ :: rest) ρ w) : L P n opa QQ (⟨d, .call { callee := .value (.func f), args := as, argTypes := ts }, ty, pos, es, g⟩ :: rest) ρ w := h
theorem L_mf {n : Nat} {opa : Array Oper} {QQ : Exit → Fr → World → Prop} {rest : List Oper} {f : Fn} {as cs : Array Operand} (h : L P n opa QQ (⟨d, .makeFunc f as cs, ty, pos, es, g⟩ :: rest) ρ w) : L P n opa QQ (⟨d, .makeFunc f as cs, ty, pos, es, g⟩ :: rest) ρ w := h
theorem Q_plain {n : Nat} {ops : List Oper} {Q : Fr → World → Prop} {rest : List Oper} {op : Op} (h : Qw P n ops Γ S Q (⟨d, op, ty, pos, es, none⟩ :: rest) ρ) : Qw P n ops Γ S Q (⟨d, op, ty, pos, es, none⟩ :: rest) ρ := h
theorem Q_guarded {n : Nat} {ops : List Oper} {Q : Fr → World → Prop} {rest : List Oper} {op : Op} {q : Nat × Bool} (h : Qw P n ops Γ S Q (⟨d, op, ty, pos, es, some q⟩ :: rest) ρ) : Qw P n ops Γ S Q (⟨d, op, ty, pos, es, some q⟩ :: rest) ρ := h
theorem Q_go {n : Nat} {ops : List Oper} {Q : Fr → World → Prop} {rest : List Oper} {f : Nat} {as : Array Operand} {ts : Array TypeId} (h : Qw P n ops Γ S Q (⟨d, .call { callee := .value (.func f), args := as, argTypes := ts }, ty, pos, es, g⟩ :: rest) ρ) : Qw P n ops Γ S Q (⟨d, .call { callee := .value (.func f), args := as, argTypes := ts }, ty, pos, es, g⟩ :: rest) ρ := h
theorem y_lenS [h : TStr P T] {s : ByteArray} (hx : ev ρ x = .string s) : Yields P ⟨d, .call { callee := .builtin .len, args := #[x], argTypes := #[T] }, ty, pos, es, g⟩ ρ w (.int .i64 s.size) := y_lens hx h.h
theorem y_lenL {E sz by' : Nat} {zs : List Value} [h : TL P T E sz by' zs] {a : Option Addr} {m c : Nat} (hx : ev ρ x = .slice a m c) : Yields P ⟨d, .call { callee := .builtin .len, args := #[x], argTypes := #[T] }, ty, pos, es, g⟩ ρ w (.int .i64 m) := y_lensl hx h.h
theorem y_idxS [h : TStr P T] {s : ByteArray} {i : Int} {k : IntKind} (hx : ev ρ x = .string s) (hy : ev ρ y = .int k i) (h0 : 0 ≤ i) (h1 : i < s.size) : Yields P ⟨d, .index T x y, ty, pos, es, g⟩ ρ w (.int .u8 (s.data.toList.getD i.toNat 0).toNat) := y_index h.h hx hy h0 h1
theorem y_eqB [h : TBool P T] {a b : Bool} (hx : ev ρ x = .bool a) (hy : ev ρ y = .bool b) : Yields P ⟨d, .binOp .eql T x y U, ty, pos, es, g⟩ ρ w (.bool (a == b)) := y_eqlb h.h hx hy
theorem y_l1b {i b k : Nat} {v : Value} {cs : Array Value} {E : TypeId} {fr : Nat × Nat} [TS P T] (hw : Wd Γ S w) (hx : ev ρ x = .pointer (some ⟨b, k, none⟩)) (hi : S[i]? = some (.blk b (.cells cs E fr))) (hv : cs[k]? = some v) :
    Yields P ⟨d, .load T x, ty, pos, es, g⟩ ρ w v := y_load1 hx (cell_of (hw.at_blk hi) hv)
theorem y_lwb {i b m : Nat} {cs : Array Value} {E : TypeId} {fr : Nat × Nat} [TA P T m] (hw : Wd Γ S w) (hx : ev ρ x = .pointer (some ⟨b, 0, none⟩)) (hi : S[i]? = some (.blk b (.cells cs E fr))) (hm : cs.size = m) :
    Yields P ⟨d, .load T x, ty, pos, es, g⟩ ρ w (.agg cs) := by
  have h := y_loadn (P := P) (w := w) (T := T) (d := d) (ty := ty) (pos := pos) (es := es) (g := g) (cs := cs.toList) hx (by simpa using hm) (by have := range_of (o := 0) (n := cs.size) (hw.at_blk hi); simpa using this)
  simpa using h
theorem y_lpb {i b k m : Nat} {cs : Array Value} {vs : List Value} {E : TypeId} {fr : Nat × Nat} [TA P T m] (hw : Wd Γ S w) (hx : ev ρ x = .pointer (some ⟨b, k, none⟩)) (hi : S[i]? = some (.blk b (.cells cs E fr))) (hm : (cs.toList.drop k).take m = vs) (hl : vs.length = m) :
    Yields P ⟨d, .load T x, ty, pos, es, g⟩ ρ w (.agg vs.toArray) := by
  refine y_loadn hx hl ?_
  have := range_of (o := k) (n := m) (hw.at_blk hi)
  have he : (cs.extract k (k + m)).toList = vs := by rw [← hm]; simp
  rwa [he] at this
theorem y_idxI {E sz by' : Nat} {zs : List Value} {a : Option Addr} {m c : Nat} {k : IntKind} {i : Int} {rows : List (List Value)} [hT : TL P T E sz by' zs] (hw : Wd Γ S w) (hr : RepS Γ (.slice a m c) sz rows) (hx : ev ρ x = .slice a m c) (hy : ev ρ y = .int k i) (h0 : 0 ≤ i) (h1 : i < m) :
    Yields P ⟨d, .indexAddr T x y, ty, pos, es, g⟩ ρ w (.pointer (some ⟨aB a, aO a + i.toNat * sz, none⟩)) := by
  refine y_indexAddr hx hy h0 h1 ((hr.rd hw).at_ ?_)
  obtain ⟨_, _, _, e1, e2, _⟩ := hr.shape
  cases e1; omega
theorem y_idxO {E sz by' j : Nat} {e : Nat} {zs : List Value} {a : Option Addr} {m c : Nat} {k : IntKind} {i : Int} {rows : List (List Value)} [hT : TL P T E sz by' zs] (hw : Wd Γ S w) (hr : S[j]? = some (.own (.slice a m c) e sz rows)) (hx : ev ρ x = .slice a m c) (hy : ev ρ y = .int k i) (h0 : 0 ≤ i) (h1 : i < m) :
    Yields P ⟨d, .indexAddr T x y, ty, pos, es, g⟩ ρ w (.pointer (some ⟨aB a, aO a + i.toNat * sz, none⟩)) := by
  refine y_indexAddr hx hy h0 h1 ((hw.own_rd hr).at_ ?_)
  obtain ⟨_, _, _, e1, e2, _⟩ := hw.own_shape hr
  cases e1; omega
end

/-! ### '==' at flat structs -/
def kIx : IntKind → Nat
  | .i8 => 2 | .i16 => 3 | .i32 => 4 | .i64 => 5 | .u8 => 6 | .u16 => 7 | .u32 => 8 | .u64 => 9
def kOf : Value → Option Nat
  | .bool _ => some 0
  | .string _ => some 1
  | .int k _ => some (kIx k)
  | _ => none
def kT : TypeDesc → Option Nat
  | .bool => some 0
  | .string => some 1
  | .int k => some (kIx k)
  | _ => none
def eqFs (P : Program) (f : TypeId → Option (List Nat)) : List Field → Nat → Option (List Nat)
  | [], _ => some []
  | x :: xs, o => if x.name = "_" then none else if x.offset ≠ o then none else
    match f x.type, (P.info? x.type).map (·.size), eqFs P f xs (o + ((P.info? x.type).map (·.size)).getD 0) with
    | some ks, some n, some rest => if ks.length = n then some (ks ++ rest) else none
    | _, _, _ => none
def eqK (P : Program) : Nat → TypeId → Option (List Nat)
  | 0, _ => none
  | d + 1, t => match P.underlying t with
    | some (.struct fs) => if P.stoodInHeld t then none else eqFs P (eqK P d) fs.toList 0
    | some u => match kT u with
      | some k => if ((P.info? t).map (·.size)) = some 1 then some [k] else none
      | none => none
    | none => none
class TEq (P : Program) (T : TypeId) (ks : outParam (List Nat)) : Prop where
  h : eqK P 5 T = some ks
  g : P.eqGuardType P.depth T = false
  s : (match P.underlying T with | some (.struct _) => true | _ => false) = true
attribute [irreducible] Qw
end Mk
