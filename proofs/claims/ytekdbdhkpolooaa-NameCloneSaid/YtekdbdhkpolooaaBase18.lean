/- Ranging over maps, and over functions: rounds, yields. -/
import Derived.Test.YtekdbdhkpolooaaBase17
import Derived.RangeFuncRecord
import Derived.Maps.RangeRun
open Go
open Go.ChangeMaps (setBlock)
namespace Mk

/-! ### ranging over a map -/
section
variable {P : Program} {Γ : Gho} {S : List Res} {w : World} {ρ : Fr} {K : Value → World → Prop}
variable {d : Option Tmp} {T ty : TypeId} {pos : String} {es : Array Edge} {g : Option (Nat × Bool)} {x y z : Operand}

theorem Wd.openMp {b : Nat} {l : List (Value × Value)} (h : Wd Γ (.mp b l :: S) w) : ∃ en clock, Wd Γ (.blk b (.map en clock) :: S) w ∧ en.toList.map (fun e => (e.key, e.val)) = l ∧ (en.toList.map (·.born)).Nodup ∧ ∀ e ∈ en.toList, e.born < clock := by
  obtain ⟨en, clock, h1, h2, h3, h4⟩ := h.at_mp (i := 0) rfl
  refine ⟨en, clock, ?_, h2, h3, h4⟩
  have := h.upd (i := 0) (r' := .blk b (.map en clock)) rfl ⟨rfl, rfl, rfl, Nat.le_refl _, Nat.le_refl _⟩ (w' := w) fun bs hr hnd hlt => by
    unfold Res.mp at hr
    obtain ⟨rfl, _⟩ := hr
    exact ⟨[b], by unfold Res.blk; exact ⟨rfl, h1⟩, by simp, fun k hk => ⟨hlt k hk, .inl hk⟩, fun _ _ _ => rfl⟩
  exact this
theorem Wd.closeMp {b clock : Nat} {en : Array MapEntry} {l : List (Value × Value)} (h : Wd Γ (.blk b (.map en clock) :: S) w) (h2 : en.toList.map (fun e => (e.key, e.val)) = l) (h3 : (en.toList.map (·.born)).Nodup) (h4 : ∀ e ∈ en.toList, e.born < clock) : Wd Γ (.mp b l :: S) w := by
  have h1 := h.at_blk (i := 0) rfl
  have := h.upd (i := 0) (r' := .mp b l) rfl ⟨rfl, rfl, rfl, Nat.le_refl _, Nat.le_refl _⟩ (w' := w) fun bs hr hnd hlt => by
    unfold Res.blk at hr
    obtain ⟨rfl, _⟩ := hr
    exact ⟨[b], by unfold Res.mp; exact ⟨rfl, en, clock, h1, h2, h3, h4⟩, by simp, fun k hk => ⟨hlt k hk, .inl hk⟩, fun _ _ _ => rfl⟩
  exact this

theorem s_range {bm clock i : Nat} {en : Array MapEntry} {KT ET : TypeId} [hM : TMap P T KT ET] (hw : Wd Γ S w) (hx : ev ρ x = .map (some bm)) (hi : S[i]? = some (.blk bm (.map en clock)))
    (hk : ∀ r w', Wd Γ (.blk r (.mapIter (some bm) clock #[] clock) :: S) w' → K (.pointer (some ⟨r, 0, none⟩)) w') : Step P ⟨d, .range T x, ty, pos, es, g⟩ ρ w K := by
  have hb := hw.at_blk hi
  have hr : (execOp (ev ρ) ⟨d, .range T x, ty, pos, es, g⟩).run P w = .ok (.value (.pointer (some ⟨w.heap.size, 0, none⟩))) (w.alloc (.mapIter (some bm) clock #[] clock)) := by
    simp [execOp, Instr.range, hx, run_underlying hM.h, run_getObj_map hb, Sem.run_bind, run_newObj_alloc]
  have hfin := hk _ _ (hw.alloc (.mapIter (some bm) clock #[] clock))
  unfold Step; rw [hr]; exact hfin
theorem setBlock_at {w : World} {r : Nat} {o : Obj} (h : r < w.heap.size) : (setBlock w r o).heap[r]? = some o := by simp [setBlock, h]
theorem setBlock_ne {w : World} {r k : Nat} {o : Obj} (h : k ≠ r) : (setBlock w r o).heap[k]? = w.heap[k]? := by simp [setBlock, Array.getElem?_setIfInBounds, Ne.symm h]
theorem s_next {r bm since c0 clock i j : Nat} {seen : Array Nat} {en : Array MapEntry} (hw : Wd Γ S w) (hx : ev ρ x = .pointer (some ⟨r, 0, none⟩)) (hi : S[i]? = some (.blk r (.mapIter (some bm) since seen c0))) (hj : S[j]? = some (.blk bm (.map en clock)))
    (hold : ∀ x ∈ en.toList, x.born < since) (hsc : since ≤ c0)
    (h0 : (leftOf en seen).size = 0 → K (.tuple #[.bool false]) w) (h1 : ∀ e w', e ∈ (leftOf en seen).toList → Wd Γ (S.set i (.blk r (.mapIter (some bm) since (seen.push e.born) clock))) w' → K (.tuple #[.bool true, e.key, e.val]) w') :
    Step P ⟨d, .next x false, ty, pos, es, g⟩ ρ w K := by
  have hr := hw.at_blk hi
  have hb := hw.at_blk hj
  unfold Step
  have hrun : (execOp (ev ρ) ⟨d, .next x false, ty, pos, es, g⟩).run P w = ((Instr.next (.pointer (some ⟨r, 0, none⟩)) false ty).run P w).andThen fun v w' => .ok (.value v) w' := by
    simp only [execOp, hx, Sem.run_bind]
    rfl
  rw [hrun]
  rcases run_next_at (P := P) w ty r bm since c0 seen en clock hr hb hold hsc with ⟨hz, he⟩ | ⟨e, hm, w1, hw1, he⟩
  · rw [he]; exact h0 hz
  · rw [he]
    have hwd : Wd Γ S w1 := by
      rcases hw1 with rfl | rfl
      · exact hw
      · exact hw.drew
    have hlt : r < w1.heap.size := (Array.getElem?_eq_some_iff.1 (hwd.at_blk hi)).1
    exact h1 e _ hm (hwd.set_blk hi ⟨rfl, rfl, rfl, Nat.le_refl _, by simp [setBlock]⟩ (setBlock_at hlt) fun k _ hne => setBlock_ne hne)
theorem y_entry {r bm since clock i j : Nat} {seen : Array Nat} {en : Array MapEntry} {e : MapEntry} (hw : Wd Γ S w) (hx : ev ρ x = .pointer (some ⟨r, 0, none⟩)) (hi : S[i]? = some (.blk r (.mapIter (some bm) since (seen.push e.born) clock))) (hj : S[j]? = some (.blk bm (.map en clock)))
    (he : e ∈ en.toList) (hn : (en.toList.map (·.born)).Nodup) : Yields P ⟨d, .entry x, ty, pos, es, g⟩ ρ w (.tuple #[e.key, e.val]) := by
  have := run_entry_at (P := P) w r bm since seen en clock e (hw.at_blk hi) (hw.at_blk hj) he hn
  unfold Yields
  simp only [execOp, hx, Sem.run_bind, this]
  rfl
end
section
variable {P : Program} {n : Nat} {opa : Array Oper} {Γ : Gho} {S : List Res} {QQ : Exit → Fr → World → Prop} {ρ : Fr} {w : World} {rest : List Oper}
variable {d : Option Tmp} {T ty : TypeId} {pos : String} {es : Array Edge} {x : Operand}
theorem lRange {bm clock i : Nat} {en : Array MapEntry} {KT ET : TypeId} [hM : TMap P T KT ET] (h : ∀ r w', Wd Γ (.blk r (.mapIter (some bm) clock #[] clock) :: S) w' → L P n opa QQ rest (putO ρ d (.pointer (some ⟨r, 0, none⟩))) w') (hw : Wd Γ S w := by exact hw) (hx : ev ρ x = .map (some bm) := by exact rfl) (hi : S[i]? = some (.blk bm (.map en clock)) := by first | exact (rfl : (_ : List Res)[0]? = _) | exact (rfl : (_ : List Res)[1]? = _) | exact (rfl : (_ : List Res)[2]? = _) | exact (rfl : (_ : List Res)[3]? = _) | exact (rfl : (_ : List Res)[4]? = _) | exact (rfl : (_ : List Res)[5]? = _) | exact (rfl : (_ : List Res)[6]? = _) | exact (rfl : (_ : List Res)[7]? = _)) (hd : okDst n d = true := by exact rfl) :
    L P n opa QQ (⟨d, .range T x, ty, pos, es, none⟩ :: rest) ρ w := L_step rfl hd (s_range hw hx hi h)
theorem lNext {r bm since c0 clock i j : Nat} {seen : Array Nat} {en : Array MapEntry}
    (h0 : (leftOf en seen).size = 0 → L P n opa QQ rest (putO ρ d (.tuple #[.bool false])) w) (h1 : ∀ e w', e ∈ (leftOf en seen).toList → Wd Γ (S.set i (.blk r (.mapIter (some bm) since (seen.push e.born) clock))) w' → L P n opa QQ rest (putO ρ d (.tuple #[.bool true, e.key, e.val])) w')
    (hold : ∀ x ∈ en.toList, x.born < since) (hsc : since ≤ c0) (hw : Wd Γ S w := by exact hw) (hx : ev ρ x = .pointer (some ⟨r, 0, none⟩) := by exact rfl) (hi : S[i]? = some (.blk r (.mapIter (some bm) since seen c0)) := by first | exact (rfl : (_ : List Res)[0]? = _) | exact (rfl : (_ : List Res)[1]? = _) | exact (rfl : (_ : List Res)[2]? = _) | exact (rfl : (_ : List Res)[3]? = _) | exact (rfl : (_ : List Res)[4]? = _) | exact (rfl : (_ : List Res)[5]? = _) | exact (rfl : (_ : List Res)[6]? = _) | exact (rfl : (_ : List Res)[7]? = _)) (hj : S[j]? = some (.blk bm (.map en clock)) := by first | exact (rfl : (_ : List Res)[0]? = _) | exact (rfl : (_ : List Res)[1]? = _) | exact (rfl : (_ : List Res)[2]? = _) | exact (rfl : (_ : List Res)[3]? = _) | exact (rfl : (_ : List Res)[4]? = _) | exact (rfl : (_ : List Res)[5]? = _) | exact (rfl : (_ : List Res)[6]? = _) | exact (rfl : (_ : List Res)[7]? = _)) (hd : okDst n d = true := by exact rfl) :
    L P n opa QQ (⟨d, .next x false, ty, pos, es, none⟩ :: rest) ρ w := L_step rfl hd (s_next hw hx hi hj hold hsc h0 h1)
theorem lEntry {r bm since clock i j : Nat} {seen : Array Nat} {en : Array MapEntry} {e : MapEntry} (h : L P n opa QQ rest (putO ρ d (.tuple #[e.key, e.val])) w) (he : e ∈ en.toList) (hn : (en.toList.map (·.born)).Nodup)
    (hw : Wd Γ S w := by exact hw) (hx : ev ρ x = .pointer (some ⟨r, 0, none⟩) := by exact rfl) (hi : S[i]? = some (.blk r (.mapIter (some bm) since (seen.push e.born) clock)) := by first | exact (rfl : (_ : List Res)[0]? = _) | exact (rfl : (_ : List Res)[1]? = _) | exact (rfl : (_ : List Res)[2]? = _) | exact (rfl : (_ : List Res)[3]? = _) | exact (rfl : (_ : List Res)[4]? = _) | exact (rfl : (_ : List Res)[5]? = _) | exact (rfl : (_ : List Res)[6]? = _) | exact (rfl : (_ : List Res)[7]? = _)) (hj : S[j]? = some (.blk bm (.map en clock)) := by first | exact (rfl : (_ : List Res)[0]? = _) | exact (rfl : (_ : List Res)[1]? = _) | exact (rfl : (_ : List Res)[2]? = _) | exact (rfl : (_ : List Res)[3]? = _) | exact (rfl : (_ : List Res)[4]? = _) | exact (rfl : (_ : List Res)[5]? = _) | exact (rfl : (_ : List Res)[6]? = _) | exact (rfl : (_ : List Res)[7]? = _)) (hd : okDst n d = true := by exact rfl) :
    L P n opa QQ (⟨d, .entry x, ty, pos, es, none⟩ :: rest) ρ w := L_y rfl hd (y_entry hw hx hi hj he hn) h
end

/-- What is left of a map's entries when some have been seen: each round takes one away. -/
theorem left_mem {en : Array MapEntry} {seen : Array Nat} {e : MapEntry} : e ∈ (leftOf en seen).toList ↔ e ∈ en.toList ∧ e.born ∉ seen.toList := by
  unfold leftOf; simp

/-! ### functions that hand rounds to a loop -/
abbrev FR (ro : Option Nat) : Fence := { Fence.wide with round := ro }

def StepX (P : Program) (o : Oper) (ρ : Fr) (w : World) (K : Value → World → Prop) : Prop :=
  match (execOp (ev ρ) o).run P w with
  | .ok (.value v) w' => K v w'
  | .ok .skip w' => K undef w'
  | .ok (.enter f args) w' => Calls P f args w' fun e w'' => ∃ v, e = .returned v ∧ K v w''
  | .ok (.row row args) w' => Rows P row args w' K
  | .ok (.round l f tmps assign body) w' => RoundIn Fence.wide 0 P l f tmps assign body w' fun e w'' => ∃ v, e = .returned v ∧ K v w''
  | _ => False
section
attribute [local semireducible] Step L W
theorem Step.x {P : Program} {o : Oper} {ρ : Fr} {w : World} {K : Value → World → Prop} (h : Step P o ρ w K) : StepX P o ρ w K := by
  unfold Step at h
  unfold StepX
  split at h <;> simp_all

theorem calls_FR {P : Program} {ro : Option Nat} {n : Nat} {f : FuncId} {args : Array Value} {w : World} {R : Ending → World → Prop} (h : Calls P f args w R) : CallsIn (FR ro) n P f args w R := (callsIn_wide (n := n)).2 h
theorem rows_FR {P : Program} {ro : Option Nat} {n : Nat} {row : String} {args : Array Value} {w : World} {R : Value → World → Prop} (h : Rows P row args w R) : RowsIn (FR ro) n P row args w R := fun c cs _ => by
  obtain ⟨v, w', r, s⟩ := h c cs
  exact ⟨v, w', r, stepsIn_wide.2 s⟩
theorem round_FR {P : Program} {ro : Option Nat} {n l : Nat} {f : FuncId} {tmps : Array Value} {assign body : Code} {w : World} {R : Ending → World → Prop} (h : RoundIn Fence.wide 0 P l f tmps assign body w R) : RoundIn (FR ro) n P l f tmps assign body w R :=
  ⟨trivial, fun c cs _ => h.2 c cs (room_wide _)⟩

def notDefer (o : Oper) : Bool := match o.op with | .defer _ => false | _ => true
theorem StepX.upon {P : Program} {o : Oper} {ro : Option Nat} {a : Act} {w : World} {K : Value → World → Prop} {next : Act → World → Prop} {Q : Exit → Act → World → Prop} (hdf : notDefer o = true) (h : StepX P o (fnOf a) w K) (hk : ∀ v w, K v w → next (a.put o.dst v) w) :
    o.wpIn (FR ro) 0 P a w next Q := by
  refine ⟨fun _ _ => trivial, ?_⟩
  rw [Oper.semAt_eq _ _ _ (fun c hc => by simp [notDefer, hc] at hdf), eval_fnOf]
  unfold StepX at h
  generalize (execOp (ev (fnOf a)) o).run P w = r at *
  have hdep : ∀ (x : Nat), (FR ro).depth.isSome = true → 1 ≤ x := fun x hx => by simp [Fence.wide] at hx
  cases r with
  | ok x w' =>
    cases x <;> simp only [Oper.uponIn] at h ⊢ <;> first
      | exact hk _ _ h
      | exact ⟨hdep _, (calls_FR h).mono (fun e w'' he => by obtain ⟨v, rfl, hv⟩ := he; exact hk _ _ hv)⟩
      | exact ⟨hdep _, (rows_FR h).mono hk⟩
      | exact ⟨hdep _, (round_FR h).mono (fun e w'' he => by obtain ⟨v, rfl, hv⟩ := he; exact hk _ _ hv)⟩
      | exact h.elim
  | halt x w' => exact h.elim

def liftD (n : Nat) (ds : List Deferred) (Q : Exit → Fr → World → Prop) : Exit → Act → World → Prop := fun e a w => a.defers = ds ∧ a.tmps.size = n ∧ Q e (fnOf a) w
/-- As 'W', in a loop's round (ro), with deferred calls ds. -/
def WF (ro : Option Nat) (ds : List Deferred) (P : Program) (n : Nat) (c : Code) (Q : Exit → Fr → World → Prop) (ρ : Fr) (w : World) : Prop :=
  ∀ a : Act, a.defers = ds → a.tmps.size = n → fnOf a = ρ → c.wpIn (FR ro) 0 P (liftD n ds Q) a w
def LX (P : Program) (n : Nat) (Q : Exit → Fr → World → Prop) : List Oper → Fr → World → Prop
  | [], ρ, w => Q .normal ρ w
  | o :: l, ρ, w => (o.guard = none ∧ okDst n o.dst = true ∧ notDefer o = true) ∧ StepX P o ρ w fun v w' => LX P n Q l (putO ρ o.dst v) w'
variable {P : Program} {n : Nat} {Q : Exit → Fr → World → Prop} {ρ : Fr} {w : World} {ro : Option Nat} {ds : List Deferred}

theorem LX.ops {ops : Array Oper} : ∀ (l pre : List Oper) (ρ : Fr) (w : World) (a : Act), ops.toList = pre ++ l → a.defers = ds → a.tmps.size = n → fnOf a = ρ → LX P n Q l ρ w →
    wpOpsIn (FR ro) 0 P ops (liftD n ds Q) (List.range' pre.length l.length) a w
  | [], pre, ρ, w, a, ho, h1, h2, h3, h => ⟨h1, h2, h3 ▸ h⟩
  | o :: l, pre, ρ, w, a, ho, h1, h2, h3, h => by
    obtain ⟨⟨hg, hd, hdf⟩, hs⟩ := h
    have hoi : ops[pre.length]? = some o := by rw [← Array.getElem?_toList, ho]; simp
    simp only [List.length_cons, List.range'_succ, wpOpsIn, hoi]
    have hwn : Region.wanted o (yielded ops a.tmps) = true := by simp [Region.wanted, hg]
    rw [if_pos hwn]
    subst h3
    refine StepX.upon hdf hs fun v w' hv => ?_
    have := LX.ops l (pre ++ [o]) _ w' (a.put o.dst v) (by rw [ho]; simp) (by rw [defers_put]; exact h1) (by rw [size_put]; exact h2) (fnOf_putO a _ v (by rw [h2]; exact okDst_spec hd)) hv
    simpa using this
theorem WF_region {id : Nat} {l : List Oper} (h : LX P n Q l ρ w) : WF ro ds P n (.region id l.toArray false) Q ρ w := fun a h1 h2 h3 => by
  refine wpIn_region ?_
  have := LX.ops (ops := l.toArray) (ro := ro) (ds := ds) l [] ρ w a (by simp) h1 h2 h3 h
  simpa [List.range_eq_range'] using this
theorem WF_seq {x y : Code} (h : WF ro ds P n x (Then (WF ro ds P n y Q) Q) ρ w) : WF ro ds P n (.seq x y) Q ρ w := fun a hd hs hf =>
  wpIn_seq (wpIn_mono (h a hd hs hf) (fun e a w ⟨p, q, r⟩ => by cases e <;> first | exact r a p q rfl | exact ⟨p, q, r⟩))
theorem WF_block {id : Nat} {c : Code} (h : WF ro ds P n c (InBl id Q) ρ w) : WF ro ds P n (.block id c) Q ρ w := fun a hd hs hf =>
  wpIn_block (wpIn_mono (h a hd hs hf) (fun e a w ⟨p, q, r⟩ => by
    cases e <;> first | exact ⟨p, q, r⟩ | (simp only [InBl] at r; simp only [Exit.inBlock]; split <;> rename_i h <;> simp only [h, if_true, if_false] at r <;> exact ⟨p, q, r⟩)))
theorem WF_skip (h : Q .normal ρ w) : WF ro ds P n .skip Q ρ w := fun a hd hs hf => wpIn_skip ⟨hd, hs, hf ▸ h⟩
theorem WF_ret (h : Q .ret ρ w) : WF ro ds P n .ret Q ρ w := fun a hd hs hf => wpIn_ret ⟨hd, hs, hf ▸ h⟩
theorem WF.mono {c : Code} {Q' : Exit → Fr → World → Prop} (h : WF ro ds P n c Q ρ w) (hq : ∀ e ρ w, Q e ρ w → Q' e ρ w) : WF ro ds P n c Q' ρ w :=
  fun a hd hs hf => wpIn_mono (h a hd hs hf) fun e a w ⟨x, y, z⟩ => ⟨x, y, hq _ _ _ z⟩
/-- A region that hands on a round. -/
theorem W_regionX {id : Nat} {l : List Oper} (h : LX P n Q l ρ w) : W P n (.region id l.toArray false) Q ρ w := fun a h1 h2 h3 =>
  (wpIn_wide (n := 0)).1 (WF_region (ro := none) (ds := []) h a h1 h2 h3)

theorem LX_nil (h : Q .normal ρ w) : LX P n Q [] ρ w := h
theorem LX_step {o : Oper} {l : List Oper} (h : Step P o ρ w fun v w' => LX P n Q l (putO ρ o.dst v) w') (hg : o.guard = none := by exact rfl) (hd : okDst n o.dst = true := by exact rfl) (hf : notDefer o = true := by exact rfl) : LX P n Q (o :: l) ρ w := ⟨⟨hg, hd, hf⟩, h.x⟩
theorem xY {o : Oper} {l : List Oper} {v : Value} {Γ : Gho} {S : List Res} (h : LX P n Q l (putO ρ o.dst v) w) (hw : Wd Γ S w := by exact hw) (hg : o.guard = none := by exact rfl) (hd : okDst n o.dst = true := by exact rfl) (hf : notDefer o = true := by exact rfl) (hy : Yields P o ρ w v := by first | (apply m_move; exact y_move (by first | exact (rfl : _ = Value.int _ _) | exact (rfl : _ = Value.bool _) | exact (rfl : _ = Value.string _) | exact (rfl : _ = Value.slice _ _ _) | exact (rfl : _ = Value.pointer _) | exact (rfl : _ = Value.agg _) | exact (rfl : _ = Value.map _) | exact (rfl : _ = Value.tuple _) | exact (rfl : _ = Value.func _ _ _) | exact (rfl : _ = gv _ _) | exact rfl)) | (apply m_assign; exact y_assign (by first | exact (rfl : _ = Value.int _ _) | exact (rfl : _ = Value.bool _) | exact (rfl : _ = Value.string _) | exact (rfl : _ = Value.slice _ _ _) | exact (rfl : _ = Value.pointer _) | exact (rfl : _ = Value.agg _) | exact (rfl : _ = Value.map _) | exact (rfl : _ = Value.tuple _) | exact (rfl : _ = Value.func _ _ _) | exact (rfl : _ = gv _ _) | exact rfl)) | (apply g_bin; first | (apply m_op .eql; first | exact y_eql rfl rfl | exact y_eqls rfl rfl | exact y_eqT rfl rfl rfl | exact y_eqB rfl rfl | exact y_eqnS rfl rfl | exact y_eqnP rfl rfl | exact y_eqnM rfl rfl) | (apply m_op .lss; first | exact y_lss rfl rfl | exact y_lssS rfl rfl) | (apply m_op .neq; first | exact y_neq rfl rfl | exact y_neqs rfl rfl | exact y_neqT rfl rfl rfl | exact y_neqnS rfl rfl | exact y_neqnP rfl rfl) | (apply m_op .leq; first | exact y_leq rfl rfl | exact y_leqS rfl rfl) | (apply m_op .gtr; first | exact y_gtr rfl rfl | exact y_gtrS rfl rfl) | (apply m_op .geq; first | exact y_geq rfl rfl | exact y_geqS rfl rfl) | (apply m_op .add; first | exact y_add64 rfl rfl (by omega) (by omega) | exact y_add rfl rfl | exact y_addS rfl rfl (by omega)) | (apply m_op .sub; first | exact y_sub64 rfl rfl (by omega) (by omega) | exact y_sub rfl rfl) | (apply m_op .mul; first | exact y_mul64 rfl rfl (by omega) (by omega) | exact y_mul rfl rfl) | (apply m_op .rem; exact y_rem rfl rfl (by omega)) | (apply m_op .quo; exact y_quo rfl rfl (by omega)) | (apply m_op .shl; exact y_shl rfl rfl (by omega)) | (apply m_op .shr; exact y_shr rfl rfl (by omega)) | (apply m_op .and; exact y_and rfl rfl) | (apply m_op .or; exact y_or rfl rfl) | (apply m_op .xor; exact y_xor rfl rfl) | (apply m_op .andNot; exact y_andNot rfl rfl)) | (apply m_loadS; first | exact y_l1b (i := 0) hw rfl rfl rfl | exact y_l1b (i := 1) hw rfl rfl rfl | exact y_l1b (i := 2) hw rfl rfl rfl | exact y_l1b (i := 3) hw rfl rfl rfl | exact y_l1b (i := 4) hw rfl rfl rfl | exact y_l1b (i := 5) hw rfl rfl rfl | exact y_l1b (i := 6) hw rfl rfl rfl | exact y_loadEf rfl (RepS.rd (by assumption) hw) (rows_map (by assumption)) rfl | exact y_loadEf2 rfl (RepS.rd (by assumption) hw) (rows_map (by assumption)) rfl | exact y_loadE1 rfl (RepS.rd (by assumption) hw) (rows_map (by assumption)) | exact y_loadEf rfl (RdS.rd (by assumption) hw) (rows_map (by assumption)) rfl | exact y_loadEf2 rfl (RdS.rd (by assumption) hw) (rows_map (by assumption)) rfl | exact y_loadE1 rfl (RdS.rd (by assumption) hw) (rows_map (by assumption)) | exact y_loadEf rfl (RdS.rd (by assumption) hw.left) (rows_map (by assumption)) rfl | exact y_loadEf2 rfl (RdS.rd (by assumption) hw.left) (rows_map (by assumption)) rfl | exact y_loadE1 rfl (RdS.rd (by assumption) hw.left) (rows_map (by assumption)) | exact y_loadEf rfl (Wd.own_rd (i := 0) hw rfl) (rows_map (by assumption)) rfl | exact y_loadEf2 rfl (Wd.own_rd (i := 0) hw rfl) (rows_map (by assumption)) rfl | exact y_loadE1 rfl (Wd.own_rd (i := 0) hw rfl) (rows_map (by assumption)) | exact y_loadEf rfl (Wd.own_rd (i := 1) hw rfl) (rows_map (by assumption)) rfl | exact y_loadEf2 rfl (Wd.own_rd (i := 1) hw rfl) (rows_map (by assumption)) rfl | exact y_loadE1 rfl (Wd.own_rd (i := 1) hw rfl) (rows_map (by assumption)) | exact y_loadEf rfl (Wd.own_rd (i := 2) hw rfl) (rows_map (by assumption)) rfl | exact y_loadEf2 rfl (Wd.own_rd (i := 2) hw rfl) (rows_map (by assumption)) rfl | exact y_loadE1 rfl (Wd.own_rd (i := 2) hw rfl) (rows_map (by assumption)) | exact y_loadEf rfl (Wd.own_rd (i := 3) hw rfl) (rows_map (by assumption)) rfl | exact y_loadEf2 rfl (Wd.own_rd (i := 3) hw rfl) (rows_map (by assumption)) rfl | exact y_loadE1 rfl (Wd.own_rd (i := 3) hw rfl) (rows_map (by assumption))) | (apply m_loadA; first | exact y_lwb (i := 0) hw rfl rfl rfl | exact y_lwb (i := 1) hw rfl rfl rfl | exact y_lwb (i := 2) hw rfl rfl rfl | exact y_lwb (i := 3) hw rfl rfl rfl | exact y_lwb (i := 4) hw rfl rfl rfl | exact y_lwb (i := 5) hw rfl rfl rfl | exact y_lwb (i := 6) hw rfl rfl rfl | exact y_loadE rfl (RepS.rd (by assumption) hw) (rows_map (by assumption)) | exact y_loadEsub rfl (RepS.rd (by assumption) hw) (rows_map (by assumption)) rfl rfl | exact y_loadE rfl (RdS.rd (by assumption) hw) (rows_map (by assumption)) | exact y_loadEsub rfl (RdS.rd (by assumption) hw) (rows_map (by assumption)) rfl rfl | exact y_loadE rfl (RdS.rd (by assumption) hw.left) (rows_map (by assumption)) | exact y_loadEsub rfl (RdS.rd (by assumption) hw.left) (rows_map (by assumption)) rfl rfl | exact y_loadE rfl (Wd.own_rd (i := 0) hw rfl) (rows_map (by assumption)) | exact y_loadEsub rfl (Wd.own_rd (i := 0) hw rfl) (rows_map (by assumption)) rfl rfl | exact y_loadE rfl (Wd.own_rd (i := 1) hw rfl) (rows_map (by assumption)) | exact y_loadEsub rfl (Wd.own_rd (i := 1) hw rfl) (rows_map (by assumption)) rfl rfl | exact y_loadE rfl (Wd.own_rd (i := 2) hw rfl) (rows_map (by assumption)) | exact y_loadEsub rfl (Wd.own_rd (i := 2) hw rfl) (rows_map (by assumption)) rfl rfl | exact y_loadE rfl (Wd.own_rd (i := 3) hw rfl) (rows_map (by assumption)) | exact y_loadEsub rfl (Wd.own_rd (i := 3) hw rfl) (rows_map (by assumption)) rfl rfl | exact y_lpb (i := 0) hw rfl rfl rfl rfl | exact y_lpb (i := 1) hw rfl rfl rfl rfl | exact y_lpb (i := 2) hw rfl rfl rfl rfl | exact y_lpb (i := 3) hw rfl rfl rfl rfl | exact y_lpb (i := 4) hw rfl rfl rfl rfl | exact y_lpb (i := 5) hw rfl rfl rfl rfl | exact y_lpb (i := 6) hw rfl rfl rfl rfl) | (apply m_field; exact y_field rfl) | (apply g_idx; first | exact y_idxI hw (by assumption) rfl rfl (by omega) (by omega) | exact y_idxO (j := 0) hw rfl rfl rfl (by omega) (by omega) | exact y_idxO (j := 1) hw rfl rfl rfl (by omega) (by omega) | exact y_idxO (j := 2) hw rfl rfl rfl (by omega) (by omega) | exact y_idxO (j := 3) hw rfl rfl rfl (by omega) (by omega) | exact y_idxD (RdS.rd (by assumption) hw) rfl rfl (by omega) (by omega) | exact y_idxD (RdS.rd (by assumption) hw.left) rfl rfl (by omega) (by omega)) | (apply g_call; first | exact y_lenS rfl | exact y_lenL rfl | exact y_cap rfl | exact y_min2 rfl rfl | exact y_max2 rfl rfl | exact y_lenMs (i := 0) hw rfl rfl | exact y_lenMs (i := 1) hw rfl rfl | exact y_lenMs (i := 2) hw rfl rfl | exact y_lenMs (i := 3) hw rfl rfl | exact y_lenMs (i := 4) hw rfl rfl) | (apply m_pick; first | exact y_pick_and rfl rfl rfl | exact y_pick_or rfl rfl rfl | exact y_pickT rfl rfl | exact y_pickF rfl rfl) | (apply m_not; exact y_not rfl) | (apply m_extract; exact y_extract rfl rfl) | (apply m_nil; exact y_nil rfl) | (apply m_build; exact y_build rfl) | (apply m_index; exact y_idxS rfl rfl (by omega) (by omega)) | (apply m_lookup; first | exact y_lookupS2 (i := 0) hw rfl rfl rfl rfl | exact y_lookupS1 (i := 0) hw rfl rfl rfl rfl | exact y_lookupS2 (i := 1) hw rfl rfl rfl rfl | exact y_lookupS1 (i := 1) hw rfl rfl rfl rfl | exact y_lookupS2 (i := 2) hw rfl rfl rfl rfl | exact y_lookupS1 (i := 2) hw rfl rfl rfl rfl | exact y_lookupS2 (i := 3) hw rfl rfl rfl rfl | exact y_lookupS1 (i := 3) hw rfl rfl rfl rfl | exact y_lookupS2 (i := 4) hw rfl rfl rfl rfl | exact y_lookupS1 (i := 4) hw rfl rfl rfl rfl) | (apply m_slice; first | exact y_sliceL rfl rfl (by omega) (by omega) | exact y_sliceH rfl rfl (by omega) (by omega) | exact y_sliceLH rfl rfl rfl (by omega) (by omega) (by omega) | exact y_sliceLHM rfl rfl rfl rfl (by omega) (by omega) (by omega) (by omega) | exact y_sliceSLH rfl rfl rfl (by omega) (by omega) (by omega) | exact y_sliceSL rfl rfl (by omega) (by omega) | exact y_sliceSH rfl rfl (by omega) (by omega)) | (apply m_conv; exact y_convI rfl) | (apply m_neg; exact y_neg64 rfl (by omega) (by omega))) : LX P n Q (o :: l) ρ w := LX_step (hy.step h) hg hd hf

/-- **One round of a loop over a function.** -/
theorem round_any {Γ : Gho} {S : List Res} {l fn : Nat} {r : Loop} {tmps : Array Value} {assign body : Code} {R : Ending → World → Prop} (hr : r.state = .ready) (hp : r.pending = none) (hn : tmps.size = n) (hw : Wd Γ (.blk l (.loop r) :: S) w)
    (h : WF (some l) [] P n assign (fun e ρ1 w1 => e = .normal ∧ ∃ S1, Wd Γ (.blk l (.loop r) :: S1) w1 ∧ ∀ w2, Wd Γ (.blk l (.loop { r with state := .busy }) :: S1) w2 →
      WF (some l) [] P n body (fun e _ w3 => e = .normal ∧ ∃ S2, Wd Γ (.blk l (.loop { r with state := .busy }) :: S2) w3 ∧ ∀ w4, Wd Γ (.blk l (.loop r) :: S2) w4 → R (.returned (.bool true)) w4) ρ1 w2) (fun t => tmps.getD t undef) w) :
    RoundIn Fence.wide 0 P l fn tmps assign body w R := by
  refine roundIn_of_wpIn trivial ?_
  have h1 := h { tmps := tmps, defers := [] } rfl hn rfl
  refine wpIn_mono h1 ?_
  rintro e a1 w1 ⟨hd1, hs1, he, S1, hw1, hrest⟩
  subst he
  have hl1 := hw1.at_blk (i := 0) rfl
  have hlt1 : l < w1.heap.size := (Array.getElem?_eq_some_iff.1 hl1).1
  refine ⟨_, run_beginRound hl1 hr, ?_⟩
  have hw2 : Wd Γ (.blk l (.loop { r with state := .busy }) :: S1) (w1.putObj l (.loop { r with state := .busy })) :=
    hw1.set_blk (i := 0) rfl ⟨rfl, rfl, rfl, Nat.le_refl _, by simp⟩ (World.putObj_heap_same hlt1) fun k _ hne => World.putObj_heap_other hne
  refine wpIn_mono (hrest _ hw2 a1 hd1 hs1 rfl) ?_
  rintro e a3 w3 ⟨hd3, hs3, he, S2, hw3, hfin⟩
  subst he
  have hl3 := hw3.at_blk (i := 0) rfl
  have hlt3 : l < w3.heap.size := (Array.getElem?_eq_some_iff.1 hl3).1
  refine ⟨_, _, run_endRound none hl3, ?_⟩
  refine hfin _ ?_
  have hre : ({ { r with state := .busy } with state := if (none : Option Code).isNone then .ready else .done, pending := none } : Loop) = r := by
    cases r; simp at hr hp ⊢; exact ⟨hr.symm, hp.symm⟩
  have := hw3.set_blk (i := 0) (w' := w3.putObj l (.loop { { r with state := .busy } with state := if (none : Option Code).isNone then .ready else .done, pending := none })) rfl ⟨rfl, rfl, rfl, Nat.le_refl _, by simp⟩ (World.putObj_heap_same hlt3) fun k _ hne => World.putObj_heap_other hne
  rw [hre] at this ⊢
  exact this

/-- What yield does for whom it is handed to: I says what stands when xs have come. -/
def YieldC (P : Program) (Γ : Gho) (l : Nat) (N : Nat) {α : Type} (vl : α → Value) (I : List α → List Res) : Prop :=
  ∀ xs x R w, xs.length < N → Wd Γ (I xs ++ R) w → ∃ f tmps assign body, (Instr.yield l #[vl x]).run P w = .ok (.round l f tmps assign body) w ∧
    RoundIn Fence.wide 0 P l f tmps assign body w fun e w' => e = .returned (.bool true) ∧ Wd Γ (I (xs ++ [x]) ++ R) w'
theorem LX_yield {α : Type} {vl : α → Value} {I : List α → List Res} {R : List Res} {l N : Nat} {Γ : Gho} {xs : List α} {x : α} {t : Tmp} {arg : Operand} {tys : Array TypeId} {d : Option Tmp} {ty : TypeId} {pos : String} {es : Array Edge} {rest : List Oper}
    (hY : YieldC P Γ l N vl I) (hN : xs.length < N) (hw : Wd Γ (I xs ++ R) w) (h : ∀ w', Wd Γ (I (xs ++ [x]) ++ R) w' → LX P n Q rest (putO ρ d (.bool true)) w')
    (ht : ρ t = .func (.yield l) #[] #[] := by exact rfl) (hx : ev ρ arg = vl x := by exact rfl) (hd : okDst n d = true := by exact rfl) :
    LX P n Q (⟨d, .call { callee := .value (.tmp t), args := #[arg], argTypes := tys }, ty, pos, es, none⟩ :: rest) ρ w := by
  refine ⟨⟨rfl, hd, rfl⟩, ?_⟩
  obtain ⟨f, tmps, assign, body, h1, h2⟩ := hY xs x R w hN hw
  have hr : (execOp (ev ρ) ⟨d, .call { callee := .value (.tmp t), args := #[arg], argTypes := tys }, ty, pos, es, none⟩).run P w = .ok (.round l f tmps assign body) w := by
    simp only [execOp, resolve, ev, ht, Deferred.ofValue, Sem.run_bind, Sem.run_pure, Result.andThen_ok, invoke]
    have ha : (#[] ++ #[arg].map (ev ρ) : Array Value) = #[vl x] := by simp [hx]
    first | (rw [ha]; exact h1) | (simp only [List.map_toArray, List.map_cons, List.map_nil, hx]; exact h1)
  unfold StepX
  rw [hr]
  exact h2.mono fun e w' ⟨he, hw'⟩ => ⟨_, he, h w' hw'⟩

/-- **The statement 'for .. := range f'.** -/
theorem wp_rangeFunc {Γ : Gho} {S : List Res} {g : Operand} {ps : Array Tmp} {assign body : Code} {Q : Exit → Act → World → Prop} {a : Act} {f : Nat} {fst cap : Array Value} [FnOk P f] (hw : Wd Γ S w) (hg : a.eval g = .func (.func f) fst cap)
    (h : ∀ (rc : Loop) r l w1, rc.state = .ready → rc.pending = none → rc.tmps = a.tmps → rc.params = ps → rc.assign = assign → rc.body = body → Wd Γ (.blk l (.loop rc) :: .blk r (.deferred (some [])) :: S) w1 →
      Calls P f (fst ++ #[.func (.yield l) #[] #[]] ++ cap) w1 fun e w3 => (∃ v, e = .returned v) ∧ ∃ S', Wd Γ (.blk l (.loop rc) :: .blk r (.deferred (some [])) :: S') w3 ∧
        ∀ w4, Wd Γ (.blk r (.deferred (some [])) :: S') w4 → Q .normal { a with defers := { target := .collected r, args := #[] } :: a.defers } w4) :
    (Code.rangeFunc g ps assign body).wpIn Fence.wide 0 P Q a w := by
  refine wpIn_rangeFunc fun fn _ => ?_
  have hw1 := (hw.alloc (.deferred (some []))).alloc (.loop { state := .ready, pending := none, fn, tmps := a.tmps, params := ps, assign, body, defers := w.heap.size })
  have hres : (resolve a.eval (rangeCall g (w.heap.size + 1)) 0).run P ((w.alloc (.deferred (some []))).alloc (.loop { state := .ready, pending := none, fn, tmps := a.tmps, params := ps, assign, body, defers := w.heap.size })) =
      .ok { target := .fn (.func f) cap, args := fst ++ #[.func (.yield (w.heap.size + 1)) #[] #[]] } ((w.alloc (.deferred (some []))).alloc (.loop { state := .ready, pending := none, fn, tmps := a.tmps, params := ps, assign, body, defers := w.heap.size })) := by
    have hmap : (#[Operand.const (Value.func (Fn.yield (w.heap.size + 1)) #[] #[])] : Array Operand).map a.eval = #[Value.func (Fn.yield (w.heap.size + 1)) #[] #[]] := by simp [Act.eval]
    simp only [resolve, rangeCall, hg, Deferred.ofValue, Sem.run_pure, hmap]
  refine ⟨_, _, _, _, _, f, _, _, run_enterLoop_outer fn a.tmps ps assign body, hres, fun _ _ => trivial, by simp only [invoke]; exact run_callFunc _, fun hx => by simp [Fence.wide] at hx, ?_⟩
  refine (callsIn_wide (n := 0 - 1)).2 ((h _ w.heap.size _ _ rfl rfl rfl rfl rfl rfl (by simpa using hw1)).mono ?_)
  rintro e w3 ⟨⟨v, rfl⟩, S', hw3, hfin⟩
  have hl3 := hw3.at_blk (i := 0) (by rfl)
  have hlt3 : w.heap.size + 1 < w3.heap.size := by
    have := (Array.getElem?_eq_some_iff.1 hl3).1
    simpa using this
  refine ⟨none, _, run_endLoop (by simpa using hl3) (by simp), ?_⟩
  refine hfin _ ?_
  have := hw3.set_blk (i := 0) (w' := w3.putObj (w.heap.size + 1) (.loop { state := .exhausted, pending := none, fn, tmps := a.tmps, params := ps, assign, body, defers := w.heap.size })) (by rfl) ⟨rfl, rfl, rfl, Nat.le_refl _, by simp⟩ (by simpa using World.putObj_heap_same hlt3) (fun k _ hne => World.putObj_heap_other (by simpa using hne))
  exact this.drop
end
attribute [irreducible] StepX
end Mk
namespace Mk
theorem wpIn_WF {P : Program} {n : Nat} {ds : List Deferred} {c : Code} {a : Act} {w : World} {Q' : Exit → Act → World → Prop} (h : WF none ds P n c (fun e ρ w => ∀ a, a.defers = ds → a.tmps.size = n → fnOf a = ρ → Q' e a w) (fnOf a) w) (ha : a.defers = ds) (hs : a.tmps.size = n) : c.wpIn Fence.wide 0 P Q' a w :=
  wpIn_mono (h a ha hs rfl) fun e a w ⟨x, y, z⟩ => z a x y rfl
theorem fnOf_entry {args : Array Value} {n : Nat} (hn : Nat.ble args.size n = true) : fnOf { tmps := args ++ Array.replicate (n - args.size) undef, defers := [] } = entryFr args := by
  funext t
  simp only [fnOf, entryFr, Array.getD_eq_getD_getElem?, Array.getElem?_append]
  have hle : args.size ≤ n := Nat.le_of_ble_eq_true hn
  by_cases ht : t < args.size
  · rw [if_pos ht]
  · rw [if_neg ht, Array.getElem?_eq_none (by omega : args.size ≤ t)]
    simp only [Array.getElem?_replicate]
    split <;> rfl
/-- A function that is ranged over: it hands on values, xs with 'V xs'. -/
def SeqC (P : Program) (Γ : Gho) (g : Nat) (fst cap : Array Value) (N : Nat) {α : Type} (vl : α → Value) (R : List Res) (V : List α → Prop) : Prop :=
  ∀ l I w, YieldC P Γ l N vl I → Wd Γ (I [] ++ R) w → Calls P g (fst ++ #[.func (.yield l) #[] #[]] ++ cap) w fun e w' => (∃ v, e = .returned v) ∧ ∃ xs : List α, V xs ∧ Wd Γ (I xs ++ R) w'
end Mk
namespace Mk
section
variable {P : Program} {n : Nat} {Γ : Gho} {S : List Res} {Q : Exit → Fr → World → Prop} {ρ : Fr} {w : World} {rest : List Oper}
variable {d : Option Tmp} {T U ty : TypeId} {pos : String} {es : Array Edge} {x y z : Operand} {v : Value}
theorem xAlloc {cs : List Value} [TZ P T cs] (h : ∀ b w', Wd Γ (.blk b (.cells cs.toArray T) :: S) w' → LX P n Q rest (putO ρ d (.pointer (some ⟨b, 0, none⟩))) w') (hd : okDst n d = true := by exact rfl) (hw : Wd Γ S w := by exact hw) :
    LX P n Q (⟨d, .alloc T, ty, pos, es, none⟩ :: rest) ρ w := LX_step (s_alloc hw h) rfl hd rfl
theorem xBox (h : ∀ b w', Wd Γ (.blk b (.cells v.cells T) :: S) w' → LX P n Q rest (putO ρ d (.pointer (some ⟨b, 0, none⟩))) w') (hx : ev ρ x = v := by first | exact (rfl : _ = Value.int _ _) | exact (rfl : _ = Value.bool _) | exact (rfl : _ = Value.string _) | exact (rfl : _ = Value.slice _ _ _) | exact (rfl : _ = Value.pointer _) | exact (rfl : _ = Value.agg _) | exact (rfl : _ = Value.map _) | exact (rfl : _ = Value.tuple _) | exact (rfl : _ = Value.func _ _ _) | exact (rfl : _ = gv _ _) | exact rfl) (hd : okDst n d = true := by exact rfl) (hw : Wd Γ S w := by exact hw) :
    LX P n Q (⟨d, .box T x, ty, pos, es, none⟩ :: rest) ρ w := LX_step (s_box hw hx h) rfl hd rfl
theorem xStore {b o i m : Nat} {vs : List Value} {cs : Array Value} {E : TypeId} [hn : TSz P T m] (h : ∀ w', Wd Γ (S.set i (.blk b (.cells (putCells cs o vs) E))) w' → LX P n Q rest ρ w') (hw : Wd Γ S w := by exact hw) (hx : ev ρ x = .pointer (some ⟨b, o, none⟩) := by exact rfl)
    (hy : ev ρ y = v := by first | exact (rfl : _ = Value.int _ _) | exact (rfl : _ = Value.bool _) | exact (rfl : _ = Value.string _) | exact (rfl : _ = Value.slice _ _ _) | exact (rfl : _ = Value.pointer _) | exact (rfl : _ = Value.agg _) | exact (rfl : _ = Value.map _) | exact (rfl : _ = Value.tuple _) | exact (rfl : _ = Value.func _ _ _) | exact (rfl : _ = gv _ _) | exact rfl) (hv : v.cells.toList = vs := by exact rfl) (hl : vs.length = m := by exact rfl) (h1 : vs.all (·.oneCell') = true := by exact rfl) (hi : S[i]? = some (.blk b (.cells cs E)) := by first | exact (rfl : (_ : List Res)[0]? = _) | exact (rfl : (_ : List Res)[1]? = _) | exact (rfl : (_ : List Res)[2]? = _) | exact (rfl : (_ : List Res)[3]? = _) | exact (rfl : (_ : List Res)[4]? = _) | exact (rfl : (_ : List Res)[5]? = _) | exact (rfl : (_ : List Res)[6]? = _) | exact (rfl : (_ : List Res)[7]? = _)) (ho : o + m ≤ cs.size := by exact Nat.le_of_ble_eq_true rfl) :
    LX P n Q (⟨none, .store T x y, ty, pos, es, none⟩ :: rest) ρ w := LX_step (s_store hn.h hw hx hy hv hl (fun u hu => (List.all_eq_true.1 h1) u hu) hi ho h) rfl rfl rfl
theorem xBuildSlice {E by' len sz : Nat} {zs : List Value} {parts : Array (Nat × Operand)} {cells : List Value} (rws : List (List Value)) [TL P T E sz by' zs] (h : ∀ a w', Wd Γ (.own (.slice (some a) len len) E sz rws :: S) w' → LX P n Q rest (putO ρ d (.slice (some a) len len)) w')
    (hf : fillL (fun i => some (i * sz, sz)) ((List.range (len * sz)).map fun i => zs.getD (i % sz) undef) (parts.toList.map fun p => (p.1, ev ρ p.2)) = some cells := by exact rfl) (hrw : rws.flatten = cells := by exact rfl) (hlen : rws.length = len := by exact rfl) (hr : rws.all (fun r => Nat.beq r.length sz) = true := by exact rfl) (hbig : Nat.ble (len * sz) 16777216 = true := by exact rfl) (hw : Wd Γ S w := by exact hw) (hd : okDst n d = true := by exact rfl) :
    LX P n Q (⟨d, .buildSlice T len parts, ty, pos, es, none⟩ :: rest) ρ w := LX_step (s_buildSlice hw hf hrw hlen (fun r hm => Nat.eq_of_beq_eq_true ((List.all_eq_true.1 hr) r hm)) (Nat.le_of_ble_eq_true hbig) h) rfl hd rfl
theorem xApp {E by' i sz m c m2 c2 : Nat} {zs : List Value} {a a2 : Option Addr} {rows rows2 : List (List Value)} [TL P T E sz by' zs] (h : ∀ v' w', Wd Γ (S.set i (.own v' E sz (rows ++ rows2))) w' → LX P n Q rest (putO ρ d v') w') (hr2 : Rd w a2 sz rows2) (hx : ev ρ x = .slice a m c := by exact rfl) (hy : ev ρ y = .slice a2 m2 c2 := by exact rfl) (hw : Wd Γ S w := by exact hw)
    (hi : S[i]? = some (.own (.slice a m c) E sz rows) := by first | exact (rfl : (_ : List Res)[0]? = _) | exact (rfl : (_ : List Res)[1]? = _) | exact (rfl : (_ : List Res)[2]? = _) | exact (rfl : (_ : List Res)[3]? = _) | exact (rfl : (_ : List Res)[4]? = _) | exact (rfl : (_ : List Res)[5]? = _) | exact (rfl : (_ : List Res)[6]? = _) | exact (rfl : (_ : List Res)[7]? = _)) (h1 : rows2.flatten.all (·.oneCell') = true := by exact rfl) (hm : m2 = rows2.length := by exact rfl) (hb : (m + m2) * by' ≤ 140737488355328 := by omega) (h63 : m + m2 ≤ 9223372036854775807 := by omega) (hd : okDst n d = true := by exact rfl) :
    LX P n Q (⟨d, .call { callee := .builtin .append, args := #[x, y], argTypes := #[T, T] }, ty, pos, es, none⟩ :: rest) ρ w := LX_step (s_append hw hx hy hi hr2 hm (fun u hu => (List.all_eq_true.1 h1) u hu) hb h63 h) rfl hd rfl
end
end Mk
namespace Mk
theorem oneParam (p : Nat) (v : Value) (tm : Array Value) : ((#[p] : Array Nat).zip #[v]).foldl (fun tmps (t, a) => tmps.setIfInBounds t a) tm = tm.setIfInBounds p v := by simp
theorem frParam (a : Act) (p : Nat) (v : Value) (h : p < a.tmps.size) : (fun t => (a.tmps.setIfInBounds p v).getD t undef) = upd (fnOf a) p v := fnOf_put a p v h
end Mk
namespace Mk
/-- Which entries have been seen, by their places. -/
structure Seen (en : Array MapEntry) (seen : Array Nat) (idx : List Nat) : Prop where
  nd : idx.Nodup
  lt : ∀ i ∈ idx, i < en.size
  eq : seen.toList = idx.map fun i => (en[i]?.map (·.born)).getD 0
theorem Seen.nil {en : Array MapEntry} : Seen en #[] [] := ⟨List.nodup_nil, by simp, rfl⟩
theorem Seen.next {en : Array MapEntry} {seen : Array Nat} {idx : List Nat} {e : MapEntry} (h : Seen en seen idx) (he : e ∈ (leftOf en seen).toList) : ∃ i, en[i]? = some e ∧ i ∉ idx ∧ i < en.size ∧ Seen en (seen.push e.born) (idx ++ [i]) := by
  obtain ⟨h1, h2⟩ := left_mem.1 he
  obtain ⟨i, hi, hie⟩ := List.getElem_of_mem h1
  simp only [Array.length_toList] at hi
  have hie' : en[i]? = some e := by rw [Array.getElem?_eq_getElem hi]; simpa using hie
  have hn : i ∉ idx := fun hin => h2 (by
    rw [h.eq]
    exact List.mem_map.2 ⟨i, hin, by rw [hie']; rfl⟩)
  refine ⟨i, hie', hn, hi, ⟨?_, ?_, ?_⟩⟩
  · rw [List.nodup_append]
    exact ⟨h.nd, by simp, fun a ha b hb => by simp at hb; subst hb; exact fun e => hn (e ▸ ha)⟩
  · intro j hj
    rcases List.mem_append.1 hj with hj | hj
    · exact h.lt j hj
    · simp at hj; subst hj; exact hi
  · rw [Array.toList_push, h.eq, List.map_append]
    simp [hie']
theorem Seen.all {en : Array MapEntry} {seen : Array Nat} {idx : List Nat} (h : Seen en seen idx) (hb : (en.toList.map (·.born)).Nodup) (h0 : (leftOf en seen).size = 0) : idx.Perm (List.range en.size) := by
  refine (List.perm_ext_iff_of_nodup h.nd List.nodup_range).2 fun i => ⟨fun hi => List.mem_range.2 (h.lt i hi), fun hi => ?_⟩
  have hi := List.mem_range.1 hi
  have hnl : en[i] ∉ (leftOf en seen).toList := fun hm => by
    have : (leftOf en seen) = #[] := Array.eq_empty_of_size_eq_zero h0
    rw [this] at hm; simp at hm
  have hb2 : en[i].born ∈ seen.toList := Classical.byContradiction fun hc => hnl (left_mem.2 ⟨by simp, hc⟩)
  rw [h.eq] at hb2
  obtain ⟨j, hj, hje⟩ := List.mem_map.1 hb2
  have hjl := h.lt j hj
  rw [Array.getElem?_eq_getElem hjl] at hje
  simp only [Option.map_some, Option.getD_some] at hje
  have : j = i := by
    have hp := List.pairwise_iff_getElem.1 hb
    rcases Nat.lt_trichotomy j i with h1 | h1 | h1
    · exact absurd (by rw [List.getElem_map, List.getElem_map]; simpa using hje) (hp j i (by simpa using hjl) (by simpa using hi) h1)
    · exact h1
    · exact absurd (by rw [List.getElem_map, List.getElem_map]; simpa using hje.symm) (hp i j (by simpa using hi) (by simpa using hjl) h1)
  rwa [this] at hj
theorem Seen.len {en : Array MapEntry} {seen : Array Nat} {idx : List Nat} (h : Seen en seen idx) : idx.length ≤ en.size := nodup_le _ _ h.nd h.lt
theorem range_map_get {γ δ : Type} (l : List γ) (d : γ) (q : γ → δ) : (List.range l.length).map (fun i => q (l.getD i d)) = l.map q := by
  refine List.ext_getElem? fun i => ?_
  simp only [List.getElem?_map]
  by_cases hi : i < l.length
  · simp [hi]
  · rw [List.getElem?_eq_none (by simp; omega), List.getElem?_eq_none (by omega)]; rfl
end Mk
