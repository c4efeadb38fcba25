/- Single operations that read, make or write memory; calls. -/
import Derived.Test.YtekdbdhkpolooaaBase3
open Go
namespace Mk

/-! ### facts on types and functions, as classes -/
def zeroOf (P : Program) (T : TypeId) : Option (List Value) := ((P.info? T).bind (·.zero)).map fun z => z.cells.toList
def scal (P : Program) (T : TypeId) : Bool := match P.underlying T with
  | some (.struct _) | some (.array _ _) => false
  | some _ => ((P.info? T).map (·.size)) == some 1
  | none => false
def aggSz (P : Program) (T : TypeId) : Option Nat := match P.underlying T with
  | some d => if d.isRow then (P.info? T).map (·.size) else none
  | none => none
def fieldOff (P : Program) (T : TypeId) (f : Nat) : Option Nat := match P.underlying T with
  | some (.struct fs) => match fs[f]? with
    | some x => match (P.info? x.type).map (·.size) with
      | some 0 => none
      | some _ => some x.offset
      | none => none
    | none => none
  | _ => none
def sizeBytes (P : Program) (T : TypeId) : Option (Nat × Nat) := (P.info? T).map fun i => (i.size, i.bytes)
def callable (P : Program) (f : Nat) : Bool := match P.funcs[f]? with | some fn => fn.body.isSome && fn.name != "runtime.NumGoroutine" | none => false

class TZ (P : Program) (T : TypeId) (cs : outParam (List Value)) : Prop where h : zeroOf P T = some cs
class TS (P : Program) (T : TypeId) : Prop where h : scal P T = true
class TA (P : Program) (T : TypeId) (n : outParam Nat) : Prop where h : aggSz P T = some n
class TF (P : Program) (T : TypeId) (f : Nat) (k : outParam Nat) : Prop where h : fieldOff P T f = some k
class TL (P : Program) (T : TypeId) (E : outParam TypeId) (sz by' : outParam Nat) (zs : outParam (List Value)) : Prop where
  h : P.underlying T = some (.slice E)
  s : sizeBytes P E = some (sz, by')
  z : zeroOf P E = some zs
  n : zs.length = sz ∧ 0 < sz
class TArr (P : Program) (T : TypeId) (n : outParam Nat) (E : outParam TypeId) (sz : outParam Nat) : Prop where
  h : P.underlying T = some (.array n E)
  s : (P.info? E).map (·.size) = some sz
class TStr (P : Program) (T : TypeId) : Prop where h : P.underlying T = some .string
class TBool (P : Program) (T : TypeId) : Prop where h : P.underlying T = some .bool
class TInt (P : Program) (T : TypeId) (k : outParam IntKind) : Prop where h : P.underlying T = some (.int k)
class TMap (P : Program) (T : TypeId) (K E : outParam TypeId) : Prop where h : P.underlying T = some (.map K E)
class TPtr (P : Program) (T : TypeId) (E : outParam TypeId) : Prop where h : P.underlying T = some (.pointer E)
class FnOk (P : Program) (f : Nat) : Prop where h : callable P f = true

section
variable {P : Program} {Γ : Gho} {S : List Res} {w : World} {ρ : Fr} {K : Value → World → Prop}
variable {d : Option Tmp} {T U ty : TypeId} {pos : String} {es : Array Edge} {g : Option (Nat × Bool)} {x y z : Operand}

/-! ### addresses -/
theorem y_field {b o f k : Nat} [hf : TF P T f k] (hx : ev ρ x = .pointer (some ⟨b, o, none⟩)) : Yields P ⟨d, .fieldAddr T x f, ty, pos, es, g⟩ ρ w (.pointer (some ⟨b, o + k, none⟩)) := by
  have h := hf.h
  unfold fieldOff at h
  unfold Yields
  cases hu : P.underlying T with
  | none => simp [hu] at h
  | some t =>
    cases t <;> simp [hu] at h
    rename_i fs
    cases hfs : fs[f]? with
    | none => simp [hfs] at h
    | some fl =>
      simp [hfs] at h
      cases hi : P.info? fl.type with
      | none => simp [hi] at h
      | some i =>
        simp [hi] at h
        split at h
        · simp at h
        · rename_i n hn
          simp at h
          subst h
          have hne : i.size ≠ 0 := fun e => by simp_all
          have ha : (⟨b, o, none⟩ : Addr).add fl.offset = ⟨b, o + fl.offset, none⟩ := Addr.add_mid b o fl.offset
          simp [execOp, go_sem, hx, Instr.fieldAt, run_underlying hu, hfs, Instr.sureAddr, fieldPlace, Go.sizeOf, typeInfo, hi, hne, ha]
        · simp at h

theorem scal_isAgg (h : scal P T = true) : (isAgg T).run P w = .ok false w := by
  unfold scal at h
  cases hu : P.underlying T with
  | none => simp [hu] at h
  | some t =>
    unfold isAgg
    rw [Sem.run_bind, run_underlying hu w]
    cases t <;> simp_all
theorem scal_size (h : scal P T = true) : (Go.sizeOf T).run P w = .ok 1 w := by
  unfold scal at h
  cases hi : P.info? T with
  | none => cases hu : P.underlying T with
    | none => simp [hu] at h
    | some t => cases t <;> simp_all
  | some i =>
    have : i.size = 1 := by
      cases hu : P.underlying T with
      | none => simp [hu] at h
      | some t => cases t <;> simp_all
    simp [Go.sizeOf, typeInfo, hi, this]

/-! ### loads -/
theorem y_load1 {A : Addr} {v : Value} [hs : TS P T] (hx : ev ρ x = .pointer (some A)) (hc : w.cell? A = some v) : Yields P ⟨d, .load T x, ty, pos, es, g⟩ ρ w v := by
  unfold Yields
  simp [execOp, go_sem, hx, Instr.loadAt, Instr.sureAddr, loadVar, scal_isAgg hs.h, hc]
theorem y_loadn {b o n : Nat} {cs : List Value} [ha : TA P T n] (hx : ev ρ x = .pointer (some ⟨b, o, none⟩)) (hl : cs.length = n) (hc : w.rangeAt b o cs) : Yields P ⟨d, .load T x, ty, pos, es, g⟩ ρ w (.agg cs.toArray) := by
  have h := ha.h
  unfold aggSz at h
  cases hu : P.underlying T with
  | none => simp [hu] at h
  | some t =>
    simp [hu] at h
    have h1 := run_loadAt_mid (P := P) w b o T cs t hc hu h.1 (by simp [h.2, hl])
    unfold Yields
    simp only [execOp, hx, Sem.run_bind, h1]
    rfl

theorem cell_of {b o : Nat} {cs : Array Value} {E : TypeId} {fr : Nat × Nat} {v : Value} (h : w.heap[b]? = some (.cells cs E fr)) (hv : cs[o]? = some v) : w.cell? ⟨b, o, none⟩ = some v := by
  simp [World.cell?, h, hv]
theorem range_of {b o n : Nat} {cs : Array Value} {E : TypeId} {fr : Nat × Nat} (h : w.heap[b]? = some (.cells cs E fr)) : w.rangeAt b o (cs.extract o (o + n)).toList := World.rangeAt_of_block h o n

/-! ### stores -/
def putCells (cs : Array Value) (o : Nat) (vs : List Value) : Array Value := (cs.toList.take o ++ vs ++ cs.toList.drop (o + vs.length)).toArray

theorem same3_setRow (w : World) (b : Nat) (c : Array Value) : Same3 w (w.setRow b c) := ⟨rfl, rfl, rfl, (by first | exact Nat.le_refl _ | exact Nat.le_succ _), by simp⟩

/-- A variable of n cells is written into a block that is owned. -/
theorem s_store {b o i n : Nat} {v : Value} {vs : List Value} {cs : Array Value} {E : TypeId} (hn : (P.info? T).map (·.size) = some n) (hw : Wd Γ S w) (hx : ev ρ x = .pointer (some ⟨b, o, none⟩)) (hy : ev ρ y = v) (hv : v.cells.toList = vs) (hl : vs.length = n)
    (h1 : ∀ u ∈ vs, u.oneCell' = true) (hi : S[i]? = some (.blk b (.cells cs E))) (ho : o + n ≤ cs.size) (hk : ∀ w', Wd Γ (S.set i (.blk b (.cells (putCells cs o vs) E))) w' → K undef w') : Step P ⟨d, .store T x y, ty, pos, es, g⟩ ρ w K := by
  have hb := hw.at_blk hi
  have hst := run_storeCells_at P b o E vs 0 cs w hb (by omega) h1
  simp only [Nat.add_zero] at hst
  have hsz : v.cells.size = n := by rw [← hl, ← hv]; simp
  have hr : (execOp (ev ρ) ⟨d, .store T x y, ty, pos, es, g⟩).run P w = .ok .skip (w.setRow b (putCells cs o vs)) := by
    cases hq : P.info? T with
    | none => simp [hq] at hn
    | some q =>
      have hs : q.size = n := by simpa [hq] using hn
      have hz : (Go.sizeOf T).run P w = .ok n w := by simp [Go.sizeOf, typeInfo, hq, hs]
      have hsv : (storeVar T ⟨b, o, none⟩ v).run P w = .ok () (w.setRow b (putCells cs o vs)) := by
        unfold storeVar
        rw [Sem.run_bind, hz]
        simp only [Result.andThen_ok, hsz, ne_eq, not_true_eq_false, if_false, hv]
        exact hst
      simp only [execOp, hx, hy, Instr.storeAt, Instr.sureAddr, Sem.run_bind, Sem.run_pure, Result.andThen_ok, hsv]
  have hfin : K undef (w.setRow b (putCells cs o vs)) := hk _ (hw.set_blk hi (same3_setRow w _ _) (setRow_heap w b cs _ E (0, 0) hb) fun k _ hne => setRow_other w b k _ hne)
  unfold Step
  rw [hr]
  exact hfin
end
end Mk
