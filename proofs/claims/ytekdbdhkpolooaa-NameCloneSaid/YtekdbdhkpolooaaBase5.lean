/- Single operations, continued: making values and blocks, calls. -/
import Derived.Test.YtekdbdhkpolooaaBase4
open Go
namespace Mk

theorem sizeBytes_info {P : Program} {T s b : Nat} (h : sizeBytes P T = some (s, b)) : ∃ i, P.info? T = some i ∧ i.size = s ∧ i.bytes = b := by
  unfold sizeBytes at h
  cases hi : P.info? T with
  | none => simp [hi] at h
  | some i => simp [hi] at h; exact ⟨i, rfl, h.1, h.2⟩
theorem zeroOf_info {P : Program} {T : Nat} {zs : List Value} (h : zeroOf P T = some zs) : ∃ i z, P.info? T = some i ∧ i.zero = some z ∧ z.cells = zs.toArray := by
  unfold zeroOf at h
  cases hi : P.info? T with
  | none => simp [hi] at h
  | some i =>
    cases hz : i.zero with
    | none => simp [hi, hz] at h
    | some z => simp [hi, hz] at h; exact ⟨i, z, rfl, hz, by rw [← h]⟩

/-- Cells written into a list of cells. -/
def setL (cells : List Value) (off : Nat) : List Value → List Value
  | [] => cells
  | v :: vs => setL (cells.set off v) (off + 1) vs

theorem foldl_setL (off : Nat) : ∀ (vs : List Value) (k : Nat) (arr : Array Value), (vs.zipIdx k).foldl (fun cs (p : Value × Nat) => cs.setIfInBounds (off + p.2) p.1) arr = (setL arr.toList (off + k) vs).toArray
  | [], k, arr => by simp [setL]
  | v :: vs, k, arr => by
    simp only [List.zipIdx_cons, List.foldl_cons]
    rw [foldl_setL off vs (k + 1)]
    simp [setL, Nat.add_assoc]

def fillL (place : Nat → Option (Nat × Nat)) (cells : List Value) : List (Nat × Value) → Option (List Value)
  | [] => some cells
  | (i, v) :: rest => match place i with
    | none => none
    | some (off, size) => bif Nat.beq v.cells.toList.length size && Nat.ble (off + size) cells.length then fillL place (setL cells off v.cells.toList) rest else none

theorem fill_fillL (place : Nat → Option (Nat × Nat)) : ∀ (parts : List (Nat × Value)) (cells out : List Value), fillL place cells parts = some out → Instr.fill place cells.toArray parts = some out.toArray
  | [], cells, out, h => by simp [fillL] at h; subst h; rfl
  | (i, v) :: rest, cells, out, h => by
    unfold fillL at h
    unfold Instr.fill
    cases hp : place i with
    | none => simp [hp] at h
    | some q =>
      obtain ⟨off, size⟩ := q
      simp only [hp] at h ⊢
      cases hb : (Nat.beq v.cells.toList.length size && Nat.ble (off + size) cells.length) with
      | false => rw [hb] at h; simp at h
      | true =>
        simp only [hb, cond_true] at h
        simp only [Bool.and_eq_true] at hb
        have h1 : v.cells.size = size := by have := Nat.eq_of_beq_eq_true hb.1; simpa using this
        have h2 := Nat.le_of_ble_eq_true hb.2
        rw [if_neg (by simp [h1]; omega)]
        have := fill_fillL place rest _ out h
        rw [← Array.foldl_toList, Array.toList_zipIdx]
        rw [foldl_setL off v.cells.toList 0]
        simpa using this

def placesOf (P : Program) (T : TypeId) : Option (List (Nat × Nat)) := match P.underlying T with
  | some (.struct fs) => fs.toList.mapM fun f => (P.info? f.type).map fun i => (f.offset, i.size)
  | _ => none
class TB (P : Program) (T : TypeId) (pl : outParam (List (Nat × Nat))) (zs : outParam (List Value)) : Prop where
  h : placesOf P T = some pl
  z : zeroOf P T = some zs

section
variable {P : Program} {Γ : Gho} {S : List Res} {w : World} {ρ : Fr} {K : Value → World → Prop}
variable {d : Option Tmp} {T U ty : TypeId} {pos : String} {es : Array Edge} {g : Option (Nat × Bool)} {x y z : Operand}

theorem args_map (parts : Array (Nat × Operand)) : (parts.map fun (i, x) => (i, ev ρ x)).toList = parts.toList.map fun p => (p.1, ev ρ p.2) := by simp

theorem y_build {pl : List (Nat × Nat)} {zs cells : List Value} {parts : Array (Nat × Operand)} [hb : TB P T pl zs] (h : fillL (pl[·]?) zs (parts.toList.map fun p => (p.1, ev ρ p.2)) = some cells) :
    Yields P ⟨d, .build T parts, ty, pos, es, g⟩ ρ w (.agg cells.toArray) := by
  obtain ⟨i, z, hi, hz, hc⟩ := zeroOf_info hb.z
  have hp := hb.h
  unfold placesOf at hp
  cases hu : P.underlying T with
  | none => simp [hu] at hp
  | some t =>
    cases t <;> simp only [hu] at hp <;> try (cases hp; done)
    rename_i fs
    have hbu : P.built T (parts.map fun (i, x) => (i, ev ρ x)).toList = some cells.toArray := by
      unfold Program.built
      simp only [hi, hu, hz, hp]
      rw [args_map, hc]
      have := fill_fillL (pl[·]?) _ zs cells h
      simpa using this
    unfold Yields
    simp only [execOp, Sem.run_bind, run_build w T _ _ hbu]
    rfl

class TBA (P : Program) (T : TypeId) (sz : outParam Nat) (zs : outParam (List Value)) : Prop where
  h : (match P.underlying T with | some (.array _ e) => (P.info? e).map (·.size) | _ => none) = some sz
  z : zeroOf P T = some zs
theorem y_buildA {sz : Nat} {zs cells : List Value} {parts : Array (Nat × Operand)} [hb : TBA P T sz zs] (h : fillL (fun i => some (i * sz, sz)) zs (parts.toList.map fun p => (p.1, ev ρ p.2)) = some cells) :
    Yields P ⟨d, .build T parts, ty, pos, es, g⟩ ρ w (.agg cells.toArray) := by
  obtain ⟨i, z, hi, hz, hc⟩ := zeroOf_info hb.z
  have hp := hb.h
  cases hu : P.underlying T with
  | none => simp [hu] at hp
  | some t =>
    cases t <;> simp only [hu] at hp <;> try (cases hp; done)
    rename_i n e
    cases he : P.info? e with
    | none => simp [he] at hp
    | some ie =>
      simp [he] at hp
      have hbu : P.built T (parts.map fun (i, x) => (i, ev ρ x)).toList = some cells.toArray := by
        unfold Program.built
        simp only [hi, hu, hz, he, hp]
        rw [args_map, hc]
        exact fill_fillL _ _ zs cells h
      unfold Yields
      simp only [execOp, Sem.run_bind, run_build w T _ _ hbu]
      rfl

/-! ### new blocks -/
theorem s_alloc {cs : List Value} [hz : TZ P T cs] (hw : Wd Γ S w) (hk : ∀ b w', Wd Γ (.blk b (.cells cs.toArray T) :: S) w' → K (.pointer (some ⟨b, 0, none⟩)) w') : Step P ⟨d, .alloc T, ty, pos, es, g⟩ ρ w K := by
  obtain ⟨i, z, hi, hzz, hc⟩ := zeroOf_info hz.h
  have hr : (execOp (ev ρ) ⟨d, .alloc T, ty, pos, es, g⟩).run P w = .ok (.value (.pointer (some ⟨w.heap.size, 0, none⟩))) (w.alloc (.cells cs.toArray T)) := by
    simp [execOp, go_sem, Instr.alloc, zeroValue, typeInfo, hi, hzz, newVar, newRow]
    rw [← hc]; rfl
  have hfin := hk _ _ (hw.alloc (.cells cs.toArray T))
  unfold Step
  rw [hr]
  exact hfin
theorem s_box {v : Value} (hw : Wd Γ S w) (hx : ev ρ x = v) (hk : ∀ b w', Wd Γ (.blk b (.cells v.cells T) :: S) w' → K (.pointer (some ⟨b, 0, none⟩)) w') : Step P ⟨d, .box T x, ty, pos, es, g⟩ ρ w K := by
  have hr : (execOp (ev ρ) ⟨d, .box T x, ty, pos, es, g⟩).run P w = .ok (.value (.pointer (some ⟨w.heap.size, 0, none⟩))) (w.alloc (.cells v.cells T)) := by
    simp [execOp, go_sem, Instr.box, newVar, newRow, hx]
  have hfin := hk _ _ (hw.alloc (.cells v.cells T))
  unfold Step
  rw [hr]
  exact hfin

/-! ### calls -/
theorem run_callFunc {f : Nat} [h : FnOk P f] (vs : Array Value) : (callFunc f vs).run P w = .ok (.enter f vs) w := by
  have hc := h.h
  unfold callable at hc
  cases hf : P.funcs[f]? with
  | none => simp [hf] at hc
  | some fn =>
    simp [hf] at hc
    obtain ⟨h1, h2⟩ := hc
    cases hb : fn.body with
    | none => simp [hb] at h1
    | some c => simp [callFunc, hf, h2, hb]
theorem s_call {f : Nat} {args : Array Operand} {tys : Array TypeId} {vs : Array Value} [FnOk P f] (ha : args.map (ev ρ) = vs) (hc : Calls P f vs w fun e w' => ∃ v, e = .returned v ∧ K v w') :
    Step P ⟨d, .call { callee := .value (.func f), args := args, argTypes := tys }, ty, pos, es, g⟩ ρ w K := by
  have hr : (execOp (ev ρ) ⟨d, .call { callee := .value (.func f), args := args, argTypes := tys }, ty, pos, es, g⟩).run P w = .ok (.enter f vs) w := by
    simp only [execOp, resolve, ha, ev, Deferred.ofValue, Sem.run_bind, Sem.run_pure, Result.andThen_ok, invoke]
    simp [run_callFunc]
  unfold Step
  rw [hr]
  exact hc
theorem s_callv {f : Nat} {t : Tmp} {args : Array Operand} {tys : Array TypeId} {vs fst cap : Array Value} [FnOk P f] (ht : ρ t = .func (.func f) fst cap) (ha : args.map (ev ρ) = vs) (hc : Calls P f (fst ++ vs ++ cap) w fun e w' => ∃ v, e = .returned v ∧ K v w') :
    Step P ⟨d, .call { callee := .value (.tmp t), args := args, argTypes := tys }, ty, pos, es, g⟩ ρ w K := by
  have hr : (execOp (ev ρ) ⟨d, .call { callee := .value (.tmp t), args := args, argTypes := tys }, ty, pos, es, g⟩).run P w = .ok (.enter f (fst ++ vs ++ cap)) w := by
    simp only [execOp, resolve, ha, ev, ht, Deferred.ofValue, Sem.run_bind, Sem.run_pure, Result.andThen_ok, invoke]
    simp [run_callFunc]
  unfold Step
  rw [hr]
  exact hc
theorem y_makeFunc {fn : Fn} {first cap : Array Operand} : Yields P ⟨d, .makeFunc fn first cap, ty, pos, es, g⟩ ρ w (.func fn (first.map (ev ρ)) (cap.map (ev ρ))) := by
  unfold Yields
  simp [execOp, go_sem, Instr.makeFunc]
end
end Mk
