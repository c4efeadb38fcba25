/- Maps: what a map holds, as a list of pairs in the order of their coming. -/
import Derived.Test.YtekdbdhkpolooaaBaseS
open Go
namespace Mk

def Res.mp (b : Nat) (l : List (Value × Value)) : Res where
  holds _ bs h := bs = [b] ∧ ∃ es clock, h b = some (.map es clock) ∧ es.toList.map (fun e => (e.key, e.val)) = l ∧ (es.toList.map (·.born)).Nodup ∧ ∀ e ∈ es.toList, e.born < clock
  loc m m' bs h h' _ hb := by
    rintro ⟨rfl, es, clock, h1, h2⟩
    exact ⟨rfl, es, clock, (hb b (by simp)).trans h1, h2⟩

/-- A type of keys. -/
class MKey (P : Program) (K : TypeId) (α : Type) where
  key : α → Value
  inj : ∀ a b, key a = key b → a = b
  dec : DecidableEq α
  check : ∀ empty a w, (Instr.checkKey empty 10000 K (key a)).run P w = .ok () w
  find : ∀ a (es : List MapEntry) (ks : List α) w, es.map (·.key) = ks.map key → (Instr.findKey K (key a) es).run P w = .ok ((ks.findIdx? (fun k => decide (k = a))).bind fun i => (es[i]?).map fun e => (i, e.val)) w
  stays : ∀ a w, (Instr.keyThatStays (key a) (key a)).run P w = .ok (key a) w

theorem findNow_run {kind : TypeDesc} {α : Type} [DecidableEq α] {key : α → Value} (h : ∀ a b, Instr.sameNow kind (key a) (key b) = some (decide (b = a))) (a : α) : ∀ (es : List MapEntry) (ks : List α) (i : Nat), es.map (·.key) = ks.map key →
    Instr.findNow kind (key a) es i = some (((ks.findIdx? (fun k => decide (k = a))).bind fun j => (es[j]?).map fun e => (i + j, e.val)))
  | [], [], i, _ => by simp [Instr.findNow]
  | [], _ :: _, _, h0 => by simp at h0
  | _ :: _, [], _, h0 => by simp at h0
  | e :: es, k :: ks, i, h0 => by
    simp only [List.map_cons, List.cons.injEq] at h0
    unfold Instr.findNow
    rw [h0.1, h a k]
    by_cases hk : k = a
    · simp [hk, List.findIdx?_cons]
    · simp only [hk, decide_false]
      rw [findNow_run h a es ks (i + 1) h0.2]
      simp only [List.findIdx?_cons, hk, decide_false, Bool.false_eq_true, if_false]
      cases ks.findIdx? (fun k => decide (k = a)) with
      | none => rfl
      | some j => simp [Nat.add_comm, Nat.add_left_comm]

theorem check_str {P : Program} {K : TypeId} (hT : P.underlying K = some .string) (empty : Bool) (a : ByteArray) (w : World) (n : Nat) : (Instr.checkKey empty (n + 1) K (.string a)).run P w = .ok () w := by
  unfold Instr.checkKey
  rw [Sem.run_bind, run_underlying hT]; rfl
theorem check_int {P : Program} {K : TypeId} {k : IntKind} (hT : P.underlying K = some (.int k)) (empty : Bool) (a : Int) (w : World) (n : Nat) : (Instr.checkKey empty (n + 1) K (.int k a)).run P w = .ok () w := by
  unfold Instr.checkKey
  rw [Sem.run_bind, run_underlying hT]; rfl
theorem bits_str (a : ByteArray) : Instr.sameBits 10000 (.string a) (.string a) = true := by
  have : (a == a) = true := by rw [beq_toListBytes, beq_toL]; simp
  unfold Instr.sameBits; exact this
theorem bits_int (k : IntKind) (a : Int) : Instr.sameBits 10000 (.int k a) (.int k a) = true := by
  unfold Instr.sameBits; simp

instance instMKeyStr {P : Program} {K : TypeId} [hT : TStr P K] : MKey P K ByteArray where
  key s := .string s
  inj a b h := by simpa using h
  dec := inferInstance
  check empty a w := check_str hT.h empty a w 9999
  find a es ks w h := by
    have := findNow_run (kind := .string) (key := fun s : ByteArray => Value.string s) (fun a b => by
      show some (a == b) = _
      rw [beq_toListBytes, beq_toL]
      by_cases h : a = b
      · simp [h]
      · simp [h, Ne.symm h]) a es ks 0 h
    simp [Instr.findKey, run_underlying hT.h, this]
  stays a w := by unfold Instr.keyThatStays; rw [bits_str]; rfl
instance instMKeyInt {P : Program} {K : TypeId} {k : IntKind} [hT : TInt P K k] : MKey P K Int where
  key n := .int k n
  inj a b h := by simpa using h
  dec := inferInstance
  check empty a w := check_int hT.h empty a w 9999
  find a es ks w h := by
    have := findNow_run (kind := .int k) (key := fun n : Int => Value.int k n) (fun a b => by
      show (if k = k then some (a == b) else none) = _
      by_cases h : a = b
      · simp [h]
      · simp [h, Ne.symm h]) a es ks 0 h
    simp [Instr.findKey, run_underlying hT.h, this]
  stays a w := by unfold Instr.keyThatStays; rw [bits_int]; rfl

/-! ### lists of pairs -/
section
variable {α β : Type} [DecidableEq α]
def aIx (l : List (α × β)) (a : α) : Option Nat := l.findIdx? fun p => decide (p.1 = a)
def aGet (l : List (α × β)) (a : α) : Option β := (aIx l a).bind fun i => (l[i]?).map (·.2)
def aSet (l : List (α × β)) (a : α) (v : β) : List (α × β) := match aIx l a with | some i => l.set i (a, v) | none => l ++ [(a, v)]
def aDel (l : List (α × β)) (a : α) : List (α × β) := match aIx l a with | some i => l.eraseIdx i | none => l
end

section
variable {P : Program} {Γ : Gho} {S : List Res} {w : World} {ρ : Fr} {KK : Value → World → Prop} {α β : Type}
variable {d : Option Tmp} {T U ty : TypeId} {pos : String} {es : Array Edge} {g : Option (Nat × Bool)} {x y z : Operand} {K E : TypeId}

/-- What lies in the map: keys of the type α, elements as f says. -/
abbrev Res.mpT (P : Program) (K : TypeId) [MKey P K α] (f : β → Value) (b : Nat) (l : List (α × β)) : Res := Res.mp b (l.map fun p => (MKey.key P K p.1, f p.2))

theorem Wd.at_mp {i b : Nat} {l : List (Value × Value)} (h : Wd Γ S w) (hi : S[i]? = some (.mp b l)) : ∃ es clock, w.heap[b]? = some (.map es clock) ∧ es.toList.map (fun e => (e.key, e.val)) = l ∧ (es.toList.map (·.born)).Nodup ∧ ∀ e ∈ es.toList, e.born < clock := by
  obtain ⟨bss, h1, _, _⟩ := h.own
  obtain ⟨bs, _, hr⟩ := Holds.get S bss i _ h1 hi
  exact hr.2

theorem Wd.set_mp {i b : Nat} {l l' : List (Value × Value)} {w' : World} (h : Wd Γ S w) (hi : S[i]? = some (.mp b l)) (hs : Same3 w w') (es : Array MapEntry) (clock : Nat) (hb : w'.heap[b]? = some (.map es clock)) (he : es.toList.map (fun e => (e.key, e.val)) = l')
    (hn : (es.toList.map (·.born)).Nodup) (hc : ∀ e ∈ es.toList, e.born < clock) (hk : ∀ k, k < w.heap.size → k ≠ b → w'.heap[k]? = w.heap[k]?) : Wd Γ (S.set i (.mp b l')) w' :=
  h.upd hi hs fun bs hr _ hlt => by
    obtain ⟨rfl, _⟩ := hr
    exact ⟨[b], ⟨rfl, es, clock, hb, he, hn, hc⟩, by simp, fun x hx' => ⟨Nat.lt_of_lt_of_le (hlt x hx') hs.size, .inl hx'⟩, fun k hk1 hk2 => hk k hk1 (by simpa using hk2)⟩

def setObjW (w : World) (b : Nat) (o : Obj) : World := { w with heap := w.heap.setIfInBounds b o }
theorem run_getObj_map {b : Nat} {es : Array MapEntry} {clock : Nat} (h : w.heap[b]? = some (.map es clock)) : (getObj b).run P w = .ok (.map es clock) w := by
  simp [getObj, Sem.run, h]
theorem run_setObj_map {b : Nat} {es : Array MapEntry} {clock : Nat} {o : Obj} (h : w.heap[b]? = some (.map es clock)) : (setObj b o).run P w = .ok () (setObjW w b o) := by
  simp [setObj, Sem.run, h, setObjW]
theorem setObjW_at {b : Nat} {o : Obj} (h : b < w.heap.size) : (setObjW w b o).heap[b]? = some o := by simp [setObjW, h]
theorem setObjW_ne {b k : Nat} {o : Obj} (h : k ≠ b) : (setObjW w b o).heap[k]? = w.heap[k]? := by simp [setObjW, Array.getElem?_setIfInBounds, Ne.symm h]
theorem same3_setObjW {b : Nat} {o : Obj} : Same3 w (setObjW w b o) := ⟨rfl, rfl, rfl, (by first | exact Nat.le_refl _ | exact Nat.le_succ _), by simp [setObjW]⟩

def zeroV (P : Program) (T : TypeId) : Option Value := (P.info? T).bind (·.zero)
class TZV (P : Program) (T : TypeId) (z : outParam Value) : Prop where h : zeroV P T = some z
theorem run_zeroValue {z : Value} (h : zeroV P T = some z) : (zeroValue T).run P w = .ok z w := by
  unfold zeroV at h
  cases hi : P.info? T with
  | none => simp [hi] at h
  | some q => simp [hi] at h; simp [zeroValue, typeInfo, hi, h]

section
variable [MK : MKey P K α] {f : β → Value} {l : List (α × β)} {a : α} {b i : Nat}

theorem ents_keys {es : Array MapEntry} (he : es.toList.map (fun e => (e.key, e.val)) = l.map fun p => (MKey.key P K p.1, f p.2)) : es.toList.map (·.key) = (l.map (·.1)).map (MKey.key P K) := by
  have := congrArg (List.map Prod.fst) he
  simpa [Function.comp_def] using this
theorem ents_len {es : Array MapEntry} (he : es.toList.map (fun e => (e.key, e.val)) = l.map fun p => (MKey.key P K p.1, f p.2)) : es.size = l.length := by
  have := congrArg List.length he
  simpa using this
theorem ents_get {es : Array MapEntry} (he : es.toList.map (fun e => (e.key, e.val)) = l.map fun p => (MKey.key P K p.1, f p.2)) {j : Nat} {p : α × β} (hj : l[j]? = some p) : ∃ e, es.toList[j]? = some e ∧ e.key = MKey.key P K p.1 ∧ e.val = f p.2 := by
  have h1 := congrArg (fun l => l[j]?) he
  simp only [List.getElem?_map, hj, Option.map_some] at h1
  cases hq : es.toList[j]? with
  | none => rw [hq] at h1; simp at h1
  | some e => rw [hq] at h1; simp at h1; exact ⟨e, rfl, h1.1, h1.2⟩
theorem run_find {es : Array MapEntry} (he : es.toList.map (fun e => (e.key, e.val)) = l.map fun p => (MKey.key P K p.1, f p.2)) (a : α) : (Instr.findKey K (MKey.key P K a) es.toList).run P w = .ok ((@aIx α β (MKey.dec P K) l a).bind fun i => (l[i]?).map fun p => (i, f p.2)) w := by
  rw [MKey.find a es.toList _ w (ents_keys he)]
  congr 1
  rw [List.findIdx?_map]
  unfold aIx
  have hcomp : (List.findIdx? ((fun k => @decide (k = a) (MKey.dec P K k a)) ∘ fun x : α × β => x.1) l) = l.findIdx? (fun p => @decide (p.1 = a) (MKey.dec P K _ _)) := rfl
  rw [hcomp]
  cases hq : l.findIdx? (fun p => @decide (p.1 = a) (MKey.dec P K _ _)) with
  | none => rfl
  | some j =>
    simp only [Option.bind_some]
    cases hj : l[j]? with
    | none =>
      have : es.toList[j]? = none := by
        have h1 := ents_len he
        have h2 := List.getElem?_eq_none_iff.1 hj
        exact List.getElem?_eq_none (by simp; omega)
      rw [this]; rfl
    | some p =>
      obtain ⟨e, h1, _, h3⟩ := ents_get he hj
      rw [h1]; simp [h3]

theorem aIx_get [DecidableEq α] {i : Nat} (h : aIx l a = some i) : ∃ v, l[i]? = some (a, v) := by
  unfold aIx at h
  rw [List.findIdx?_eq_some_iff_getElem] at h
  obtain ⟨h1, h2, _⟩ := h
  refine ⟨l[i].2, ?_⟩
  have : l[i].1 = a := by simpa using h2
  rw [List.getElem?_eq_getElem h1, ← this]

theorem y_lookup_some {u : β} [hM : TMap P T K E] (hw : Wd Γ S w) (hx : ev ρ x = .map (some b)) (hy : ev ρ y = MKey.key P K a) (hi : S[i]? = some (Res.mpT P K f b l)) (hg : @aGet α β (MKey.dec P K) l a = some u) (ok : Bool) :
    Yields P ⟨d, .lookup T x y ok, ty, pos, es, g⟩ ρ w (if ok then .tuple #[f u, .bool true] else f u) := by
  obtain ⟨en, clock, h1, h2, _, _⟩ := hw.at_mp hi
  have h3 := run_find (w := w) h2 a
  have h4 : ((@aIx α β (MKey.dec P K) l a).bind fun i => (l[i]?).map fun p => (i, f p.2)) = ((@aIx α β (MKey.dec P K) l a).map fun i => (i, f u)) := by
    unfold aGet at hg
    cases hq : @aIx α β (MKey.dec P K) l a with
    | none => rw [hq] at hg; simp at hg
    | some j =>
      rw [hq] at hg
      simp only [Option.bind_some] at hg ⊢
      cases hj : l[j]? with
      | none => rw [hj] at hg; simp at hg
      | some p => rw [hj] at hg; simp at hg; simp [hg]
  have h5 : ∃ j, @aIx α β (MKey.dec P K) l a = some j := by
    unfold aGet at hg
    cases hq : @aIx α β (MKey.dec P K) l a with
    | none => rw [hq] at hg; simp at hg
    | some j => exact ⟨j, rfl⟩
  obtain ⟨j, h5⟩ := h5
  rw [h4, h5] at h3
  unfold Yields
  simp only [execOp, hx, hy, Instr.lookup, Sem.run_bind, run_underlying hM.h, Result.andThen_ok, run_getObj_map h1, Sem.run_pure, MKey.check, h3, Option.map_some]
theorem y_lookup_none {zz : Value} [hM : TMap P T K E] [hz : TZV P E zz] (hw : Wd Γ S w) (hx : ev ρ x = .map (some b)) (hy : ev ρ y = MKey.key P K a) (hi : S[i]? = some (Res.mpT P K f b l)) (hg : @aGet α β (MKey.dec P K) l a = none) (ok : Bool) :
    Yields P ⟨d, .lookup T x y ok, ty, pos, es, g⟩ ρ w (if ok then .tuple #[zz, .bool false] else zz) := by
  obtain ⟨en, clock, h1, h2, _, _⟩ := hw.at_mp hi
  have h3 := run_find (w := w) h2 a
  have h4 : @aIx α β (MKey.dec P K) l a = none := by
    unfold aGet at hg
    cases hq : @aIx α β (MKey.dec P K) l a with
    | none => rfl
    | some j =>
      letI := MKey.dec (α := α) P K
      obtain ⟨v, hv⟩ := aIx_get hq
      rw [hq] at hg
      simp [hv] at hg
  rw [h4] at h3
  unfold Yields
  simp only [execOp, hx, hy, Instr.lookup, Sem.run_bind, run_underlying hM.h, Result.andThen_ok, run_getObj_map h1, Sem.run_pure, MKey.check, h3, Option.bind_none, run_zeroValue hz.h]
theorem y_lenM [hM : TMap P T K E] (hw : Wd Γ S w) (hx : ev ρ x = .map (some b)) (hi : S[i]? = some (Res.mpT P K f b l)) : Yields P ⟨d, .call { callee := .builtin .len, args := #[x], argTypes := #[T] }, ty, pos, es, g⟩ ρ w (.int .i64 l.length) := by
  obtain ⟨en, clock, h1, h2, _, _⟩ := hw.at_mp hi
  have h3 := ents_len h2
  unfold Yields
  simp [execOp, resolve, invoke, builtin, hx, Builtin.len_, run_underlying hM.h, run_getObj_map h1, h3, goInt]

theorem s_mapUpdate {v : β} [hM : TMap P T K E] (hw : Wd Γ S w) (hx : ev ρ x = .map (some b)) (hy : ev ρ y = MKey.key P K a) (hz : ev ρ z = f v) (hi : S[i]? = some (Res.mpT P K f b l))
    (hk : ∀ w', Wd Γ (S.set i (Res.mpT P K f b (@aSet α β (MKey.dec P K) l a v))) w' → KK undef w') : Step P ⟨d, .mapUpdate T x y z, ty, pos, es, g⟩ ρ w KK := by
  obtain ⟨en, clock, h1, h2, h6, h7⟩ := hw.at_mp hi
  have hblt : b < w.heap.size := (Array.getElem?_eq_some_iff.1 h1).1
  have h3 := run_find (w := w) h2 a
  letI := MKey.dec (α := α) P K
  cases hq : aIx l a with
  | none =>
    rw [hq] at h3
    have hr : (execOp (ev ρ) ⟨d, .mapUpdate T x y z, ty, pos, es, g⟩).run P w = .ok .skip (setObjW w b (.map (en.push { key := MKey.key P K a, val := f v, born := clock }) (clock + 1))) := by
      simp only [execOp, hx, hy, hz, Instr.mapUpdate, Sem.run_bind, run_underlying hM.h, Result.andThen_ok, run_getObj_map h1, Sem.run_pure, MKey.check, h3, Option.bind_none, run_setObj_map h1]
    have hfin := hk _ (hw.set_mp hi same3_setObjW (en.push { key := MKey.key P K a, val := f v, born := clock }) (clock + 1) (setObjW_at hblt) (l' := (aSet l a v).map fun p => (MKey.key P K p.1, f p.2)) (by simp only [aSet, hq, Array.toList_push, List.map_append, h2]; rfl) (by
        simp only [Array.toList_push, List.map_append, List.map_cons, List.map_nil, List.nodup_append]
        exact ⟨h6, by simp, fun x hx y hy hxy => by
          simp at hy; subst hy; subst hxy
          obtain ⟨e, he, hb⟩ := List.mem_map.1 hx
          have := h7 e he; omega⟩) (fun e he => by
        simp only [Array.toList_push, List.mem_append, List.mem_singleton] at he
        rcases he with he | rfl
        · have := h7 e he; omega
        · simp) fun k _ hne => setObjW_ne hne)
    unfold Step; rw [hr]; exact hfin
  | some j =>
    obtain ⟨v0, hv0⟩ := aIx_get hq
    obtain ⟨e, he1, he2, he3⟩ := ents_get h2 hv0
    rw [hq] at h3
    simp only [Option.bind_some, hv0, Option.map_some] at h3
    have hej : en[j]? = some e := by simpa using he1
    have hr : (execOp (ev ρ) ⟨d, .mapUpdate T x y z, ty, pos, es, g⟩).run P w = .ok .skip (setObjW w b (.map (en.modify j fun e => { e with key := MKey.key P K a, val := f v }) clock)) := by
      simp only [execOp, hx, hy, hz, Instr.mapUpdate, Sem.run_bind, run_underlying hM.h, Result.andThen_ok, run_getObj_map h1, Sem.run_pure, MKey.check, h3, hej, Option.map_some, Option.getD_some, he2, MKey.stays, run_setObj_map h1]
    have hmod : ∀ (l0 : List MapEntry) (j : Nat) (e0 : MapEntry), l0[j]? = some e0 → (l0.modify j fun e => { e with key := MKey.key P K a, val := f v }) = l0.set j { e0 with key := MKey.key P K a, val := f v } := by
      intro l0
      induction l0 with
      | nil => intro j e0 h; simp at h
      | cons x l0 ih =>
        intro j e0 h
        cases j with
        | zero => simp at h; subst h; rfl
        | succ j => simp at h; simp [ih j e0 h]
    have hl : (en.modify j fun e => { e with key := MKey.key P K a, val := f v }).toList = en.toList.set j { e with key := MKey.key P K a, val := f v } := by
      rw [Array.toList_modify]; exact hmod en.toList j e he1
    have hborn : (en.toList.set j { e with key := MKey.key P K a, val := f v }).map (·.born) = en.toList.map (·.born) := by
      rw [List.map_set]
      refine List.ext_getElem? fun k => ?_
      rw [List.getElem?_set]
      split
      · rename_i hjk; subst hjk
        split
        · simp [he1]
        · rename_i hlt; rw [List.getElem?_eq_none (by simpa using hlt)]
      · rfl
    have hfin := hk _ (hw.set_mp hi same3_setObjW (en.modify j fun e => { e with key := MKey.key P K a, val := f v }) clock (setObjW_at hblt) (l' := (aSet l a v).map fun p => (MKey.key P K p.1, f p.2)) (by
        rw [hl, List.map_set, h2]; simp only [aSet, hq, List.map_set]) (by rw [hl, hborn]; exact h6) (fun e' he' => by
        have : e'.born ∈ (en.toList.set j { e with key := MKey.key P K a, val := f v }).map (·.born) := by rw [hl] at he'; exact List.mem_map.2 ⟨e', he', rfl⟩
        rw [hborn] at this
        obtain ⟨e2, h8, h9⟩ := List.mem_map.1 this
        rw [← h9]; exact h7 e2 h8) fun k _ hne => setObjW_ne hne)
    unfold Step; rw [hr]; exact hfin

theorem s_delete [hM : TMap P T K E] (hw : Wd Γ S w) (hx : ev ρ x = .map (some b)) (hy : ev ρ y = MKey.key P K a) (hi : S[i]? = some (Res.mpT P K f b l))
    (hk : ∀ w', Wd Γ (S.set i (Res.mpT P K f b (@aDel α β (MKey.dec P K) l a))) w' → KK (.tuple #[]) w') : Step P ⟨d, .call { callee := .builtin .delete, args := #[x, y], argTypes := #[T, U] }, ty, pos, es, g⟩ ρ w KK := by
  obtain ⟨en, clock, h1, h2, h6, h7⟩ := hw.at_mp hi
  have hblt : b < w.heap.size := (Array.getElem?_eq_some_iff.1 h1).1
  have h3 := run_find (w := w) h2 a
  letI := MKey.dec (α := α) P K
  cases hq : aIx l a with
  | none =>
    rw [hq] at h3
    have hr : (execOp (ev ρ) ⟨d, .call { callee := .builtin .delete, args := #[x, y], argTypes := #[T, U] }, ty, pos, es, g⟩).run P w = .ok (.value (.tuple #[])) (setObjW w b (.map en clock)) := by
      simp [execOp, resolve, invoke, builtin, hx, hy, Builtin.delete_, run_underlying hM.h, run_getObj_map h1, MKey.check, h3, run_setObj_map h1]
    have hfin := hk _ (hw.set_mp hi same3_setObjW en clock (setObjW_at hblt) (l' := (aDel l a).map fun p => (MKey.key P K p.1, f p.2)) (by simp only [aDel, hq]; exact h2) h6 h7 fun k _ hne => setObjW_ne hne)
    unfold Step; rw [hr]; exact hfin
  | some j =>
    obtain ⟨v0, hv0⟩ := aIx_get hq
    rw [hq] at h3
    simp only [Option.bind_some, hv0, Option.map_some] at h3
    have hr : (execOp (ev ρ) ⟨d, .call { callee := .builtin .delete, args := #[x, y], argTypes := #[T, U] }, ty, pos, es, g⟩).run P w = .ok (.value (.tuple #[])) (setObjW w b (.map (en.eraseIdxIfInBounds j) clock)) := by
      simp [execOp, resolve, invoke, builtin, hx, hy, Builtin.delete_, run_underlying hM.h, run_getObj_map h1, MKey.check, h3, run_setObj_map h1]
    have hl : (en.eraseIdxIfInBounds j).toList = en.toList.eraseIdx j := by
      unfold Array.eraseIdxIfInBounds
      split
      · simp
      · rename_i h; rw [List.eraseIdx_of_length_le (by simpa using h)]
    have hmapE : ∀ {A B : Type} (q : A → B) (l0 : List A) (j : Nat), (l0.eraseIdx j).map q = (l0.map q).eraseIdx j := by
      intro A B q l0
      induction l0 with
      | nil => intro j; rfl
      | cons x l0 ih => intro j; cases j with | zero => rfl | succ j => simp [ih j]
    have hfin := hk _ (hw.set_mp hi same3_setObjW (en.eraseIdxIfInBounds j) clock (setObjW_at hblt) (l' := (aDel l a).map fun p => (MKey.key P K p.1, f p.2)) (by
        rw [hl, hmapE, h2]; simp only [aDel, hq, hmapE]) (by rw [hl, hmapE]; exact h6.sublist (List.eraseIdx_sublist ..)) (fun e he => h7 e (by rw [hl] at he; exact List.mem_of_mem_eraseIdx he)) fun k _ hne => setObjW_ne hne)
    unfold Step; rw [hr]; exact hfin
end

theorem s_makeMap [hM : TMap P T K E] [MKey P K α] {f : β → Value} (hw : Wd Γ S w) (hk : ∀ b w', Wd Γ (Res.mpT P K f b ([] : List (α × β)) :: S) w' → KK (.map (some b)) w') : Step P ⟨d, .makeMap T none, ty, pos, es, g⟩ ρ w KK := by
  have hr : (execOp (ev ρ) ⟨d, .makeMap T none, ty, pos, es, g⟩).run P w = .ok (.value (.map (some w.heap.size))) (w.alloc (.map #[] 0)) := by
    simp [execOp, Instr.makeMap]
  have hfin := hk _ _ (hw.add (r := Res.mpT P K f w.heap.size ([] : List (α × β))) (bs := [w.heap.size]) (w' := w.alloc (.map #[] 0)) ⟨rfl, rfl, rfl, (by first | exact Nat.le_refl _ | exact Nat.le_succ _), by simp⟩ ⟨rfl, #[], 0, heap_alloc_new w _, rfl, by simp, by simp⟩ (by simp) (by simp) fun k hk => heap_alloc_old w _ hk)
  unfold Step; rw [hr]; exact hfin
end
attribute [irreducible] Res.mp
end Mk
