/- '==' at flat structs is equality of their cells. -/
import Derived.Test.YtekdbdhkpolooaaBase8
open Go
namespace Mk

def mkV (P : Program) (t : TypeId) (xs : List Value) : Value := match P.underlying t with
  | some (.struct _) => .agg xs.toArray
  | _ => xs.headD undef

section
variable {P : Program} {w : World}
open Classical in
theorem eqFs_run {d D : Nat} (ih : ∀ t ks, eqK P d t = some ks → ∀ xs ys : List Value, xs.map kOf = ks.map some → ys.map kOf = ks.map some → (Op.equalIn D t (mkV P t xs) (mkV P t ys)).run P w = .ok (decide (xs = ys)) w)
    (XS YS : Array Value) : ∀ (fs : List Field) (o : Nat) (ks : List Nat), eqFs P (eqK P d) fs o = some ks → (XS.toList.drop o).map kOf = ks.map some → (YS.toList.drop o).map kOf = ks.map some →
    (Op.eqFields D XS YS fs).run P w = .ok (decide (XS.toList.drop o = YS.toList.drop o)) w
  | [], o, ks, h, hx, hy => by
    simp [eqFs] at h; subst h
    simp only [List.map_nil, List.map_eq_nil_iff] at hx hy
    simp [Op.eqFields, hx, hy]
  | f :: fs, o, ks, h, hx, hy => by
    unfold eqFs at h
    split at h
    · cases h
    · rename_i hname
      split at h
      · cases h
      · rename_i hoff
        have hoff' : f.offset = o := Classical.byContradiction fun e => hoff e
        cases hk : eqK P d f.type with
        | none => simp [hk] at h
        | some k1 =>
          cases hi : P.info? f.type with
          | none => simp [hi, hk] at h
          | some q =>
            simp only [hi, Option.map_some, Option.getD_some, hk] at h
            cases hr : eqFs P (eqK P d) fs (o + q.size) with
            | none => simp [hr] at h
            | some rest =>
              simp only [hr] at h
              split at h
              · rename_i hlen
                simp at h; subst h
                have split_ : ∀ ZS : Array Value, (ZS.toList.drop o).map kOf = (k1 ++ rest).map some → ((ZS.toList.drop o).take q.size).map kOf = k1.map some ∧ (ZS.toList.drop (o + q.size)).map kOf = rest.map some ∧ ZS.toList.drop o = (ZS.toList.drop o).take q.size ++ ZS.toList.drop (o + q.size) := fun ZS hz => by
                  rw [List.map_append] at hz
                  have h1 : (ZS.toList.drop o) = (ZS.toList.drop o).take q.size ++ ZS.toList.drop (o + q.size) := by rw [← List.drop_drop, List.take_append_drop]
                  rw [h1, List.map_append] at hz
                  have hl : (((ZS.toList.drop o).take q.size).map kOf).length = (k1.map some).length := by
                    have hz' := congrArg List.length hz
                    simp only [List.length_append, List.length_map, List.length_take, List.length_drop] at hz' ⊢
                    omega
                  obtain ⟨p1, p2⟩ := List.append_inj hz hl
                  exact ⟨p1, p2, h1⟩
                obtain ⟨x1, x2, x3⟩ := split_ XS hx
                obtain ⟨y1, y2, y3⟩ := split_ YS hy
                have hpart : ∀ ZS : Array Value, ((ZS.toList.drop o).take q.size).map kOf = k1.map some → (part f.type ZS f.offset).run P w = .ok (mkV P f.type ((ZS.toList.drop o).take q.size)) w := fun ZS hz => by
                  subst hoff'
                  cases d with
                  | zero => simp [eqK] at hk
                  | succ d =>
                    unfold eqK at hk
                    cases hu : P.underlying f.type with
                    | none => simp [hu] at hk
                    | some u =>
                      have hagg : (isAgg f.type).run P w = .ok (match u with | .struct _ | .array _ _ => true | _ => false) w := by
                        unfold isAgg; rw [Sem.run_bind, run_underlying hu w]
                        cases u <;> simp
                      unfold part
                      rw [Sem.run_bind, hagg]
                      cases u with
                      | struct fs' =>
                        have hz2 : (Go.sizeOf f.type).run P w = .ok q.size w := by simp [Go.sizeOf, typeInfo, hi]
                        simp only [mkV, hu, Sem.run_bind, hz2, if_true, Result.andThen_ok, Sem.run_pure]
                        congr 2
                        exact Array.toList_inj.1 (by simp)
                      | _ =>
                        simp only [hu] at hk
                        split at hk
                        · rename_i k hkk
                          split at hk
                          · rename_i hsz
                            simp [hi] at hsz
                            simp at hk
                            first
                              | (simp [kT] at hkk; done)
                              | (subst hk
                                 have hex : ∃ v rest', ZS.toList.drop f.offset = v :: rest' := by
                                   cases hzd : ZS.toList.drop f.offset with
                                   | nil => rw [hzd] at hz; simp at hz
                                   | cons v rest' => exact ⟨v, rest', rfl⟩
                                 obtain ⟨v, rest', hv⟩ := hex
                                 have hget : ZS[f.offset]? = some v := by
                                   have : (ZS.toList.drop f.offset)[0]? = some v := by rw [hv]; rfl
                                   simpa using this
                                 simp [mkV, hu, hget, hsz, hv])
                          · cases hk
                        · cases hk
                have hnm : f.name ≠ "_" := hname
                have hA := hpart XS x1
                have hB := hpart YS y1
                have hE := ih f.type k1 hk _ _ x1 y1
                have hR := eqFs_run ih XS YS fs (o + q.size) rest hr x2 y2
                simp only [Op.eqFields, ne_eq, hnm, not_false_eq_true, if_true, Sem.run_bind, hA, hB, hE, Result.andThen_ok]
                by_cases he : (XS.toList.drop o).take q.size = (YS.toList.drop o).take q.size
                · simp only [he, decide_true, Bool.not_true, Bool.false_eq_true, if_false, hR]
                  congr 1
                  rw [decide_eq_decide, x3, y3, he]
                  exact ⟨fun h => by rw [h], fun h => List.append_cancel_left h⟩
                · have hne : ¬ XS.toList.drop o = YS.toList.drop o := fun h => he (by rw [h])
                  simp [he, hne]
              · cases h
theorem kIx_inj {a b : IntKind} (h : kIx a = kIx b) : a = b := by cases a <;> cases b <;> simp [kIx] at h <;> rfl
theorem kIx_ge (a : IntKind) : 2 ≤ kIx a := by cases a <;> simp [kIx]
theorem kOf0 {x : Value} (h : kOf x = some 0) : ∃ b, x = .bool b := by
  cases x <;> simp [kOf] at h
  · exact ⟨_, rfl⟩
  · rename_i k _; have := kIx_ge k; omega
theorem kOf1 {x : Value} (h : kOf x = some 1) : ∃ b, x = .string b := by
  cases x <;> simp [kOf] at h
  · rename_i k _; have := kIx_ge k; omega
  · exact ⟨_, rfl⟩
theorem kOfI {x : Value} {k : IntKind} (h : kOf x = some (kIx k)) : ∃ n, x = .int k n := by
  have h2 := kIx_ge k
  cases x <;> simp [kOf] at h <;> try omega
  have := kIx_inj h
  subst this; exact ⟨_, rfl⟩
open Classical in
theorem leaf_run (D : Nat) {t k : Nat} {u : TypeDesc} {x y : Value} (hu : P.underlying t = some u) (hk : kT u = some k) (hx : kOf x = some k) (hy : kOf y = some k) : (Op.equalIn (D + 1) t x y).run P w = .ok (decide (x = y)) w := by
  cases u <;> simp only [kT] at hk <;> try (cases hk; done)
  · cases hk
    obtain ⟨a, rfl⟩ := kOf0 hx; obtain ⟨b, rfl⟩ := kOf0 hy
    simp [Op.equalIn, run_underlying hu]; cases a <;> cases b <;> simp
  · cases hk
    obtain ⟨a, rfl⟩ := kOfI hx; obtain ⟨b, rfl⟩ := kOfI hy
    simp [Op.equalIn, run_underlying hu]; by_cases h : a = b <;> simp [h]
  · cases hk
    obtain ⟨a, rfl⟩ := kOf1 hx; obtain ⟨b, rfl⟩ := kOf1 hy
    have := beq_toListBytes a b
    simp only [Op.equalIn, Sem.run_bind, run_underlying hu, Result.andThen_ok, this, beq_toL, Sem.run_pure]
    by_cases h : a = b <;> simp [h]
open Classical in
theorem eqK_run : ∀ (d D : Nat), d ≤ D → ∀ t ks, eqK P d t = some ks → ∀ xs ys : List Value, xs.map kOf = ks.map some → ys.map kOf = ks.map some → (Op.equalIn D t (mkV P t xs) (mkV P t ys)).run P w = .ok (decide (xs = ys)) w
  | 0, _, _, _, _, h, _, _, _, _ => by simp [eqK] at h
  | d + 1, D, hD, t, ks, h, xs, ys, hx, hy => by
    obtain ⟨D', rfl⟩ : ∃ D', D = D' + 1 := ⟨D - 1, by omega⟩
    unfold eqK at h
    cases hu : P.underlying t with
    | none => simp [hu] at h
    | some u =>
      cases u with
      | struct fs =>
        simp only [hu] at h
        split at h
        · cases h
        · rename_i hst
          have hf : P.fieldsOf t = fs := by simp [Program.fieldsOf, hu]
          have := run_equalIn_struct (P := P) w D' t xs.toArray ys.toArray (by rw [hf]; exact hu) (by simpa using hst)
          simp only [mkV, hu, this, hf]
          have h2 := eqFs_run (w := w) (fun t ks => eqK_run d D' (by omega) t ks) xs.toArray ys.toArray fs.toList 0 ks h (by simpa using hx) (by simpa using hy)
          simpa using h2
      | _ =>
        simp only [hu] at h
        split at h
        · rename_i k hk
          split at h
          · simp at h; subst h
            match xs, ys, hx, hy with
            | [v], [u], hx, hy =>
              simp at hx hy
              simp only [mkV, hu, List.headD_cons]
              rw [leaf_run D' hu hk hx hy]
              congr 1
              simp
            | [], _, hx, _ => simp at hx
            | _ :: _ :: _, _, hx, _ => simp at hx
            | [_], [], _, hy => simp at hy
            | [_], _ :: _ :: _, _, hy => simp at hy
          · cases h
        · cases h
end

/-! ### data of flat types -/
class GoT (α : Type) where
  enc : α → List Value
  inj : ∀ a b, enc a = enc b → a = b
  ks : List Nat
  kinds : ∀ a, (enc a).map kOf = ks.map some

abbrev enc {α : Type} [GoT α] (a : α) : List Value := GoT.enc a

section
variable {P : Program} {w : World} {ρ : Fr} {d : Option Tmp} {T U ty : TypeId} {pos : String} {es : Array Edge} {g : Option (Nat × Bool)} {x y : Operand} {α : Type} [GoT α] [DecidableEq α] {a b : α} {ks : List Nat} [ht : TEq P T ks]

theorem mkV_struct (h : (match P.underlying T with | some (.struct _) => true | _ => false) = true) (xs : List Value) : mkV P T xs = .agg xs.toArray := by
  unfold mkV
  cases hu : P.underlying T with
  | none => simp [hu] at h
  | some u => cases u <;> simp [hu] at h ⊢

open Classical in
theorem run_eqT (hk : (GoT.ks α) = ks) : (Op.equalIn 10000 T (.agg (enc a).toArray) (.agg (enc b).toArray)).run P w = .ok (decide (a = b)) w := by
  have h1 := eqK_run (P := P) (w := w) 5 10000 (by omega) T ks ht.h (enc a) (enc b) (by rw [← hk]; exact GoT.kinds a) (by rw [← hk]; exact GoT.kinds b)
  rw [mkV_struct ht.s, mkV_struct ht.s] at h1
  rw [h1]
  congr 1
  rw [decide_eq_decide]
  exact ⟨GoT.inj a b, fun h => by rw [h]⟩
theorem y_eqT (hx : ev ρ x = .agg (enc a).toArray) (hy : ev ρ y = .agg (enc b).toArray) (hk : (GoT.ks α) = ks) : Yields P ⟨d, .binOp .eql T x y U, ty, pos, es, g⟩ ρ w (.bool (decide (a = b))) := by
  have h1 := run_eqT (P := P) (w := w) (T := T) (a := a) (b := b) hk
  have h2 := run_eqGuard_agg (P := P) (w := w) .eql T x y (enc a).toArray (enc b).toArray ht.g
  have h3 := run_eql_struct (P := P) (w := w) T (enc a).toArray (enc b).toArray
  unfold Yields
  simp only [execOp, hx, hy, Sem.run_bind, h2, h3, h1, Result.andThen_ok, Sem.run_pure]
  try congr 3
theorem y_neqT (hx : ev ρ x = .agg (enc a).toArray) (hy : ev ρ y = .agg (enc b).toArray) (hk : (GoT.ks α) = ks) : Yields P ⟨d, .binOp .neq T x y U, ty, pos, es, g⟩ ρ w (.bool (decide (a ≠ b))) := by
  have h1 := run_eqT (P := P) (w := w) (T := T) (a := a) (b := b) hk
  have h2 := run_eqGuard_agg (P := P) (w := w) .neq T x y (enc a).toArray (enc b).toArray ht.g
  have h3 := run_neq_struct (P := P) (w := w) T (enc a).toArray (enc b).toArray
  unfold Yields
  simp only [execOp, hx, hy, Sem.run_bind, h2, h3, h1, Result.andThen_ok, Sem.run_pure]
  congr 3
  by_cases h : a = b <;> simp [h]
end
end Mk
namespace Mk
theorem ret_b {v : Value} {a b : Bool} (h : v = .bool a) (hab : a = b) : Ending.returned v = .returned (.bool b) := by rw [h, hab]
theorem ret_i {v : Value} {k : IntKind} {a b : Int} (h : v = .int k a) (hab : a = b) : Ending.returned v = .returned (.int k b) := by rw [h, hab]
theorem get_lt {α : Type} {l : List α} {k : Nat} (h : k < l.length) : ∃ x, l[k]? = some x := ⟨l[k], List.getElem?_eq_getElem h⟩
end Mk
