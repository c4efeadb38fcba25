/- Slices of slices; slices that are owned and written; making slices. -/
import Derived.Test.YtekdbdhkpolooaaBase11
open Go
namespace Mk

/-- Where s[l:] begins. -/
def cutA (a : Option Addr) (l c sz : Nat) : Option Addr := if c = l then a else a.map (·.add (l * sz))

section
variable {P : Program} {Γ : Gho} {S : List Res} {w : World} {ρ : Fr} {K : Value → World → Prop} {sz e : Nat} {rows : List (List Value)}
variable {d : Option Tmp} {T U ty : TypeId} {pos : String} {es : Array Edge} {g : Option (Nat × Bool)} {x y z : Operand}

theorem TL.elem {E by' : Nat} {zs : List Value} (hT : TL P T E sz by' zs) : P.underlying T = some (.slice (P.elem T)) ∧ (Go.sizeOf (P.elem T)).run P w = .ok sz w := by
  obtain ⟨q, hq, hs, _⟩ := sizeBytes_info hT.s
  have he : P.elem T = E := by simp [Program.elem, hT.h]
  rw [he]
  exact ⟨hT.h, by simp [Go.sizeOf, typeInfo, hq, hs]⟩

theorem y_sliceLH {E by' n c : Nat} {zs : List Value} {a : Option Addr} {lo hi : Operand} {k1 k2 : IntKind} {l h : Int} [hT : TL P T E sz by' zs] (hx : ev ρ x = .slice a n c) (hl : ev ρ lo = .int k1 l) (hh : ev ρ hi = .int k2 h) (h0 : 0 ≤ l) (h1 : l ≤ h) (h2 : h ≤ c) :
    Yields P ⟨d, .slice T x (some lo) (some hi) none, ty, pos, es, g⟩ ρ w (.slice (cutA a l.toNat c sz) (h.toNat - l.toNat) (c - l.toNat)) := by
  obtain ⟨h3, h4⟩ := hT.elem (w := w)
  have h5 := run_sliceAt_slice (P := P) (w := w) T (.slice a n c) (some (.int k1 l)) (some (.int k2 h)) none h3
  have h6 := run_slice_lh (P := P) (w := w) T a n c h3 k1 k2 l h h0 h1 h2
  rw [h6, h4, Result.andThen_ok] at h5
  unfold Yields
  simp only [execOp, hx, hl, hh, Option.map_some, Option.map_none, Sem.run_bind, h5, Result.andThen_ok]
  rfl
theorem y_sliceL {E by' n c : Nat} {zs : List Value} {a : Option Addr} {lo : Operand} {k1 : IntKind} {l : Int} [hT : TL P T E sz by' zs] (hx : ev ρ x = .slice a n c) (hl : ev ρ lo = .int k1 l) (h0 : 0 ≤ l) (h1 : l ≤ n) :
    Yields P ⟨d, .slice T x (some lo) none none, ty, pos, es, g⟩ ρ w (.slice (cutA a l.toNat c sz) (n - l.toNat) (c - l.toNat)) := by
  obtain ⟨h3, h4⟩ := hT.elem (w := w)
  have h5 := run_sliceAt_slice (P := P) (w := w) T (.slice a n c) (some (.int k1 l)) none none h3
  have h6 := run_slice_l (P := P) (w := w) T a n c h3 k1 l h0 h1
  rw [h6, h4, Result.andThen_ok] at h5
  unfold Yields
  simp only [execOp, hx, hl, Option.map_some, Option.map_none, Sem.run_bind, h5, Result.andThen_ok]
  rfl
theorem cutA_zero {a : Option Addr} {c : Nat} : cutA a 0 c sz = a := by
  unfold cutA
  split
  · rfl
  · cases a <;> simp [Addr.add]
theorem y_sliceH {E by' n c : Nat} {zs : List Value} {a : Option Addr} {hi : Operand} {k2 : IntKind} {h : Int} [hT : TL P T E sz by' zs] (hx : ev ρ x = .slice a n c) (hh : ev ρ hi = .int k2 h) (h1 : 0 ≤ h) (h2 : h ≤ c) :
    Yields P ⟨d, .slice T x none (some hi) none, ty, pos, es, g⟩ ρ w (.slice a h.toNat c) := by
  obtain ⟨h3, h4⟩ := hT.elem (w := w)
  have h5 := run_sliceAt_slice (P := P) (w := w) T (.slice a n c) none (some (.int k2 h)) none h3
  have h6 := run_slice_h (P := P) (w := w) T a n c h3 k2 h h1 h2
  rw [h6, h4, Result.andThen_ok] at h5
  have h7 := cutA_zero (a := a) (c := c) (sz := sz)
  unfold cutA at h7
  unfold Yields
  simp only [execOp, hx, hh, Option.map_some, Option.map_none, Sem.run_bind, h5, Result.andThen_ok, sliced, h7, Nat.sub_zero]
  rfl
theorem y_sliceLHM {E by' n c : Nat} {zs : List Value} {a : Option Addr} {lo hi mx : Operand} {k1 k2 k3 : IntKind} {l h m : Int} [hT : TL P T E sz by' zs] (hx : ev ρ x = .slice a n c) (hl : ev ρ lo = .int k1 l) (hh : ev ρ hi = .int k2 h) (hm : ev ρ mx = .int k3 m) (h0 : 0 ≤ l) (h1 : l ≤ h) (h2 : h ≤ m) (h3' : m ≤ c) :
    Yields P ⟨d, .slice T x (some lo) (some hi) (some mx), ty, pos, es, g⟩ ρ w (.slice (cutA a l.toNat m.toNat sz) (h.toNat - l.toNat) (m.toNat - l.toNat)) := by
  obtain ⟨h3, h4⟩ := hT.elem (w := w)
  have h5 := run_sliceAt_slice (P := P) (w := w) T (.slice a n c) (some (.int k1 l)) (some (.int k2 h)) (some (.int k3 m)) h3
  have h6 := run_slice_lhm (P := P) (w := w) T a n c h3 k1 k2 k3 l h m h0 h1 h2 h3'
  rw [h6, h4, Result.andThen_ok] at h5
  unfold Yields
  simp only [execOp, hx, hl, hh, hm, Option.map_some, Sem.run_bind, h5, Result.andThen_ok]
  rfl

/-- A part of what can be read can be read. -/
theorem Rd.cut {a : Option Addr} {c : Nat} (h : Rd w a sz rows) (hc : rows.length ≤ c) (l : Nat) (hl : l ≤ rows.length) : Rd w (cutA a l c sz) sz (rows.drop l) := by
  refine ⟨fun r hr => h.len r (List.mem_of_mem_drop hr), fun hp => ?_, fun j u hj => ?_⟩
  · have hlt : l < rows.length := by simp at hp; omega
    have ha := h.at_ (by omega)
    unfold cutA
    rw [if_neg (by omega), ha]
    simp [Addr.add_mid, aB, aO]
  · have hlt : l < rows.length := by
      rcases Nat.lt_or_ge l rows.length with h' | h'
      · exact h'
      · rw [List.drop_eq_nil_of_le h'] at hj; simp at hj
    have ha := h.at_ (by omega)
    have he : cutA a l c sz = some ⟨aB a, aO a + l * sz, none⟩ := by
      unfold cutA; rw [if_neg (by omega)]
      conv => lhs; rw [ha]
      simp [Addr.add_mid]
    rw [he]
    have hd : rows.flatten[l * sz + j]? = some u := by
      have h1 : rows.flatten = (rows.take l).flatten ++ (rows.drop l).flatten := by rw [← List.flatten_append, List.take_append_drop]
      have h2 : (rows.take l).flatten.length = l * sz := by
        rw [flatten_len (sz := sz) fun r hr => h.len r (List.mem_of_mem_take hr)]; rw [List.length_take, Nat.min_eq_left (by omega)]
      rw [h1, List.getElem?_append_right (by omega), h2]
      rw [show l * sz + j - l * sz = j from by omega]; exact hj
    have := h.range _ u hd
    show w.cell? ⟨aB a, aO a + l * sz + j, none⟩ = some u
    rwa [Nat.add_assoc]
theorem Rd.take {a : Option Addr} (h : Rd w a sz rows) (m : Nat) : Rd w a sz (rows.take m) := by
  refine ⟨fun r hr => h.len r (List.mem_of_mem_take hr), fun hp => h.at_ (by simp at hp; omega), fun j u hj => h.range j u ?_⟩
  have h1 : rows.flatten = (rows.take m).flatten ++ (rows.drop m).flatten := by rw [← List.flatten_append, List.take_append_drop]
  rw [h1, List.getElem?_append_left (List.getElem?_eq_some_iff.1 hj).1]
  exact hj

theorem RepS.cut {a : Option Addr} {n c l h : Nat} (hr : RepS Γ (.slice a n c) sz rows) (h1 : l ≤ h) (h2 : h ≤ n) : RepS Γ (.slice (cutA a l c sz) (h - l) (c - l)) sz ((rows.drop l).take (h - l)) := by
  unfold RepS at *
  obtain ⟨h0, a', n', c', e1, e2, e3, e4, e5⟩ := hr
  cases e1
  refine ⟨fun r hr => h0 r (List.mem_of_mem_drop (List.mem_of_mem_take hr)), _, _, _, rfl, by simp; omega, by omega, by omega, fun hp => ?_⟩
  have hlt : l < rows.length := by simp at hp; omega
  obtain ⟨g, o, cur, e, fr, g1, g2, g3⟩ := e5 (by omega)
  refine ⟨g, o + l * sz, cur, e, fr, ?_, g2, fun j u hj => ?_⟩
  · unfold cutA; rw [if_neg (by omega), g1]; simp [Addr.add_mid]
  · rw [Nat.add_assoc]
    refine g3 _ u ?_
    have h1 : rows.flatten = (rows.take l).flatten ++ (((rows.drop l).take (h - l)).flatten ++ ((rows.drop l).drop (h - l)).flatten) := by
      rw [← List.flatten_append, List.take_append_drop, ← List.flatten_append, List.take_append_drop]
    have h2 : (rows.take l).flatten.length = l * sz := by
      rw [flatten_len (sz := sz) fun r hr => h0 r (List.mem_of_mem_take hr)]; rw [List.length_take, Nat.min_eq_left (by omega)]
    rw [h1, List.getElem?_append_right (by omega), h2, show l * sz + j - l * sz = j from by omega, List.getElem?_append_left (List.getElem?_eq_some_iff.1 hj).1]
    exact hj

/-- s[:m] of an owned slice, owned in its place. -/
theorem Wd.own_take {i m : Nat} {a : Option Addr} {n c : Nat} (hw : Wd Γ S w) (hi : S[i]? = some (.own (.slice a n c) e sz rows)) (hm : m ≤ n) : Wd Γ (S.set i (.own (.slice a m c) e sz (rows.take m))) w :=
  hw.upd hi ⟨rfl, rfl, rfl, (by first | exact Nat.le_refl _ | exact Nat.le_succ _), Nat.le_refl _⟩ fun bs hr hnd hlt => by
    unfold Res.own at hr ⊢
    obtain ⟨h0, a', n', c', e1, e2, e3, e4, e5⟩ := hr
    cases e1
    refine ⟨bs, ⟨fun r hr => h0 r (List.mem_of_mem_take hr), _, _, _, rfl, by simp; omega, by omega, e4, ?_⟩, hnd, fun b hb => ⟨hlt b hb, .inl hb⟩, fun _ _ _ => rfl⟩
    refine e5.imp id ?_
    rintro ⟨g, cur, g1, g2, g3, g4, g5⟩
    refine ⟨g, cur, g1, g2, g3, g4, ?_⟩
    have h1 : rows.flatten = (rows.take m).flatten ++ (rows.drop m).flatten := by rw [← List.flatten_append, List.take_append_drop]
    have h2 : (rows.take m).flatten.length = m * sz := by
      rw [flatten_len (sz := sz) fun r hr => h0 r (List.mem_of_mem_take hr)]; rw [List.length_take, Nat.min_eq_left (by omega)]
    have h3 : m * sz ≤ n * sz := Nat.mul_le_mul_right _ hm
    have h4 : cur.toList.take (m * sz) = (cur.toList.take (n * sz)).take (m * sz) := by rw [List.take_take, Nat.min_eq_left h3]
    rw [h4, g5, h1, List.take_left' h2]

/-- A block that is written behind what counts. -/
theorem own_tail {i : Nat} {a : Option Addr} {n c : Nat} {w' : World} (hw : Wd Γ S w) (hi : S[i]? = some (.own (.slice a n c) e sz rows)) (hs : Same3 w w')
    (H : ∀ g cur, a = some ⟨g, 0, none⟩ → w.heap[g]? = some (.cells cur e (0, 0)) → cur.size = c * sz → ∃ cur', w'.heap[g]? = some (.cells cur' e (0, 0)) ∧ cur'.size = cur.size ∧ cur'.toList.take (n * sz) = cur.toList.take (n * sz))
    (hk : ∀ k, k < w.heap.size → some k ≠ a.map (·.block) → w'.heap[k]? = w.heap[k]?) (h0 : c = 0 → ∀ k, k < w.heap.size → w'.heap[k]? = w.heap[k]?) : Wd Γ (S.set i (.own (.slice a n c) e sz rows)) w' :=
  hw.upd hi hs fun bs hr hnd hlt => by
    unfold Res.own at hr ⊢
    obtain ⟨q0, a', n', c', e1, e2, e3, e4, e5⟩ := hr
    cases e1
    rcases e5 with ⟨hc, hb⟩ | ⟨g, cur, g1, g2, g3, g4, g5⟩
    · exact ⟨bs, ⟨q0, _, _, _, rfl, e2, e3, e4, .inl ⟨hc, hb⟩⟩, hnd, fun b hb' => ⟨Nat.lt_of_lt_of_le (hlt b hb') hs.size, .inl hb'⟩, fun k hk1 _ => h0 hc k hk1⟩
    · obtain ⟨cur', k1, k2, k3⟩ := H g cur g1 g3 g4
      refine ⟨bs, ⟨q0, _, _, _, rfl, e2, e3, e4, .inr ⟨g, cur', g1, g2, k1, by omega, by rw [k3]; exact g5⟩⟩, hnd, fun b hb' => ⟨Nat.lt_of_lt_of_le (hlt b hb') hs.size, .inl hb'⟩, fun k hk1 hk2 => hk k hk1 fun heq => ?_⟩
      rw [g1] at heq; simp at heq; subst heq; exact hk2 (by simp [g2])

theorem run_clear {E by' : Nat} {zs : List Value} {a : Option Addr} {n m c l : Nat} [hT : TL P T E sz by' zs] {i : Nat} (hw : Wd Γ S w) (hi : S[i]? = some (.own (.slice a m c) E sz rows)) (hml : m ≤ l) (hln : l + n ≤ c) (h1 : ∀ u ∈ zs, u.oneCell' = true) :
    ∃ w', (Builtin.clear_ #[T] ty #[.slice (cutA a l c sz) n (c - l)]).run P w = .ok (.tuple #[]) w' ∧ Wd Γ (S.set i (.own (.slice a m c) E sz rows)) w' := by
  obtain ⟨q, z, hq, hz, hzc⟩ := zeroOf_info hT.z
  by_cases hn : n = 0
  · subst hn
    refine ⟨w, ?_, own_tail hw hi ⟨rfl, rfl, rfl, (by first | exact Nat.le_refl _ | exact Nat.le_succ _), Nat.le_refl _⟩ (fun g cur _ h2 _ => ⟨cur, h2, rfl, rfl⟩) (fun _ _ _ => rfl) fun _ _ _ => rfl⟩
    cases hca : cutA a l c sz <;> simp [Builtin.clear_, run_underlying hT.h]
  · obtain ⟨bs, hr⟩ := hw.own_holds hi
    unfold Res.own at hr
    obtain ⟨q0, a', n', c', e1, e2, e3, e4, e5⟩ := hr
    cases e1
    rcases e5 with ⟨hc, _⟩ | ⟨g, cur, g1, g2, g3, g4, g5⟩
    · omega
    · subst g1
      have hcut : cutA (some ⟨g, 0, none⟩) l c sz = some ⟨g, l * sz, none⟩ := by
        unfold cutA; rw [if_neg (by omega)]; simp [Addr.add_mid]
      have hzl : (Builtin.zeroCells z.cells n).toList.length = n * sz := by
        have := size_zeroCells z.cells n
        rw [Array.length_toList, this, hzc]; simp [hT.n.1]
      have h1' : ∀ u ∈ (Builtin.zeroCells z.cells n).toList, u.oneCell' = true := fun u hu => by
        simp only [Builtin.zeroCells, Array.toList_map, List.mem_map] at hu
        obtain ⟨j, hj, rfl⟩ := hu
        have hlt : j % z.cells.size < z.cells.size := Nat.mod_lt _ (by rw [hzc]; simp [hT.n.1]; exact hT.n.2)
        rw [getElem!_pos z.cells _ hlt]
        have hmem : z.cells[j % z.cells.size] ∈ z.cells.toList := Array.mem_toList_iff.2 (Array.getElem_mem hlt)
        have he : z.cells.toList = zs := by rw [hzc]
        rw [he] at hmem
        exact h1 _ hmem
      have hfit : l * sz + 0 + (Builtin.zeroCells z.cells n).toList.length ≤ cur.size := by
        rw [hzl, g4, Nat.add_zero, ← Nat.add_mul]; exact Nat.mul_le_mul_right _ hln
      have hst := run_storeCells_at P g (l * sz) E _ 0 cur w g3 hfit h1'
      simp only [Nat.add_zero] at hst
      have hzv : (zeroValue E).run P w = .ok z w := by simp [zeroValue, typeInfo, hq, hz]
      have hg : g < w.heap.size := (Array.getElem?_eq_some_iff.1 g3).1
      refine ⟨_, ?_, own_tail (w' := w.setRow g (cur.toList.take (l * sz) ++ (Builtin.zeroCells z.cells n).toList ++ cur.toList.drop (l * sz + (Builtin.zeroCells z.cells n).toList.length)).toArray) hw hi ⟨rfl, rfl, rfl, (by first | exact Nat.le_refl _ | exact Nat.le_succ _), by simp⟩ ?_ ?_ ?_⟩
      · rw [hcut]
        obtain ⟨n1, hn1⟩ : ∃ n1, n = n1 + 1 := ⟨n - 1, by omega⟩
        subst hn1
        simp [Builtin.clear_, run_underlying hT.h, hzv, hst]
      · intro g' cur' hg' hcur' _
        cases hg'
        rw [show w.heap[g]? = some (.cells cur E (0, 0)) from g3] at hcur'; cases hcur'
        refine ⟨_, setRow_heap w g cur _ E _ g3, ?_, ?_⟩
        · have hz2 : (Builtin.zeroCells z.cells n).size = n * sz := by simpa using hzl
          simp only [Array.length_toList, hz2] at hfit
          simp only [List.size_toArray, List.length_append, List.length_take, List.length_drop, Array.length_toList, hz2]; omega
        · have hmul : m * sz ≤ l * sz := Nat.mul_le_mul_right _ hml
          simp only [List.append_assoc]
          rw [List.take_append_of_le_length (by rw [List.length_take, Array.length_toList]; exact Nat.le_min.2 ⟨hmul, by omega⟩), List.take_take, Nat.min_eq_left hmul]
      · intro k hk hne
        exact setRow_other w g k _ (fun e => hne (by simp [e]))
      · intro hc0; omega

theorem s_clear {E by' : Nat} {zs : List Value} {a : Option Addr} {n m c l i : Nat} [hT : TL P T E sz by' zs] (hw : Wd Γ S w) (hi : S[i]? = some (.own (.slice a m c) E sz rows)) (hx : ev ρ x = .slice (cutA a l c sz) n (c - l)) (hml : m ≤ l) (hln : l + n ≤ c) (h1 : zs.all (·.oneCell') = true)
    (hk : ∀ w', Wd Γ (S.set i (.own (.slice a m c) E sz rows)) w' → K (.tuple #[]) w') : Step P ⟨d, .call { callee := .builtin .clear, args := #[x], argTypes := #[T] }, ty, pos, es, g⟩ ρ w K := by
  obtain ⟨w', hr, hw'⟩ := run_clear (P := P) (T := T) (ty := ty) (n := n) hw hi hml hln (fun u hu => (List.all_eq_true.1 h1) u hu)
  have hrr : (execOp (ev ρ) ⟨d, .call { callee := .builtin .clear, args := #[x], argTypes := #[T] }, ty, pos, es, g⟩).run P w = .ok (.value (.tuple #[])) w' := by
    simp only [execOp, resolve, invoke, builtin, Sem.run_bind, Sem.run_pure, Result.andThen_ok, List.map_toArray, List.map_cons, List.map_nil, hx, hr]
  have hfin := hk w' hw'
  unfold Step; rw [hrr]; exact hfin

theorem rows_set_flatten : ∀ {rows : List (List Value)} {k : Nat} {r : List Value}, (∀ r ∈ rows, r.length = sz) → r.length = sz → k < rows.length → (rows.set k r).flatten = rows.flatten.take (k * sz) ++ r ++ rows.flatten.drop (k * sz + sz)
  | [], _, _, _, _, hk => by simp at hk
  | r0 :: rows, 0, r, h, hr, _ => by
    have h0 := h r0 (by simp)
    simp [← h0]
  | r0 :: rows, k + 1, r, h, hr, hk => by
    have h0 := h r0 (by simp)
    have ih := rows_set_flatten (rows := rows) (k := k) (r := r) (fun x hx => h x (by simp [hx])) hr (by simpa using hk)
    simp only [List.set_cons_succ, List.flatten_cons, ih]
    have e1 : (k + 1) * sz = r0.length + k * sz := by rw [h0, Nat.add_mul]; omega
    have e2 : (k + 1) * sz + sz = r0.length + (k * sz + sz) := by omega
    rw [e2, e1, List.take_length_add_append, List.drop_length_add_append]
    simp

/-- An element of an owned slice is written. -/
theorem s_storeE {E k i n c : Nat} {a : Option Addr} {v : Value} {r : List Value} (hn : (P.info? T).map (·.size) = some sz) (hw : Wd Γ S w) (hx : ev ρ x = .pointer (some ⟨aB a, aO a + k * sz, none⟩)) (hy : ev ρ y = v) (hv : v.cells.toList = r) (hl : r.length = sz)
    (h1 : r.all (·.oneCell') = true) (hi : S[i]? = some (.own (.slice a n c) E sz rows)) (hkl : k < n) (hk : ∀ w', Wd Γ (S.set i (.own (.slice a n c) E sz (rows.set k r))) w' → K undef w') : Step P ⟨d, .store T x y, ty, pos, es, g⟩ ρ w K := by
  obtain ⟨bs0, hr0⟩ := hw.own_holds hi
  unfold Res.own at hr0
  obtain ⟨q0, a', n', c', e1, e2, e3, e4, e5⟩ := hr0
  cases e1
  rcases e5 with ⟨hc, _⟩ | ⟨b, cur, g1, g2, g3, g4, g5⟩
  · omega
  · subst g1
    have hx' : ev ρ x = .pointer (some ⟨b, k * sz, none⟩) := by rw [hx]; simp [aB, aO]
    have hfit : k * sz + 0 + r.length ≤ cur.size := by
      rw [hl, g4, Nat.add_zero, show k * sz + sz = (k + 1) * sz from by rw [Nat.add_mul]; omega]; exact Nat.mul_le_mul_right _ (by omega)
    have hst := run_storeCells_at P b (k * sz) E r 0 cur w g3 hfit (fun u hu => (List.all_eq_true.1 h1) u hu)
    simp only [Nat.add_zero] at hst
    have hsz : v.cells.size = sz := by rw [← hl, ← hv]; simp
    have hr : (execOp (ev ρ) ⟨d, .store T x y, ty, pos, es, g⟩).run P w = .ok .skip (w.setRow b (cur.toList.take (k * sz) ++ r ++ cur.toList.drop (k * sz + r.length)).toArray) := by
      cases hq : P.info? T with
      | none => simp [hq] at hn
      | some q =>
        have hs : q.size = sz := by simpa [hq] using hn
        have hz : (Go.sizeOf T).run P w = .ok sz w := by simp [Go.sizeOf, typeInfo, hq, hs]
        have hsv : (storeVar T ⟨b, k * sz, none⟩ v).run P w = .ok () (w.setRow b (cur.toList.take (k * sz) ++ r ++ cur.toList.drop (k * sz + r.length)).toArray) := by
          unfold storeVar
          rw [Sem.run_bind, hz]
          simp only [Result.andThen_ok, hsz, ne_eq, not_true_eq_false, if_false, hv]
          exact hst
        simp only [execOp, hx', hy, Instr.storeAt, Instr.sureAddr, Sem.run_bind, Sem.run_pure, Result.andThen_ok, hsv]
    have hfin := hk _ (hw.upd hi (w' := w.setRow b (cur.toList.take (k * sz) ++ r ++ cur.toList.drop (k * sz + r.length)).toArray) ⟨rfl, rfl, rfl, (by first | exact Nat.le_refl _ | exact Nat.le_succ _), by simp⟩ fun bs hr' hnd hlt => by
      unfold Res.own at hr' ⊢
      obtain ⟨q0', a2, n2, c2, f1, f2, f3, f4, f5⟩ := hr'
      cases f1
      rcases f5 with ⟨hc, _⟩ | ⟨b2, cur2, k1, k2, k3, k4, k5⟩
      · omega
      · cases k1
        rw [show hp w b = some (.cells cur E (0, 0)) from g3] at k3; cases k3
        refine ⟨bs, ⟨?_, _, _, _, rfl, by simpa using f2, f3, f4, .inr ⟨b, _, rfl, k2, setRow_heap w b cur _ E _ g3, ?_, ?_⟩⟩, hnd, fun x hx => ⟨by have := hlt x hx; simpa using this, .inl hx⟩, fun k' _ hne => setRow_other w b k' _ (fun e => hne (by simp [k2, e]))⟩
        · intro r' hr'
          rcases List.mem_or_eq_of_mem_set hr' with h | rfl
          · exact q0 r' h
          · exact hl
        · simp only [List.size_toArray, List.length_append, List.length_take, List.length_drop, Array.length_toList]; omega
        · rw [rows_set_flatten q0 hl (by omega), ← g5]
          have hkn : k * sz + sz ≤ n * sz := by rw [show k * sz + sz = (k + 1) * sz from by rw [Nat.add_mul]; omega]; exact Nat.mul_le_mul_right _ (by omega)
          have hns : n * sz ≤ cur.toList.length := by rw [Array.length_toList, g4]; exact Nat.mul_le_mul_right _ e3
          simp only [List.take_append, List.length_append, List.length_take, hl, List.take_take, List.drop_take]
          have m1 : min (k * sz) cur.toList.length = k * sz := by omega
          rw [m1, Nat.min_eq_right (by omega : k * sz ≤ n * sz), Nat.min_eq_left (by omega : k * sz ≤ n * sz), List.take_of_length_le (by omega : r.length ≤ n * sz - k * sz)]
        )
    unfold Step; rw [hr]; exact hfin

theorem s_buildSlice {E by' len : Nat} {zs : List Value} {parts : Array (Nat × Operand)} {cells : List Value} {rws : List (List Value)} [hT : TL P T E sz by' zs] (hw : Wd Γ S w)
    (hf : fillL (fun i => some (i * sz, sz)) ((List.range (len * sz)).map fun i => zs.getD (i % sz) undef) (parts.toList.map fun p => (p.1, ev ρ p.2)) = some cells) (hrw : rws.flatten = cells) (hlen : rws.length = len) (hr : ∀ r ∈ rws, r.length = sz) (hbig : len * sz ≤ 16777216)
    (hk : ∀ a w', Wd Γ (.own (.slice (some a) len len) E sz rws :: S) w' → K (.slice (some a) len len) w') : Step P ⟨d, .buildSlice T len parts, ty, pos, es, g⟩ ρ w K := by
  obtain ⟨q, z, hq, hz, hzc⟩ := zeroOf_info hT.z
  obtain ⟨q', hq', hs, _⟩ := sizeBytes_info hT.s
  rw [hq] at hq'; cases hq'
  have hsz : (Go.sizeOf E).run P w = .ok sz w := by simp [Go.sizeOf, typeInfo, hq, hs]
  have hzv : (zeroValue E).run P w = .ok z w := by simp [zeroValue, typeInfo, hq, hz]
  have hff := fill_fillL (fun i => some (i * sz, sz)) _ _ cells hf
  have hpm : (parts.map fun (i, x) => (i, ev ρ x)).toList = parts.toList.map fun p => (p.1, ev ρ p.2) := args_map parts
  have hr0 : (execOp (ev ρ) ⟨d, .buildSlice T len parts, ty, pos, es, g⟩).run P w = .ok (.value (.slice (some ⟨w.heap.size, 0, none⟩) len len)) (w.alloc (.cells cells.toArray E)) := by
    have hcs : ((Array.range (len * sz)).map fun i => (if len * sz = 0 then #[] else z.cells)[i % (if len * sz = 0 then #[] else z.cells).size]!) = ((List.range (len * sz)).map fun i => zs.getD (i % sz) undef).toArray := by
      by_cases h0 : len * sz = 0
      · simp [h0]
      · simp only [h0, if_false, hzc]
        apply Array.ext'
        simp only [Array.toList_map, Array.toList_range]
        refine List.map_congr_left fun i _ => ?_
        have hlt : i % sz < zs.length := by rw [hT.n.1]; exact Nat.mod_lt _ hT.n.2
        simp only [List.size_toArray, hT.n.1]
        rw [getElem!_pos (zs.toArray) _ (by simpa using hlt)]
        simp [List.getD_eq_getElem?_getD, List.getElem?_eq_getElem hlt]
    rw [← hcs, ← hpm] at hff
    by_cases h0 : len * sz = 0
    · simp only [h0, if_true] at hff
      simp only [execOp, Instr.buildSlice, Sem.run_bind, run_underlying hT.h, Result.andThen_ok, hsz, Nat.reducePow, gt_iff_lt, Nat.not_lt.2 hbig, if_false, h0, if_true, Nat.not_lt_zero, Sem.run_pure, hff, newRow, run_newObj_alloc]
    · simp only [h0, if_false] at hff
      simp only [execOp, Instr.buildSlice, Sem.run_bind, run_underlying hT.h, Result.andThen_ok, hsz, Nat.reducePow, gt_iff_lt, Nat.not_lt.2 hbig, if_false, h0, hzv, Sem.run_pure, hff, newRow, run_newObj_alloc]
  have hfin := hk ⟨w.heap.size, 0, none⟩ (w.alloc (.cells cells.toArray E)) (hw.add (bs := [w.heap.size]) ⟨rfl, rfl, rfl, (by first | exact Nat.le_refl _ | exact Nat.le_succ _), by simp⟩ (by
    have hfl : cells.length = len * sz := by rw [← hrw, flatten_len hr, hlen]
    unfold Res.own
    refine ⟨hr, _, _, _, rfl, hlen.symm, Nat.le_refl _, by
      have := hT.n.2
      have : len ≤ len * sz := Nat.le_mul_of_pos_right _ this
      simp [maxLen]; omega, .inr ⟨w.heap.size, cells.toArray, rfl, rfl, heap_alloc_new w _, by simpa using hfl, ?_⟩⟩
    rw [hrw]; simp [← hfl]) (by simp) (by simp) fun k hk => heap_alloc_old w _ hk)
  unfold Step; rw [hr0]; exact hfin
end
end Mk
