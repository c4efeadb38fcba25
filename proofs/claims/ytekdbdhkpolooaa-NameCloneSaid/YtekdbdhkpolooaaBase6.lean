/- Slices: what stands for ever (RepS), what is owned (Res.own); reading and appending. -/
import Derived.Test.YtekdbdhkpolooaaBase5
open Go
namespace Mk

def aB (a : Option Addr) : Nat := (a.getD ⟨0, 0, none⟩).block
def aO (a : Option Addr) : Nat := (a.getD ⟨0, 0, none⟩).off

/-- The rows lie at a, one behind the other. -/
structure Rd (w : World) (a : Option Addr) (sz : Nat) (rows : List (List Value)) : Prop where
  len : ∀ r ∈ rows, r.length = sz
  at_ : 0 < rows.length → a = some ⟨aB a, aO a, none⟩
  range : w.rangeAt (aB a) (aO a) rows.flatten

def RepS (Γ : Gho) (v : Value) (sz : Nat) (rows : List (List Value)) : Prop :=
  (∀ r ∈ rows, r.length = sz) ∧ ∃ a n c, v = .slice a n c ∧ n = rows.length ∧ n ≤ c ∧ c ≤ maxLen ∧
    (0 < rows.length → ∃ g o cur e fr, a = some ⟨g, o, none⟩ ∧ Γ.imm g = some (.cells cur e fr) ∧ ∀ j u, rows.flatten[j]? = some u → cur[o + j]? = some u)

def Res.own (v : Value) (e sz : Nat) (rows : List (List Value)) : Res where
  holds _ bs h := (∀ r ∈ rows, r.length = sz) ∧ ∃ a n c, v = .slice a n c ∧ n = rows.length ∧ n ≤ c ∧ c ≤ maxLen ∧
    ((c = 0 ∧ bs = []) ∨ ∃ g cur, a = some ⟨g, 0, none⟩ ∧ bs = [g] ∧ h g = some (.cells cur e (0, 0)) ∧ cur.size = c * sz ∧ cur.toList.take (n * sz) = rows.flatten)
  loc m m' bs h h' _ hb := by
    rintro ⟨h1, a, n, c, h2, h3, h4, h5, h6⟩
    refine ⟨h1, a, n, c, h2, h3, h4, h5, h6.imp id ?_⟩
    rintro ⟨g, cur, g1, rfl, g3, g4⟩
    exact ⟨g, cur, g1, rfl, (hb g (by simp)).trans g3, g4⟩

theorem flatten_len {sz : Nat} : ∀ {rows : List (List Value)}, (∀ r ∈ rows, r.length = sz) → rows.flatten.length = rows.length * sz
  | [], _ => by simp
  | r :: rows, h => by
    have h1 := h r (by simp)
    have h2 := flatten_len (rows := rows) fun x hx => h x (by simp [hx])
    simp only [List.flatten_cons, List.length_append, h1, h2, List.length_cons, Nat.add_mul, Nat.one_mul]; omega

theorem flatten_get {sz : Nat} : ∀ {rows : List (List Value)} {i : Nat} {r : List Value}, (∀ r ∈ rows, r.length = sz) → rows[i]? = some r → ∀ j u, r[j]? = some u → rows.flatten[i * sz + j]? = some u
  | [], i, r, _, hi => by simp at hi
  | r0 :: rows, 0, r, h, hi => by
    simp at hi; subst hi
    intro j u hj
    rw [Nat.zero_mul, Nat.zero_add, List.flatten_cons, List.getElem?_append_left]
    · exact hj
    · exact (List.getElem?_eq_some_iff.1 hj).1
  | r0 :: rows, i + 1, r, h, hi => by
    intro j u hj
    have h1 := h r0 (by simp)
    have h2 := flatten_get (rows := rows) (i := i) (fun x hx => h x (by simp [hx])) (by simpa using hi) j u hj
    rw [List.flatten_cons, List.getElem?_append_right (by rw [h1, Nat.add_mul]; omega)]
    rw [h1, show (i + 1) * sz + j - sz = i * sz + j from by rw [Nat.add_mul]; omega]
    exact h2

section
variable {P : Program} {Γ Γ' : Gho} {S : List Res} {w : World} {ρ : Fr} {K : Value → World → Prop} {sz e : Nat} {rows : List (List Value)} {v : Value}

theorem RepS.shape (h : RepS Γ v sz rows) : ∃ a n c, v = .slice a n c ∧ n = rows.length ∧ n ≤ c ∧ c ≤ 9223372036854775807 := by
  obtain ⟨_, a, n, c, h1, h2, h3, h4, _⟩ := h
  exact ⟨a, n, c, h1, h2, h3, by simpa [maxLen] using h4⟩
theorem RepS.mono (h : RepS Γ v sz rows) (hl : Γ.le Γ') : RepS Γ' v sz rows := by
  obtain ⟨h0, a, n, c, h1, h2, h3, h4, h5⟩ := h
  refine ⟨h0, a, n, c, h1, h2, h3, h4, fun hp => ?_⟩
  obtain ⟨g, o, cur, e, fr, g1, g2, g3⟩ := h5 hp
  exact ⟨g, o, cur, e, fr, g1, hl.imm _ _ g2, g3⟩
theorem RepS.rd {a : Option Addr} {n c : Nat} (h : RepS Γ (.slice a n c) sz rows) (hw : Wd Γ S w) : Rd w a sz rows := by
  obtain ⟨h0, a', n', c', h1, h2, h3, h4, h5⟩ := h
  cases h1
  refine ⟨h0, fun hp => ?_, fun j u hj => ?_⟩
  · obtain ⟨g, o, cur, e, fr, g1, _, _⟩ := h5 hp
    subst g1; rfl
  · have hp : 0 < rows.length := by
      cases rows with
      | nil => simp at hj
      | cons r rows => simp
    obtain ⟨g, o, cur, e, fr, g1, g2, g3⟩ := h5 hp
    subst g1
    have := hw.imm _ _ g2
    exact cell_of this (g3 j u hj)
theorem RepS.nil : RepS Γ (.slice none 0 0) sz [] := ⟨by simp, none, 0, 0, rfl, rfl, Nat.le_refl _, by simp, by simp⟩

theorem Wd.own_holds {i : Nat} (hw : Wd Γ S w) (hi : S[i]? = some (.own v e sz rows)) : ∃ bs, (Res.own v e sz rows).holds Γ.imm bs (hp w) := by
  obtain ⟨bss, h1, _, _⟩ := hw.own
  obtain ⟨bs, _, hr⟩ := Holds.get S bss i _ h1 hi
  exact ⟨bs, hr⟩
theorem Wd.own_shape {i : Nat} (hw : Wd Γ S w) (hi : S[i]? = some (.own v e sz rows)) : ∃ a n c, v = .slice a n c ∧ n = rows.length ∧ n ≤ c ∧ c ≤ 9223372036854775807 := by
  obtain ⟨bs, _, a, n, c, h1, h2, h3, h4, _⟩ := hw.own_holds hi
  exact ⟨a, n, c, h1, h2, h3, by simpa [maxLen] using h4⟩
theorem own_rd_of {bs : List Nat} {a : Option Addr} {n c : Nat} {m : Hp} (h : (Res.own (.slice a n c) e sz rows).holds m bs (hp w)) : Rd w a sz rows := by
  obtain ⟨h0, a', n', c', h1, h2, h3, h4, h5⟩ := h
  cases h1
  subst h2
  rcases h5 with ⟨hc, _⟩ | ⟨g, cur, g1, _, g3, g4, g5⟩
  · have : rows = [] := List.eq_nil_of_length_eq_zero (by omega)
    subst this
    exact ⟨by simp, by simp, fun j u hj => by simp at hj⟩
  · subst g1
    refine ⟨h0, fun _ => rfl, fun j u hj => cell_of (E := e) (fr := (0, 0)) g3 ?_⟩
    rw [← g5] at hj
    have hlt : j < rows.length * sz := by
      have := (List.getElem?_eq_some_iff.1 hj).1
      simp at this; omega
    rw [List.getElem?_take_of_lt hlt] at hj
    show cur[0 + j]? = some u
    simpa using hj
theorem Wd.own_rd {i : Nat} {a : Option Addr} {n c : Nat} (hw : Wd Γ S w) (hi : S[i]? = some (.own (.slice a n c) e sz rows)) : Rd w a sz rows := by
  obtain ⟨bs, h⟩ := hw.own_holds hi
  exact own_rd_of h

theorem Rd.elem {a : Option Addr} {i : Nat} {r : List Value} (h : Rd w a sz rows) (hi : rows[i]? = some r) : w.rangeAt (aB a) (aO a + i * sz) r := fun j u hj => by
  have := h.range (i * sz + j) u (flatten_get h.len hi j u hj)
  rwa [← Nat.add_assoc] at this

theorem rows_map {α : Type} {enc : α → List Value} {xs : List α} {i : Nat} {x : α} (h : xs[i]? = some x) : (xs.map enc)[i]? = some (enc x) := by simp [h]

variable {d : Option Tmp} {T U ty : TypeId} {pos : String} {es : Array Edge} {g : Option (Nat × Bool)} {x y z : Operand}

theorem y_indexAddr {E by' : Nat} {zs : List Value} {a : Option Addr} {n c : Nat} {k : IntKind} {i : Int} [hT : TL P T E sz by' zs] (hx : ev ρ x = .slice a n c) (hy : ev ρ y = .int k i) (h0 : 0 ≤ i) (h1 : i < n) (ha : a = some ⟨aB a, aO a, none⟩) :
    Yields P ⟨d, .indexAddr T x y, ty, pos, es, g⟩ ρ w (.pointer (some ⟨aB a, aO a + i.toNat * sz, none⟩)) := by
  obtain ⟨q, hq, hs, _⟩ := sizeBytes_info hT.s
  have he : P.elem T = E := by simp [Program.elem, hT.h]
  have hE : P.underlying T = some (.slice (P.elem T)) := by rw [he]; exact hT.h
  have hr := run_indexAt_slice (P := P) w T ⟨aB a, aO a, none⟩ n c k i hE
  rw [if_pos ⟨h0, h1⟩, he] at hr
  have hz : (Go.sizeOf E).run P w = .ok sz w := by simp [Go.sizeOf, typeInfo, hq, hs]
  rw [hz, Result.andThen_ok, Addr.add_mid] at hr
  unfold Yields
  rw [ha] at hx
  simp only [execOp, hx, hy, Sem.run_bind, hr, Result.andThen_ok]
  rfl

/-- An element's whole value. -/
theorem y_loadE {a : Option Addr} {k : Nat} {r : List Value} [ha : TA P T sz] (hx : ev ρ x = .pointer (some ⟨aB a, aO a + k * sz, none⟩)) (hr : Rd w a sz rows) (hk : rows[k]? = some r) :
    Yields P ⟨d, .load T x, ty, pos, es, g⟩ ρ w (.agg r.toArray) :=
  y_loadn hx (hr.len r (List.mem_of_getElem? hk)) (hr.elem hk)
/-- An element of one cell. -/
theorem y_loadE1 {a : Option Addr} {k : Nat} {u : Value} [ha : TS P T] (hx : ev ρ x = .pointer (some ⟨aB a, aO a + k * 1, none⟩)) (hr : Rd w a 1 rows) (hk : rows[k]? = some [u]) :
    Yields P ⟨d, .load T x, ty, pos, es, g⟩ ρ w u :=
  y_load1 hx (by have := hr.elem hk 0 u rfl; simpa using this)
/-- A field of an element. -/
theorem y_loadEf {a : Option Addr} {k f : Nat} {r : List Value} {u : Value} [ha : TS P T] (hx : ev ρ x = .pointer (some ⟨aB a, aO a + k * sz + f, none⟩)) (hr : Rd w a sz rows) (hk : rows[k]? = some r) (hf : r[f]? = some u) :
    Yields P ⟨d, .load T x, ty, pos, es, g⟩ ρ w u :=
  y_load1 hx (hr.elem hk f u hf)

theorem y_loadEf2 {a : Option Addr} {k f f2 : Nat} {r : List Value} {u : Value} [ha : TS P T] (hx : ev ρ x = .pointer (some ⟨aB a, aO a + k * sz + f + f2, none⟩)) (hr : Rd w a sz rows) (hk : rows[k]? = some r) (hf : r[f + f2]? = some u) : Yields P ⟨d, .load T x, ty, pos, es, g⟩ ρ w u :=
  y_loadEf (by rw [hx, Nat.add_assoc (aO a + k * sz)]) hr hk hf
theorem y_loadEsub {a : Option Addr} {k f m : Nat} {r vs : List Value} [ha : TA P T m] (hx : ev ρ x = .pointer (some ⟨aB a, aO a + k * sz + f, none⟩)) (hr : Rd w a sz rows) (hk : rows[k]? = some r) (hf : (r.drop f).take m = vs) (hl : vs.length = m) :
    Yields P ⟨d, .load T x, ty, pos, es, g⟩ ρ w (.agg vs.toArray) := by
  refine y_loadn hx hl fun j u hj => ?_
  have h1 := hr.elem hk
  rw [← hf] at hj
  have hj2 : r[f + j]? = some u := by
    have hjm : j < m := by
      have := (List.getElem?_eq_some_iff.1 hj).1
      simp only [List.length_take, List.length_drop] at this; omega
    rw [List.getElem?_take_of_lt hjm, List.getElem?_drop] at hj
    exact hj
  have := h1 (f + j) u hj2
  rwa [← Nat.add_assoc] at this
theorem y_cap {E by' : Nat} {zs : List Value} {a : Option Addr} {m c : Nat} [hT : TL P T E sz by' zs] (hx : ev ρ x = .slice a m c) : Yields P ⟨d, .call { callee := .builtin .cap, args := #[x], argTypes := #[T] }, ty, pos, es, g⟩ ρ w (.int .i64 c) := by
  have he : P.underlying T = some (.slice (P.elem T)) := by simp [Program.elem, hT.h]
  have h1 := run_cap_slice (P := P) (w := w) T ty a m c he
  unfold Yields; simp [execOp, go_sem, hx]; simp [h1, goInt]

/-! ### append -/
theorem run_append_none (t ty e : TypeId) (q : TypeInfo) (ht : P.underlying t = some (.slice e)) (hi : P.info? e = some q) (a : Option Addr) (n c : Nat) (h : n ≤ c) (a2 : Option Addr) (c2 : Nat) :
    (Builtin.append_ #[t, t] ty #[.slice a n c, .slice a2 0 c2]).run P w = .ok (.slice a n c) w := by
  cases a <;> cases a2 <;> simp [Builtin.append_, run_underlying ht, Go.sizeOf, typeInfo, hi, Builtin.lenOf, h, Builtin.firstCells, loadCells, loadCellsFrom, storeCells]

theorem run_append_res {E by' : Nat} {zs : List Value} {a a2 : Option Addr} {n c m c2 : Nat} {rows2 : List (List Value)} {bs : List Nat} {mm : Hp} [hT : TL P T E sz by' zs]
    (hown : (Res.own (.slice a n c) E sz rows).holds mm bs (hp w)) (hr2 : Rd w a2 sz rows2) (hm : m = rows2.length) (h1 : ∀ u ∈ rows2.flatten, u.oneCell' = true) (hb : (n + m) * by' ≤ 140737488355328) (h63 : n + m ≤ 9223372036854775807) :
    ∃ v' w' bs', (Builtin.append_ #[T, T] ty #[.slice a n c, .slice a2 m c2]).run P w = .ok v' w' ∧ Same3 w w' ∧ (Res.own v' E sz (rows ++ rows2)).holds mm bs' (hp w') ∧ bs'.Nodup ∧ (∀ b ∈ bs', b < w'.heap.size ∧ (b ∈ bs ∨ w.heap.size ≤ b)) ∧ (∀ k, k < w.heap.size → k ∉ bs → w'.heap[k]? = w.heap[k]?) ∧ (n + m ≤ c → v' = .slice a (n + m) c) := by
  obtain ⟨q, hq, hs, hby⟩ := sizeBytes_info hT.s
  obtain ⟨q', z, hq', hz, hzc⟩ := zeroOf_info hT.z
  rw [hq] at hq'; cases hq'
  obtain ⟨hzl, hsz⟩ := hT.n
  have hrd := own_rd_of hown
  obtain ⟨h0, a', n', c', e1, e2, e3, e4, e5⟩ := hown
  cases e1
  subst e2; subst hs; subst hby
  have hzs : z.cells.size = q.size := by rw [hzc]; simpa using hzl
  have hlen : ∀ r ∈ rows ++ rows2, r.length = q.size := fun r hr => by
    rcases List.mem_append.1 hr with h | h
    · exact h0 r h
    · exact hr2.len r h
  have f1 := flatten_len h0
  have f2 := flatten_len hr2.len
  by_cases hm0 : m = 0
  · subst hm0
    have : rows2 = [] := List.eq_nil_of_length_eq_zero hm.symm
    subst this
    refine ⟨_, w, bs, run_append_none T ty E q hT.h hq _ _ _ e3 _ _, ⟨rfl, rfl, rfl, (by first | exact Nat.le_refl _ | exact Nat.le_succ _), Nat.le_refl _⟩, ?_, ?_, ?_, fun _ _ _ => rfl, fun _ => rfl⟩
    · rw [List.append_nil]; exact ⟨h0, _, _, _, rfl, rfl, e3, e4, e5⟩
    · rcases e5 with ⟨_, rfl⟩ | ⟨g, cur, _, rfl, _⟩ <;> simp
    · rcases e5 with ⟨_, rfl⟩ | ⟨g, cur, _, rfl, g3, _⟩
      · simp
      · intro b hb'
        simp at hb'
        subst hb'
        exact ⟨(Array.getElem?_eq_some_iff.1 g3).1, .inl (by simp)⟩
  · have hpos : 0 < rows2.length := by omega
    have ha2 := hr2.at_ hpos
    have hnews : ∀ j u, rows2.flatten[j]? = some u → w.cell? ((⟨aB a2, aO a2, none⟩ : Addr).add j) = some u := fun j u hj => by rw [Addr.add_mid]; exact hr2.range j u hj
    have hl2 : rows2.flatten.length = m * q.size := by rw [f2, hm]
    have h63' : ((rows.length + m : Nat) : Int) ≤ 9223372036854775807 := by omega
    have grown : ∀ old, old < rows.length + m → ∃ bs', (Res.own (.slice (some ⟨w.heap.size, 0, none⟩) (rows.length + m) (grownCap w (rows.length + m) old E)) E q.size (rows ++ rows2)).holds mm bs' (hp (w.drew.alloc (.cells (rows.flatten.toArray ++ rows2.flatten.toArray ++ Builtin.zeroCells z.cells (grownCap w (rows.length + m) old E - (rows.length + m))) E))) ∧
        bs'.Nodup ∧ (∀ b ∈ bs', b < (w.drew.alloc (.cells (rows.flatten.toArray ++ rows2.flatten.toArray ++ Builtin.zeroCells z.cells (grownCap w (rows.length + m) old E - (rows.length + m))) E)).heap.size ∧ (b ∈ bs ∨ w.heap.size ≤ b)) := by
      intro old ho
      have hge := grownCap_ge w (rows.length + m) old E
      have hcm : grownCap w (rows.length + m) old E ≤ maxLen := grownCap_le_maxLen w (rows.length + m) old E (by simp [maxLen]; omega)
      refine ⟨[w.heap.size], ⟨hlen, _, _, _, rfl, by simp [hm], hge, hcm, .inr ⟨w.heap.size, _, rfl, rfl, heap_alloc_new w.drew _, ?_, ?_⟩⟩, by simp, by simp⟩
      · simp only [Array.size_append, List.size_toArray, size_zeroCells, hzs, f1, hl2, ← Nat.add_mul]
        congr 1; omega
      · simp only [Array.toList_append, List.append_assoc, List.flatten_append]
        rw [← List.append_assoc, show (rows.length + m) * q.size = (rows.flatten ++ rows2.flatten).length from by simp [f1, hl2, Nat.add_mul]]
        exact List.take_left
    have same : ∀ o, Same3 w (w.drew.alloc o) := fun o => ⟨rfl, rfl, rfl, (by first | exact Nat.le_refl _ | exact Nat.le_succ _), by simp⟩
    have old_ : ∀ o k, k < w.heap.size → (w.drew.alloc o).heap[k]? = w.heap[k]? := fun o k hk => heap_alloc_old w.drew o hk
    by_cases hroom : rows.length + m ≤ c
    · rcases e5 with ⟨hc0, _⟩ | ⟨g, cur, rfl, rfl, g3, g4, g5⟩
      · omega
      · have hfit : rows.length * q.size + rows2.flatten.length ≤ cur.size := by rw [hl2, g4, ← Nat.add_mul]; exact Nat.mul_le_mul_right _ hroom
        have hr := run_append_room (P := P) w T ty E q hT.h hq g rows.length c cur g3 ⟨aB a2, aO a2, none⟩ m c2 rows2.flatten hl2 hnews h1 hroom hfit
        rw [ha2]
        refine ⟨_, _, [g], hr, ⟨rfl, rfl, rfl, (by first | exact Nat.le_refl _ | exact Nat.le_succ _), by simp⟩, ⟨hlen, _, _, _, rfl, by simp [hm], hroom, e4, .inr ⟨g, _, rfl, rfl, setRow_heap w g cur _ E _ g3, ?_, ?_⟩⟩, by simp, ?_, fun k hk hne => setRow_other w g k _ (by simpa using hne), fun _ => rfl⟩
        · simp only [List.size_toArray, List.length_append, List.length_take, List.length_drop, Array.length_toList]; omega
        · show List.take _ (List.toArray _).toList = _
          rw [g5, show (rows.length + m) * q.size = (rows.flatten ++ rows2.flatten).length from by simp [f1, hl2, Nat.add_mul]]
          simp only [List.flatten_append]
          exact List.take_left
        · intro b hb'; simp at hb'; subst hb'
          exact ⟨by have := (Array.getElem?_eq_some_iff.1 g3).1; simpa using this, .inl (by simp)⟩
    · have hold : ∀ b0, a = some b0 → ∀ j u, rows.flatten[j]? = some u → w.cell? (b0.add j) = some u := fun b0 hb0 j u hj => by
        have hp0 : 0 < rows.length := by cases rows with | nil => simp at hj | cons => simp
        have h2 := hrd.at_ hp0
        rw [h2] at hb0; cases hb0
        rw [Addr.add_mid]; exact hrd.range j u hj
      obtain ⟨bs', hb1, hb2, hb3⟩ := grown c (by omega)
      rw [ha2]
      cases ha : a with
      | none =>
        have hn0 : rows.length = 0 := by
          rcases Nat.eq_zero_or_pos rows.length with h | h
          · exact h
          · have := hrd.at_ h; rw [ha] at this; cases this
        have hc0 : c = 0 := by
          rcases e5 with ⟨hc0, _⟩ | ⟨g, cur, h', _⟩
          · exact hc0
          · rw [ha] at h'; cases h'
        have hrn : rows = [] := List.eq_nil_of_length_eq_zero hn0
        subst hrn; subst hc0
        have hr := run_append_nil (P := P) w T ty E q z hT.h hq hz ⟨aB a2, aO a2, none⟩ m c2 rows2.flatten hl2 hnews (by omega) (by omega) (by simp at hb; omega)
        simp only [List.length_nil, Nat.zero_add, List.flatten_nil, Array.empty_append] at hb1 hb3 ⊢
        exact ⟨_, _, bs', hr, same _, hb1, hb2, hb3, fun k hk _ => old_ _ k hk, fun hh => absurd hh (by first | exact hroom | (simp at hroom ⊢; omega))⟩
      | some b0 =>
        have hr := run_append_grow (P := P) w T ty E q z hT.h hq hz b0 rows.length c rows.flatten f1 (hold b0 ha) ⟨aB a2, aO a2, none⟩ m c2 rows2.flatten hl2 hnews (by omega) h63' (growslice_fits (by omega) hb)
        exact ⟨_, _, bs', hr, same _, hb1, hb2, hb3, fun k hk _ => old_ _ k hk, fun hh => absurd hh (by first | exact hroom | (simp at hroom ⊢; omega))⟩

theorem s_appendF {E by' i : Nat} {zs : List Value} {a a2 : Option Addr} {n c m c2 : Nat} {rows2 : List (List Value)} [hT : TL P T E sz by' zs] (hw : Wd Γ S w) (hx : ev ρ x = .slice a n c) (hy : ev ρ y = .slice a2 m c2)
    (hi : S[i]? = some (.own (.slice a n c) E sz rows)) (hr2 : Rd w a2 sz rows2) (hm : m = rows2.length) (h1 : ∀ u ∈ rows2.flatten, u.oneCell' = true) (hb : (n + m) * by' ≤ 140737488355328) (h63 : n + m ≤ 9223372036854775807)
    (hk : ∀ v' w', (n + m ≤ c → v' = .slice a (n + m) c) → Wd Γ (S.set i (.own v' E sz (rows ++ rows2))) w' → K v' w') : Step P ⟨d, .call { callee := .builtin .append, args := #[x, y], argTypes := #[T, T] }, ty, pos, es, g⟩ ρ w K := by
  obtain ⟨bss, h2, h3, h4⟩ := hw.own
  obtain ⟨bs, hbs, hown⟩ := Holds.get S bss i _ h2 hi
  obtain ⟨v', w', bs', hr, hs, hh, hnd, hbb, hkk, hfit⟩ := run_append_res (P := P) (T := T) (ty := ty) (c2 := c2) hown hr2 hm h1 hb h63
  have hfin : K v' w' := hk v' w' hfit (hw.upd hi hs fun bs2 hr2' hnd2 hlt2 => by
    obtain ⟨v2, w2, bs2', q1, q2, q3, q4, q5, q6, -⟩ := run_append_res (P := P) (T := T) (ty := ty) (c2 := c2) hr2' hr2 hm h1 hb h63
    rw [hr] at q1; cases q1
    exact ⟨bs2', q3, q4, q5, q6⟩)
  have hrr : (execOp (ev ρ) ⟨d, .call { callee := .builtin .append, args := #[x, y], argTypes := #[T, T] }, ty, pos, es, g⟩).run P w = .ok (.value v') w' := by
    simp only [execOp, resolve, invoke, builtin, Sem.run_bind, Sem.run_pure, Result.andThen_ok, List.map_toArray, List.map_cons, List.map_nil, hx, hy, hr]
  unfold Step
  rw [hrr]
  exact hfin

theorem s_append {E by' i : Nat} {zs : List Value} {a a2 : Option Addr} {n c m c2 : Nat} {rows2 : List (List Value)} [hT : TL P T E sz by' zs] (hw : Wd Γ S w) (hx : ev ρ x = .slice a n c) (hy : ev ρ y = .slice a2 m c2)
    (hi : S[i]? = some (.own (.slice a n c) E sz rows)) (hr2 : Rd w a2 sz rows2) (hm : m = rows2.length) (h1 : ∀ u ∈ rows2.flatten, u.oneCell' = true) (hb : (n + m) * by' ≤ 140737488355328) (h63 : n + m ≤ 9223372036854775807)
    (hk : ∀ v' w', Wd Γ (S.set i (.own v' E sz (rows ++ rows2))) w' → K v' w') : Step P ⟨d, .call { callee := .builtin .append, args := #[x, y], argTypes := #[T, T] }, ty, pos, es, g⟩ ρ w K :=
  s_appendF hw hx hy hi hr2 hm h1 hb h63 fun v' w' _ => hk v' w'

theorem Wd.addNil {a : Option Addr} {E : Nat} (hw : Wd Γ S w) : Wd Γ (.own (.slice a 0 0) E sz [] :: S) w := by
  obtain ⟨bss, h1, h2, h3⟩ := hw.own
  exact ⟨hw.os, hw.tape, hw.out, hw.dr, hw.imm, [] :: bss, ⟨⟨by simp, a, 0, 0, rfl, rfl, Nat.le_refl _, by simp, .inl ⟨rfl, rfl⟩⟩, h1⟩, by simpa using h2, fun b hb => h3 b (by simpa using hb)⟩

/-- What was built is given out: it stands for ever. -/
theorem Wd.giveOwn {E : Nat} (h : Wd Γ (.own v E sz rows :: S) w) : ∃ Γ', Γ.le Γ' ∧ Wd Γ' S w ∧ RepS Γ' v sz rows := by
  obtain ⟨Γ', bs, h1, h2, h3, h4⟩ := h.give
  obtain ⟨h0, a, n, c, e1, e2, e3, e4, e5⟩ := h3
  refine ⟨Γ', h1, h2, h0, a, n, c, e1, e2, e3, e4, fun hp => ?_⟩
  rcases e5 with ⟨hc, _⟩ | ⟨g, cur, g1, g2, g3, g4, g5⟩
  · omega
  · refine ⟨g, 0, cur, E, (0, 0), g1, (h4 g (by simp [g2])).trans g3, fun j u hj => ?_⟩
    rw [← g5] at hj
    have hlt : j < n * sz := by
      have := (List.getElem?_eq_some_iff.1 hj).1
      simp at this; omega
    rw [List.getElem?_take_of_lt hlt] at hj
    simpa using hj
end
attribute [irreducible] Res.own RepS
end Mk
