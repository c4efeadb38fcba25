/- A given list of steps, as the walk reads it; and what is given is read back. -/
import Derived.Test.YtekdbdhkpolooaaN23
import Derived.Test.YtekdbdhkpolooaaF1
import Derived.Deep.Slices
import Derived.ReadAgain
open Go Mk
namespace Go.Proofs.Ytekdbdhkpolooaa
open Go.ChangeShapes Go.WideShapes Go.ChangeAt Go.RowKit
section
variable {H : Type} {en : TypeId × Value → H} {W W' : World} {base : Nat} {sp : Nat → Bool} {held : Bool} {S : List Res}
theorem field_at {t : TypeId} {fs : Array Field} {n : Nat} {cs : List Value} {y : DataW H × List MemPlace} (ht : Try.prog.underlying t = some (.struct fs)) (h : DataW.trod en Try.prog W base sp held n t cs = some y) (i : Nat) {f : Field} (hi : fs[i]? = some f) :
    ∃ m z, DataW.trod en Try.prog W base sp held m f.type ((cs.drop f.offset).take (Try.prog.cellsOf f.type)) = some z := by
  obtain ⟨xs, k, -, -, -, hx, hf⟩ := DataW.trod_struct ht h
  have h1 := hf i f hi
  have hil : i < xs.length := by rw [hx]; exact (Array.getElem?_eq_some_iff.1 hi).1
  exact ⟨k, _, h1.trans (List.getElem?_eq_getElem hil)⟩
theorem at_of {cs : List Value} {o : Nat} {v : Value} (h : (cs.drop o).take 1 = [v]) : cs[o]? = some v := by
  have h1 := congrArg (fun l : List Value => l[0]?) h
  simpa using h1
theorem int_at {t : TypeId} {fs : Array Field} {n : Nat} {cs : List Value} {y : DataW H × List MemPlace} (ht : Try.prog.underlying t = some (.struct fs)) (h : DataW.trod en Try.prog W base sp held n t cs = some y) (i : Nat) {f : Field} (hi : fs[i]? = some f) (hf : f.type = 3) : ∃ v : Int, cs[f.offset]? = some (.int .i64 v) := by
  obtain ⟨m, z, h1⟩ := field_at ht h i hi
  rw [hf, show Try.prog.cellsOf 3 = 1 from by kernel_rfl] at h1
  obtain ⟨v, h2, -⟩ := DataW.trod_int Try.underlying3 h1
  exact ⟨v, at_of h2⟩
theorem bool_at {t : TypeId} {fs : Array Field} {n : Nat} {cs : List Value} {y : DataW H × List MemPlace} (ht : Try.prog.underlying t = some (.struct fs)) (h : DataW.trod en Try.prog W base sp held n t cs = some y) (i : Nat) {f : Field} (hi : fs[i]? = some f) (hf : f.type = 4) : ∃ v : Bool, cs[f.offset]? = some (.bool v) := by
  obtain ⟨m, z, h1⟩ := field_at ht h i hi
  rw [hf, show Try.prog.cellsOf 4 = 1 from by kernel_rfl] at h1
  obtain ⟨v, h2, -⟩ := DataW.trod_bool Try.underlying4 h1
  exact ⟨v, at_of h2⟩
theorem string_at {t : TypeId} {fs : Array Field} {n : Nat} {cs : List Value} {y : DataW H × List MemPlace} (ht : Try.prog.underlying t = some (.struct fs)) (h : DataW.trod en Try.prog W base sp held n t cs = some y) (i : Nat) {f : Field} (hi : fs[i]? = some f) (hf : f.type = 9) : ∃ v : ByteArray, cs[f.offset]? = some (.string v) := by
  obtain ⟨m, z, h1⟩ := field_at ht h i hi
  rw [hf, show Try.prog.cellsOf 9 = 1 from by kernel_rfl] at h1
  obtain ⟨v, h2, -⟩ := DataW.trod_string Try.underlying9 h1
  exact ⟨v, at_of h2⟩
theorem read_svc {n : Nat} {cs : List Value} {y : DataW H × List MemPlace} (hl : cs.length = 4) (h : DataW.trod en Try.prog W base sp held n 31 cs = some y) : ∃ s : Service, cs = enc s := by
  obtain ⟨a0, h0⟩ := string_at Try.underlying31 h 0 rfl rfl
  obtain ⟨a1, h1⟩ := int_at Try.underlying31 h 1 rfl rfl
  obtain ⟨a2, h2⟩ := int_at Try.underlying31 h 2 rfl rfl
  obtain ⟨a3, h3⟩ := int_at Try.underlying31 h 3 rfl rfl
  refine ⟨⟨a0, a1, a2, a3⟩, ?_⟩
  clear h
  match cs, hl with
  | [c0, c1, c2, c3], _ =>
    cases h0; cases h1; cases h2; cases h3; rfl
theorem read_wtr {n : Nat} {cs : List Value} {y : DataW H × List MemPlace} (hl : cs.length = 3) (h : DataW.trod en Try.prog W base sp held n 35 cs = some y) : ∃ s : Waiter, cs = enc s := by
  obtain ⟨a0, h0⟩ := int_at Try.underlying35 h 0 rfl rfl
  obtain ⟨a1, h1⟩ := int_at Try.underlying35 h 1 rfl rfl
  obtain ⟨a2, h2⟩ := string_at Try.underlying35 h 2 rfl rfl
  refine ⟨⟨a0, a1, a2⟩, ?_⟩
  clear h
  match cs, hl with
  | [c0, c1, c2], _ =>
    cases h0; cases h1; cases h2; rfl
set_option maxRecDepth 100000 in
theorem read_step {n : Nat} {cs : List Value} {y : DataW H × List MemPlace} (hl : cs.length = 12) (h : DataW.trod en Try.prog W base sp held n 45 cs = some y) : ∃ s : Step, cs = enc s := by
  obtain ⟨a0, h0⟩ := int_at Try.underlying45 h 0 rfl rfl
  obtain ⟨a1, h1⟩ := int_at Try.underlying45 h 1 rfl rfl
  obtain ⟨a2, h2⟩ := int_at Try.underlying45 h 2 rfl rfl
  obtain ⟨a3, h3⟩ := int_at Try.underlying45 h 3 rfl rfl
  obtain ⟨a4, h4⟩ := bool_at Try.underlying45 h 4 rfl rfl
  obtain ⟨m5, z5, h5⟩ := field_at Try.underlying45 h 5 rfl
  obtain ⟨m6, z6, h6⟩ := field_at Try.underlying45 h 6 rfl
  have h5 : DataW.trod en Try.prog W base sp held m5 31 ((cs.drop 5).take (Try.prog.cellsOf 31)) = some z5 := h5
  have h6 : DataW.trod en Try.prog W base sp held m6 35 ((cs.drop 9).take (Try.prog.cellsOf 35)) = some z6 := h6
  rw [show Try.prog.cellsOf 31 = 4 from by kernel_rfl] at h5
  rw [show Try.prog.cellsOf 35 = 3 from by kernel_rfl] at h6
  obtain ⟨⟨s0, s1, s2, s3⟩, h5⟩ := read_svc (by simp; omega) h5
  obtain ⟨⟨w0, w1, w2⟩, h6⟩ := read_wtr (by simp; omega) h6
  refine ⟨⟨a0, a1, a2, a3, a4, ⟨s0, s1, s2, s3⟩, ⟨w0, w1, w2⟩⟩, ?_⟩
  clear h
  match cs, hl with
  | [c0, c1, c2, c3, c4, c5, c6, c7, c8, c9, c10, c11], _ =>
    cases h0; cases h1; cases h2; cases h3; cases h4; cases h5; cases h6; rfl

theorem flat_inv {sz : Nat} : ∀ {rows : List (List Value)}, (∀ r ∈ rows, r.length = sz) → ∀ {j : Nat} {u : Value}, rows.flatten[j]? = some u → ∃ i r row, rows[i]? = some row ∧ row[r]? = some u ∧ j = i * sz + r
  | [], _, j, u, h => by simp at h
  | a :: rows, hl, j, u, h => by
    rw [List.flatten_cons] at h
    by_cases hj : j < a.length
    · rw [List.getElem?_append_left hj] at h
      exact ⟨0, j, a, rfl, h, by omega⟩
    · rw [List.getElem?_append_right (by omega)] at h
      obtain ⟨i, r, row, h1, h2, h3⟩ := flat_inv (fun r hr => hl r (List.mem_cons_of_mem _ hr)) h
      have ha := hl a (List.mem_cons_self ..)
      refine ⟨i + 1, r, row, by simpa using h1, h2, ?_⟩
      rw [Nat.add_mul, Nat.one_mul]; omega
theorem read_steps {n : Nat} {v : Value} {y : DataW H × List MemPlace} (h : DataW.trod en Try.prog W base sp held n 40 [v] = some y) : ∃ xs : List Step, RepS (allG W) v 12 (xs.map enc) := by
  have hc : Try.prog.cellsOf 45 = 12 := by kernel_rfl
  rcases Deep.open_slice Try.underlying40 h with ⟨h0, -⟩ | ⟨a, len, cap, m, k, D, Pl, h0, -, hlc, hcm, hm, -, hel⟩
  · cases h0
    refine ⟨[], ?_⟩
    unfold RepS
    exact ⟨by simp, none, 0, 0, rfl, rfl, by omega, Nat.zero_le _, fun hh => by simp at hh⟩
  · cases h0
    have hlm : len ≤ m := by rw [hm]; split <;> omega
    have hx : ∀ i, i < len → ∃ s : Step, ∀ j u, (enc s)[j]? = some u → W.cell? (a.add (i * 12 + j)) = some u := fun i hi => by
      obtain ⟨cs', h1, h2⟩ := hel i (by omega)
      rw [hc] at h1
      obtain ⟨-, hl, hat⟩ := World.cells?_some h1
      obtain ⟨s, rfl⟩ := read_step hl h2
      refine ⟨s, fun j u hu => ?_⟩
      have hj : j < 12 := by rw [← hl]; exact (List.getElem?_eq_some_iff.1 hu).1
      have := hat j hj
      rw [hu, Go.Deep.add_add] at this
      exact this
    have : ∃ f : Nat → Step, ∀ i, i < len → ∀ j u, (enc (f i))[j]? = some u → W.cell? (a.add (i * 12 + j)) = some u := by
      have dflt : Step := ⟨0, 0, 0, 0, false, default, ⟨0, 0, ⟨#[]⟩⟩⟩
      refine ⟨fun i => if hi : i < len then (hx i hi).choose else dflt, fun i hi => ?_⟩
      simp only [hi, dif_pos]
      exact (hx i hi).choose_spec
    obtain ⟨f, hf⟩ := this
    refine ⟨(List.range len).map f, ?_⟩
    unfold RepS
    refine ⟨fun r hr => ?_, some a, len, cap, rfl, by simp, hlc, hcm, fun hpos => ?_⟩
    · obtain ⟨s, -, rfl⟩ := List.mem_map.1 hr
      rfl
    · have hpos : 0 < len := by simpa using hpos
      have h00 := hf 0 hpos 0 (.int .i64 (f 0).What) rfl
      obtain ⟨g, o, spt⟩ := a
      have h01 : W.cell? ⟨g, o + 0, spt⟩ = some (.int .i64 (f 0).What) := h00
      unfold World.cell? at h01
      cases hg : W.heap[g]? with
      | none => rw [hg] at h01; simp at h01
      | some ob =>
        rw [hg] at h01
        cases ob with
        | cells cur e fr =>
          cases spt with
          | some q => simp at h01
          | none =>
            refine ⟨g, o, cur, e, fr, rfl, hg, fun j u hj => ?_⟩
            obtain ⟨i, r, row, h1, h2, h3⟩ := flat_inv (sz := 12) (rows := ((List.range len).map f).map enc) (fun r hr => by
              obtain ⟨s, -, rfl⟩ := List.mem_map.1 hr
              rfl) hj
            rw [List.getElem?_map, List.getElem?_map] at h1
            have hi : i < len := by
              by_cases hi : i < len
              · exact hi
              · rw [List.getElem?_eq_none (by simpa using hi)] at h1; simp at h1
            rw [List.getElem?_range hi] at h1
            simp only [Option.map_some, Option.some.injEq] at h1
            subst h1
            have h4 : W.cell? ⟨g, o + (i * 12 + r), none⟩ = some u := by
              have h5 := hf i hi r u h2
              rwa [show Addr.add ⟨g, o, none⟩ (i * 12 + r) = ⟨g, o + (i * 12 + r), none⟩ from by
                unfold Addr.add
                by_cases h0 : i * 12 + r = 0
                · rw [if_pos h0, h0]; rfl
                · rw [if_neg h0]] at h5
            unfold World.cell? at h4
            rw [hg] at h4
            rw [h3]
            simpa using h4
        | _ => simp at h01
theorem carry_all (hk : Wd (allG W) S W') : ∀ {ts : List TypeId} {vs : List Value} {ds : List (DataW H)} {ps : List MemPlace}, DataW.TrodAll en Try.prog W base sp held ts vs ds ps → (∀ p ∈ ps, p.block < W.heap.size) → DataW.TrodAll en Try.prog W' base sp held ts vs ds ps
  | [], [], [], _, h, _ => h
  | _ :: _, _ :: _, _ :: _, _, ⟨p, q, ⟨n, h1⟩, h2, e⟩, hs => ⟨p, q, ⟨n, DataW.trod_carry n _ _ _ h1 fun x hx => by
      have hb := hs x (by rw [e]; exact List.mem_append_left _ hx)
      cases x with
      | cell b off =>
        have h3 : W'.heap[b]? = W.heap[b]? := by
          have h4 : W.heap[b]? = some (W.heap[b]'hb) := Array.getElem?_eq_getElem hb
          rw [h4]; exact hk.imm b _ h4
        show W'.cell? _ = W.cell? _
        unfold World.cell?
        rw [h3]
      | map b =>
        have h4 : W.heap[b]? = some (W.heap[b]'hb) := Array.getElem?_eq_getElem hb
        show W'.heap[b]? = W.heap[b]?
        rw [h4]; exact hk.imm b _ h4⟩, carry_all hk h2 (fun x hx => hs x (by rw [e]; exact List.mem_append_right _ hx)), e⟩
end
theorem own_kids : Kids Try.prog (· < Try.prog.types.size) := kids_rows (by kernel_rfl) (by kernel_rfl)
theorem own_full : ∀ t e, t < Try.prog.types.size → Try.prog.underlying t = some (.slice e) → 0 < Try.prog.cellsOf e := slices_full_of _ (by kernel_rfl)
end Go.Proofs.Ytekdbdhkpolooaa
