/- Texts of this proof, one behind another. -/
import Derived.Test.YtmjkacgmepbljaaGreatDoorM4
import Derived.Test.YtmjkacgmepbljaaGreatDoorRows
import Derived.Test.YtmjkacgmepbljaaGreatDoorTie
import Derived.Test.YtmjkacgmepbljaaGreatDoorCards
import Derived.ProofKit
import Derived.OpenShut
import Derived.LaidMore
import Derived.Stop.Joined
import Derived.Stop.LaidErr
import Derived.Deep.Slices
import Derived.ReadAgain
import Derived.ChangeMaps5
set_option linter.unusedVariables false
set_option linter.unusedSimpArgs false
/- From a walk in these words to the given cards: the arguments are read as facts; the listed table. -/
section
open Go Mk
namespace Go.Proofs.YtmjkacgmepbljaaGreatDoor
open Go.ChangeShapes Go.WideShapes Go.ChangeAt Go.RowKit

theorem own_knob : ownKnob Tryz.prog.godebug = none := by kernel_rfl
theorem keptBut_wd {W W' : World} {S : List Res} (h : Wd (allG0 W) S W') (may : MemPlace → Prop) : W.keptBut W' may := by
  refine ⟨h.os, h.out, fun i hi => ?_⟩
  have h1 : W.heap[i]? = some W.heap[i] := Array.getElem?_eq_getElem hi
  have h2 := h.imm i W.heap[i] h1
  rw [h1, h2]
  cases W.heap[i] <;> simp
/-- The arguments read as before; what is answered is true. -/
theorem post_wd {H : Type} {enc : TypeId × Value → H} {f : Func} {s : ChangeSpec} {W W' : World} {S : List Res} {args : Array Value} {v : Value} {ds gs : List (DataW H)} {before pa pv : List MemPlace} {apart : Bool}
    (hW : DataW.Whole enc Tryz.prog f.params.toList s.vars apart W args.toList ds gs before)
    (hres : ∀ (b : Nat) (sp : Nat → Bool) (hd : Bool), DataW.TrodAll enc Tryz.prog W' b sp hd f.resultTypes.toList (v.resultList f.resultTypes.size) (s.fn H (ds ++ gs)).results [])
    (hargs : ∀ sp : Nat → Bool, (∀ p ∈ before, sp p.block = true) → DataW.TrodAll enc Tryz.prog W' 0 sp true f.params.toList args.toList (s.fn H (ds ++ gs)).args pa)
    (hvars : ∀ sp : Nat → Bool, (∀ p ∈ before, sp p.block = true) → DataW.TrodVars enc Tryz.prog W' sp s.vars (s.fn H (ds ++ gs)).vars pv)
    (hps : before = pa ++ pv) (hk : Wd (allG0 W) S W') : s.post enc Tryz.prog f apart true false false W args v W' := by
  have hold : ∀ p ∈ before, (fun b => decide (b < W.heap.size)) p.block = true := fun p hp => by simpa using hW.lt p hp
  exact ⟨ds, gs, before, [], pa, pv, hW, hres _ _ _, hargs _ hold, hvars _ hold, keptBut_wd hk _, fun h => by cases h⟩
section
variable {H : Type} {en : TypeId × Value → H} {W W' : World} {base : Nat} {sp : Nat → Bool} {held : Bool} {S : List Res}
theorem flat_inv {sz : Nat} : ∀ {rows : List (List Value)}, (∀ r ∈ rows, r.length = sz) → ∀ {j : Nat} {u : Value}, rows.flatten[j]? = some u → ∃ i r row, rows[i]? = some row ∧ row[r]? = some u ∧ j = i * sz + r
  | [], _, j, u, h => by simp at h
  | a :: rows, hl, j, u, h => by
    rw [List.flatten_cons] at h
    by_cases hj : j < a.length
    · rw [List.getElem?_append_left hj] at h
      exact ⟨0, j, a, rfl, h, by omega⟩
    · rw [List.getElem?_append_right (by omega)] at h
      obtain ⟨i, r, row, h1, h2, h3⟩ := flat_inv (fun r hr => hl r (List.mem_cons_of_mem _ hr)) h
      have ha := hl a (List.mem_cons_self ..)
      refine ⟨i + 1, r, row, by simpa using h1, h2, ?_⟩
      rw [Nat.add_mul, Nat.one_mul]; omega
/-- A slice whose elements are read one by one. -/
theorem read_slice {α : Type} [Inhabited α] {F : α → List Value} {p : α → Prop} {t e sz : Nat} (hc : Tryz.prog.cellsOf e = sz) (h0 : 0 < sz) (hF : ∀ x, (F x).length = sz) (ht : Tryz.prog.underlying t = some (.slice e))
    (hel : ∀ {n : Nat} {cs : List Value} {y : DataW H × List MemPlace}, DataW.trod en Tryz.prog W base sp held n e cs = some y → ∃ x : α, cs = F x ∧ p x)
    {n : Nat} {v : Value} {y : DataW H × List MemPlace} (h : DataW.trod en Tryz.prog W base sp held n t [v] = some y) : ∃ xs : List α, RepS (allG0 W) v sz (xs.map F) ∧ ∀ x ∈ xs, p x := by
  rcases Deep.open_slice ht h with ⟨h0, -⟩ | ⟨a, len, cap, m, k, D, Pl, h1, -, hlc, hcm, hm, -, hel2⟩
  · cases h0
    exact ⟨[], RepS.nil, fun x hx => by cases hx⟩
  · cases h1
    have hlm : len ≤ m := by rw [hm]; split <;> omega
    have hx : ∀ i, i < len → ∃ x : α, p x ∧ ∀ j u, (F x)[j]? = some u → W.cell? (a.add (i * sz + j)) = some u := fun i hi => by
      obtain ⟨cs', h1, h2⟩ := hel2 i (by omega)
      rw [hc] at h1
      obtain ⟨-, hl, hat⟩ := World.cells?_some h1
      obtain ⟨x, rfl, hp⟩ := hel h2
      refine ⟨x, hp, fun j u hu => ?_⟩
      have hj : j < sz := by rw [← hl]; exact (List.getElem?_eq_some_iff.1 hu).1
      have := hat j hj
      rw [hu, Go.Deep.add_add] at this
      exact this
    obtain ⟨f, hf⟩ : ∃ f : Nat → α, ∀ i, i < len → p (f i) ∧ ∀ j u, (F (f i))[j]? = some u → W.cell? (a.add (i * sz + j)) = some u := by
      refine ⟨fun i => if hi : i < len then (hx i hi).choose else default, fun i hi => ?_⟩
      simp only [hi, dif_pos]
      exact (hx i hi).choose_spec
    refine ⟨(List.range len).map f, ?_, fun x hx => ?_⟩
    · unfold RepS
      refine ⟨fun r hr => ?_, some a, len, cap, rfl, by simp, hlc, hcm, fun hpos => ?_⟩
      · obtain ⟨x, -, rfl⟩ := List.mem_map.1 hr
        exact hF x
      · have hpos : 0 < len := by simpa using hpos
        obtain ⟨u0, hu0⟩ : ∃ u, (F (f 0))[0]? = some u := ⟨_, List.getElem?_eq_getElem (by rw [hF]; exact h0)⟩
        have h00 := (hf 0 hpos).2 0 u0 hu0
        obtain ⟨g, o, spt⟩ := a
        have h01 : W.cell? ⟨g, o, spt⟩ = some u0 := by
          rw [Nat.zero_mul] at h00
          simpa [Addr.add] using h00
        unfold World.cell? at h01
        cases hg : W.heap[g]? with
        | none => rw [hg] at h01; simp at h01
        | some ob =>
          rw [hg] at h01
          cases ob with
          | cells cur e fr =>
            cases spt with
            | some q => simp at h01
            | none =>
              refine ⟨g, o, cur, e, fr, rfl, hg, fun j u hj => ?_⟩
              obtain ⟨i, r, row, h1, h2, h3⟩ := flat_inv (sz := sz) (rows := ((List.range len).map f).map F) (fun r hr => by
                obtain ⟨x, -, rfl⟩ := List.mem_map.1 hr
                exact hF x) hj
              rw [List.getElem?_map, List.getElem?_map] at h1
              have hi : i < len := by
                by_cases hi : i < len
                · exact hi
                · rw [List.getElem?_eq_none (by simpa using hi)] at h1; simp at h1
              rw [List.getElem?_range hi] at h1
              simp only [Option.map_some, Option.some.injEq] at h1
              subst h1
              have h4 : W.cell? ⟨g, o + (i * sz + r), none⟩ = some u := by
                have h5 := (hf i hi).2 r u h2
                rwa [show Addr.add ⟨g, o, none⟩ (i * sz + r) = ⟨g, o + (i * sz + r), none⟩ from by
                  unfold Addr.add
                  by_cases h0 : i * sz + r = 0
                  · rw [if_pos h0, h0]; rfl
                  · rw [if_neg h0]] at h5
              unfold World.cell? at h4
              rw [hg] at h4
              rw [h3]
              simpa using h4
          | _ => simp at h01
    · obtain ⟨i, hi, rfl⟩ := List.mem_map.1 hx
      exact (hf i (List.mem_range.1 hi)).1
theorem list3 : ∀ cs : List Value, cs.length = 3 → ∃ a b c, cs = [a, b, c]
  | [a, b, c], _ => ⟨a, b, c, rfl⟩
theorem list2 : ∀ cs : List Value, cs.length = 2 → ∃ a b, cs = [a, b]
  | [a, b], _ => ⟨a, b, rfl⟩
theorem read_val {n : Nat} {cs : List Value} {y : DataW H × List MemPlace} (h : DataW.trod en Tryz.prog W base sp held n 30 cs = some y) : ∃ x : Val, cs = enc x ∧ (-9223372036854775808 ≤ x.Num ∧ x.Num ≤ 9223372036854775807) := by
  obtain ⟨xs, k, -, -, hl, hxl, hf⟩ := DataW.trod_struct Tryz.underlying30 h
  have hl : cs.length = 3 := hl.trans (by kernel_rfl)
  obtain ⟨c0, c1, c2, rfl⟩ := list3 cs hl
  have e0 : Tryz.prog.cellsOf 3 = 1 := by kernel_rfl
  have e1 : Tryz.prog.cellsOf 2 = 1 := by kernel_rfl
  have e2 : Tryz.prog.cellsOf 9 = 1 := by kernel_rfl
  have g0 : DataW.trod en Tryz.prog W base sp held k 3 (([c0, c1, c2].drop 0).take (Tryz.prog.cellsOf 3)) = xs[0]? := hf 0 { name := "Kind", type := 3, offset := 0, embedded := false, tag := "", pkgPath := "", byteOffset := 0 } rfl
  have g1 : DataW.trod en Tryz.prog W base sp held k 2 (([c0, c1, c2].drop 1).take (Tryz.prog.cellsOf 2)) = xs[1]? := hf 1 { name := "Int", type := 2, offset := 1, embedded := false, tag := "", pkgPath := "", byteOffset := 8 } rfl
  have g2 : DataW.trod en Tryz.prog W base sp held k 9 (([c0, c1, c2].drop 2).take (Tryz.prog.cellsOf 9)) = xs[2]? := hf 2 { name := "Word", type := 9, offset := 2, embedded := false, tag := "", pkgPath := "", byteOffset := 16 } rfl
  rw [e0] at g0; rw [e1] at g1; rw [e2] at g2
  have hxl : xs.length = 3 := hxl
  rw [List.getElem?_eq_getElem (by omega)] at g0 g1 g2
  obtain ⟨a, ha, -, -⟩ := DataW.trod_int Tryz.underlying3 g0
  obtain ⟨b, hb, -, hw⟩ := DataW.trod_int Tryz.underlying2 g1
  obtain ⟨s, hs, -, -⟩ := DataW.trod_string Tryz.underlying9 g2
  simp only [List.drop_zero, List.take_succ_cons, List.take_zero, List.drop_succ_cons, List.cons.injEq, and_true] at ha hb hs
  subst ha; subst hb; subst hs
  refine ⟨⟨a, b, s⟩, rfl, ?_⟩
  simp only [Lit.wf, IntKind.min, IntKind.max, IntKind.bits, IntKind.signed] at hw
  simpa using hw
theorem read_vals {n : Nat} {v : Value} {y : DataW H × List MemPlace} (h : DataW.trod en Tryz.prog W base sp held n 22 [v] = some y) : ∃ xs : List Val, RepS (allG0 W) v 3 (xs.map enc) ∧ ∀ x ∈ xs, (-9223372036854775808 ≤ x.Num ∧ x.Num ≤ 9223372036854775807) :=
  read_slice (sz := 3) (e := 30) (by kernel_rfl) (by decide) (fun x => rfl) Tryz.underlying22 (fun h => read_val h) h
instance : Inhabited FactH := ⟨noF⟩
theorem read_fact {n : Nat} {cs : List Value} {y : DataW H × List MemPlace} (h : DataW.trod en Tryz.prog W base sp held n 24 cs = some y) : ∃ f : FactH, cs = cF f ∧ (FOk (allG0 W) f ∧ FactIn f.fact) := by
  obtain ⟨xs, k, -, -, hl, hxl, hf⟩ := DataW.trod_struct Tryz.underlying24 h
  have hl : cs.length = 2 := hl.trans (by kernel_rfl)
  obtain ⟨c0, c1, rfl⟩ := list2 cs hl
  have e0 : Tryz.prog.cellsOf 9 = 1 := by kernel_rfl
  have e1 : Tryz.prog.cellsOf 22 = 1 := by kernel_rfl
  have g0 : DataW.trod en Tryz.prog W base sp held k 9 (([c0, c1].drop 0).take (Tryz.prog.cellsOf 9)) = xs[0]? := hf 0 { name := "Relation", type := 9, offset := 0, embedded := false, tag := "", pkgPath := "", byteOffset := 0 } rfl
  have g1 : DataW.trod en Tryz.prog W base sp held k 22 (([c0, c1].drop 1).take (Tryz.prog.cellsOf 22)) = xs[1]? := hf 1 { name := "Args", type := 22, offset := 1, embedded := false, tag := "", pkgPath := "", byteOffset := 16 } rfl
  rw [e0] at g0; rw [e1] at g1
  have hxl : xs.length = 2 := hxl
  rw [List.getElem?_eq_getElem (by omega)] at g0 g1
  obtain ⟨s, hs, -, -⟩ := DataW.trod_string Tryz.underlying9 g0
  simp only [List.drop_zero, List.take_succ_cons, List.take_zero, List.drop_succ_cons, List.cons.injEq, and_true] at hs g1
  subst hs
  obtain ⟨vs, hr, hin⟩ := read_vals g1
  obtain ⟨a, m, c, rfl, -⟩ := hr.shape
  exact ⟨⟨s, a, m, c, vs⟩, rfl, hr, hin⟩
theorem read_facts {n : Nat} {v : Value} {y : DataW H × List MemPlace} (h : DataW.trod en Tryz.prog W base sp held n 26 [v] = some y) : ∃ fs : List FactH, RepS (allG0 W) v 2 (fs.map cF) ∧ FsIn (allG0 W) fs :=
  read_slice (sz := 2) (e := 24) (by kernel_rfl) (by decide) (fun x => rfl) Tryz.underlying26 (fun h => read_fact h) h
set_option maxRecDepth 100000 in
theorem read_factV {r : Reach} {b : Nat} {v : Value} {d : DataW H} {pl : List MemPlace} (hk : Value.okWide Tryz.prog W r b 24 v) (h : DataW.Trod en Tryz.prog W base sp held 24 v d pl) : ∃ f : FactH, v = .agg (cF f).toArray ∧ (FOk (allG0 W) f ∧ FactIn f.fact) := by
  obtain ⟨cs, rfl, -⟩ := okWide_struct Tryz.underlying24 hk
  obtain ⟨n, h⟩ := h
  obtain ⟨f, hf, hq⟩ := read_fact h
  refine ⟨f, ?_, hq⟩
  have hf : cs.toList = cF f := hf
  rw [← hf]
theorem carry_all (hk : Wd (allG0 W) S W') : ∀ {ts : List TypeId} {vs : List Value} {ds : List (DataW H)} {ps : List MemPlace}, DataW.TrodAll en Tryz.prog W base sp held ts vs ds ps → (∀ p ∈ ps, p.block < W.heap.size) → DataW.TrodAll en Tryz.prog W' base sp held ts vs ds ps
  | [], [], [], _, h, _ => h
  | _ :: _, _ :: _, _ :: _, _, ⟨p, q, ⟨n, h1⟩, h2, e⟩, hs => ⟨p, q, ⟨n, DataW.trod_carry n _ _ _ h1 fun x hx => by
      have hb := hs x (by rw [e]; exact List.mem_append_left _ hx)
      cases x with
      | cell b off =>
        have h3 : W'.heap[b]? = W.heap[b]? := by
          have h4 : W.heap[b]? = some (W.heap[b]'hb) := Array.getElem?_eq_getElem hb
          rw [h4]; exact hk.imm b _ h4
        show W'.cell? _ = W.cell? _
        unfold World.cell?
        rw [h3]
      | map b =>
        have h4 : W.heap[b]? = some (W.heap[b]'hb) := Array.getElem?_eq_getElem hb
        show W'.heap[b]? = W.heap[b]?
        rw [h4]; exact hk.imm b _ h4⟩, carry_all hk h2 (fun x hx => hs x (by rw [e]; exact List.mem_append_right _ hx)), e⟩
end
theorem own_kids : Kids Tryz.prog (· < Tryz.prog.types.size) := kids_rows (by kernel_rfl) (by kernel_rfl)
theorem own_full : ∀ t e, t < Tryz.prog.types.size → Tryz.prog.underlying t = some (.slice e) → 0 < Tryz.prog.cellsOf e := slices_full_of _ (by kernel_rfl)
abbrev laidL : List (String × DataW Unit) := [("math/bits.deBruijn32tab", Rows.laid_math_bits_deBruijn32tab), ("math/bits.deBruijn64tab", Rows.laid_math_bits_deBruijn64tab), ("internal/strconv.uint64pow10", Rows.laid_internal_strconv_uint64pow10)]
theorem of_laid {W : World} (h : laidMetH Tryz.prog laidL W) : Lib.TabIs Tryz.prog W "internal/strconv.uint64pow10" .u64 Lib.pow10Tab := by
  rw [MakeChecks.laidMetH_plain _ _ _ (by kernel_rfl)] at h
  have h3 := laidMet.tail (laidMet.tail h)
  exact Lib.tabIs_of_head (rest := []) (g := lay_fmti_ren.g 17) (by kernel_rfl) (by kernel_rfl) Tryz.underlying159 Tryz.underlying99 (by kernel_rfl) (by kernel_rfl) h3
end Go.Proofs.YtmjkacgmepbljaaGreatDoor
end
/- FactOrder: the order of facts, walked. -/
section
open Go Mk
namespace Go.Proofs.YtmjkacgmepbljaaGreatDoor
set_option maxHeartbeats 16000000
attribute [local irreducible] Calls

theorem ord_tri {α : Type} {c : α → α → Int} (h : Ord3 c) (a b d : α) : (c a b = 0 → c b d = 0 → c a d = 0) ∧ (c a b = 0 → c a d = c b d) ∧ (c b d = 0 → c a d = c a b) ∧ (c a b = -1 → c b d = -1 → c a d = -1) ∧ (c a b = 1 → c b d = 1 → c a d = 1) := by
  have e1 : c a b = 0 → c a d = c b d := fun q => by rw [h.eq0 q]
  have e2 : c b d = 0 → c a d = c a b := fun q => by rw [h.eq0 q]
  refine ⟨fun q r => by rw [e1 q, r], e1, e2, h.trans, fun q r => ?_⟩
  have q' : c b a = -1 := by rw [h.anti, q]
  have r' : c d b = -1 := by rw [h.anti, r]
  rw [h.anti d a, h.trans r' q']; rfl
attribute [local irreducible] cFact
theorem FactOrder_any {Γ : Gho} {S : List Res} {w : World} [hT : TabG Γ] (f g h : FactH) (hi : FsIn Γ [f, g, h]) (hw : Wd Γ S w) :
    Calls Tryz.prog 3 #[.agg (cF f).toArray, .agg (cF g).toArray, .agg (cF h).toArray] w fun e w' => e = .returned (.bool true) ∧ Wd Γ S w' := by
  have hf := (hi f (by simp)).1
  have hg := (hi g (by simp)).1
  have hh := (hi h (by simp)).1
  refine calls_of_W Tryz.func3 rfl rfl ?_
  repeat (first | refine byW ?_ | (refine byV ?_; intro w hw))
  refine lBox ?_
  intro b3 w hw
  refine lBox ?_
  intro b4 w hw
  refine lBox ?_
  intro b5 w hw
  have hw : Wd Γ (boxF b5 h :: boxF b4 g :: boxF b3 f :: S) w := hw
  repeat (first | refine byW ?_ | (refine byV ?_; intro w hw))
  refine lBuildSlice [cF f, cF g, cF h] ?_
  intro a15 w hw
  repeat (first | refine byW ?_ | (refine byV ?_; intro w hw))
  refine lCall (vs := [.slice (some a15) 3 3]) ?_
  refine (Few_any [f, g, h] (fun x hx => (hi x hx).1) (RdS.own (i := 0) hw rfl) hw).mono ?_
  clear hw
  rintro e w ⟨rfl, hw⟩
  refine ⟨_, rfl, ?_⟩
  have hw : Wd Γ (boxF b5 h :: boxF b4 g :: boxF b3 f :: S) w := hw.drop
  repeat (first | refine byW ?_ | (refine byV ?_; intro w hw))
  refine W_cond rfl (fun hq => ?_) (fun hq => ?_)
  · repeat (first | refine byW ?_ | (refine byV ?_; intro w hw))
    exact ⟨_, rfl, rfl, hw.ds [0, 0, 0]⟩
  have hfew : fewB (facts [f, g, h]) = true := by simpa using hq
  obtain ⟨-, hok⟩ := hi.ok hfew
  have hx := cFact_ord.rng f.fact g.fact
  have hy := cFact_ord.rng g.fact h.fact
  have hz := cFact_ord.rng f.fact h.fact
  have htri := ord_tri cFact_ord f.fact g.fact h.fact
  have hC1 := pg_cmpF hf hg
  have hC2 := pg_cmpF hg hh
  have hC3 := pg_cmpF hf hh
  have hC4 := pg_cmpF hg hf
  have hC5 := pg_cmpF hf hf
  rw [cFact_ord.anti f.fact g.fact] at hC4
  rw [cFact_ord.refl] at hC5
  have hxe : cFact f.fact g.fact = 0 ↔ f.fact = g.fact := ⟨fun q => cFact_ord.eq0 q, fun q => by rw [q]; exact cFact_ord.refl _⟩
  obtain ⟨x, ex⟩ : ∃ x, cFact f.fact g.fact = x := ⟨_, rfl⟩
  obtain ⟨y, ey⟩ : ∃ y, cFact g.fact h.fact = y := ⟨_, rfl⟩
  obtain ⟨z, ez⟩ : ∃ z, cFact f.fact h.fact = z := ⟨_, rfl⟩
  rw [ex] at hx htri hC1 hC4 hxe
  rw [ey] at hy htri hC2
  rw [ez] at hz htri hC3
  clear ex ey ez
  obtain ⟨l1, l2, l3⟩ := hf.len
  obtain ⟨m1, m2, m3⟩ := hg.len
  have hrf := hf
  have hrg := hg
  unfold FOk FactH.hdr at hrf hrg
  have hx1 : -1 ≤ x ∧ x ≤ 1 := by omega
  repeat (first | refine byW ?_ | (refine byV ?_; intro w hw))
  refine W_quiet (by kernel_rfl) (by kernel_rfl) hw ?_
  repeat (first | refine Q_nil ?_ | (apply Q_plain; first | (apply Q_go; first | refine qP ?_ | refine qPg ?_) | refine qY ?_) | (apply Q_guarded; first | (apply Q_go; first | refine qPG ?_ | refine qPgG ?_) | refine qG ?_))
  intro w hw
  repeat (first | refine byW ?_ | (refine byV ?_; intro w hw))
  refine W_cond rfl (fun h1 => ?_) (fun h1 => ?_)
  · exfalso
    have h1' : (((decide (x < -1) || decide (1 < x)) || decide (-x ≠ -x)) || decide ((0 : Int) ≠ 0)) = true := h1
    simp only [Bool.or_eq_true, decide_eq_true_eq, ne_eq, not_true_eq_false, or_false] at h1'
    omega
  repeat (first | refine byW ?_ | (refine byV ?_; intro w hw))
  refine W_loop (fun μ ρ w => ∃ (k : Nat) (q : Bool), μ + k = f.N ∧ Has ρ [(3, .pointer (some ⟨b3, 0, none⟩)), (4, .pointer (some ⟨b4, 0, none⟩)), (7, .int .i64 x), (8, .int .i64 y), (9, .int .i64 z), (10, .bool q), (11, .int .i64 k)] ∧ decide (f.fact = g.fact) = (q && decide (f.Args.drop k = g.Args.drop k)) ∧ (q = true → f.N = g.N) ∧ Wd Γ (boxF b5 h :: boxF b4 g :: boxF b3 f :: S) w) f.N ⟨0, decide (f.Rel = g.Rel) && decide ((f.N : Int) = g.N), by omega, ⟨rfl, rfl, rfl, rfl, rfl, rfl, rfl, trivial⟩, ?_, fun q => ?_, hw⟩ ?_
  · show decide ((f.Rel, f.Args) = (g.Rel, g.Args)) = _
    rw [List.drop_zero, List.drop_zero]
    by_cases q1 : f.Rel = g.Rel
    · by_cases q2 : f.Args = g.Args
      · have : (f.N : Int) = g.N := by rw [l1, m1, q2]
        simp [q1, q2, this]
      · simp [q1, q2]
    · simp [q1]
  · have := of_decide_eq_true (andR q); omega
  clear hw
  rintro μ ρ w ⟨k, q, hk, hρ, ho, hqn, hw⟩
  rw [hρ.eq]
  repeat (first | refine byW ?_ | (refine byV ?_; intro w hw))
  refine W_cond rfl (fun h2 => ?_) (fun h2 => ?_)
  · have h2' : q = true ∧ k < f.N := by
      have h2' : (q && decide ((k : Int) < f.N)) = true := h2
      rw [Bool.and_eq_true, decide_eq_true_eq] at h2'
      exact ⟨h2'.1, by omega⟩
    obtain ⟨rfl, hkn⟩ := h2'
    have hnn := hqn rfl
    obtain ⟨u, hu⟩ := get_lt (l := f.Args) (k := k) (by omega)
    obtain ⟨v, hv⟩ := get_lt (l := g.Args) (k := k) (by omega)
    rw [drop_get hu, drop_get hv] at ho
    repeat (first | refine byW ?_ | (refine byV ?_; intro w hw))
    refine W_quiet (by kernel_rfl) (by kernel_rfl) hw ?_
    repeat (first | refine Q_nil ?_ | (apply Q_plain; first | (apply Q_go; first | refine qP ?_ | refine qPg ?_) | refine qY ?_) | (apply Q_guarded; first | (apply Q_go; first | refine qPG ?_ | refine qPgG ?_) | refine qG ?_))
    intro w hw
    repeat (first | refine byW ?_ | (refine byV ?_; intro w hw))
    refine ⟨μ - 1, by omega, k + 1, decide (u = v), by omega, ⟨rfl, rfl, rfl, rfl, rfl, rfl, rfl, trivial⟩, ?_, fun _ => hnn, hw⟩
    rw [ho]
    by_cases q1 : u = v
    · simp [q1]
    · simp [q1]
  · have hE : decide (f.fact = g.fact) = q := by
      cases q with
      | false => rw [ho]; rfl
      | true =>
        have h2' : (true && decide ((k : Int) < f.N)) = false := h2
        have h3 : ¬ (k : Int) < f.N := of_decide_eq_false h2'
        rw [drop_none f.Args (by omega), drop_none g.Args (by have := hqn rfl; omega)] at ho
        rw [ho]; rfl
    repeat (first | refine byW ?_ | (refine byV ?_; intro w hw))
    refine ⟨_, rfl, ret_b rfl ?_, hw.ds [0, 0, 0]⟩
    have hq' : x = 0 ↔ q = true := by rw [hxe, ← hE, decide_eq_true_eq]
    clear hxe hE hqn h2 ho hx1 hC1 hC2 hC3 hC4 hρ hw
    rcases hx with rfl | rfl | rfl <;> rcases hy with rfl | rfl | rfl <;> rcases hz with rfl | rfl | rfl <;> cases q <;> first | rfl | exact absurd htri (by decide) | exact absurd hq' (by decide)
theorem FactOrder_all {W : World} (hT : TabG (allG0 W)) (f g h : FactH) (h1 : FOk (allG0 W) f ∧ FactIn f.fact) (h2 : FOk (allG0 W) g ∧ FactIn g.fact) (h3 : FOk (allG0 W) h ∧ FactIn h.fact) :
    Calls Tryz.prog 3 #[.agg (cF f).toArray, .agg (cF g).toArray, .agg (cF h).toArray] W fun e w' => ∃ Γ', (allG0 W).le Γ' ∧ e = .returned (.bool true) ∧ Wd Γ' [] w' :=
  (FactOrder_any f g h (FsIn.cons h1 (FsIn.cons h2 (FsIn.cons h3 FsIn.nil))) (allG0_wd W)).mono fun e w ⟨h1, h2⟩ => ⟨_, Gho.le.refl _, h1, h2⟩
end Go.Proofs.YtmjkacgmepbljaaGreatDoor
end
