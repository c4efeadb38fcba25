/- Texts of this proof, one behind another. -/
import Derived.Test.YteiijmclobggjaaGreatM4
import Derived.Test.YteiijmclobggjaaGreatM3
set_option linter.unusedVariables false
set_option linter.unusedSimpArgs false
/- Arrivals, in plain words; the plan completes no later than after an exchange. -/
section
open Go Mk
namespace Go.Proofs.YteiijmclobggjaaGreat

/-! ### when an edge arrives -/
def stL (l : List (Pl × Int)) (st : Int → Int) : Int → Int := l.foldl (fun f p => updI f p.1.2 p.2) st
theorem stL_none : ∀ {l : List (Pl × Int)} {st : Int → Int} {x : Int}, (∀ p ∈ l, p.1.2 ≠ x) → stL l st x = st x
  | [], _, _, _ => rfl
  | p :: l, st, x, h => by
    show stL l (updI st p.1.2 p.2) x = _
    rw [stL_none fun q hq => h q (by simp [hq])]
    unfold updI
    rw [if_neg (h p (by simp))]
theorem stL_some : ∀ {l : List (Pl × Int)} {st : Int → Int} {x : Int} {q : Nat} {p : Pl × Int}, l[q]? = some p → p.1.2 = x → (l.map (·.1.2)).Nodup → stL l st x = p.2
  | [], _, _, _, _, h, _, _ => by simp at h
  | p0 :: l, st, x, 0, p, h, hx, hn => by
    simp at h
    subst h
    rw [List.map_cons, List.nodup_cons] at hn
    show stL l (updI st p0.1.2 p0.2) x = _
    rw [stL_none fun q hq e => hn.1 (by rw [hx, ← e]; exact List.mem_map_of_mem hq)]
    unfold updI
    rw [if_pos hx]
  | p0 :: l, st, x, q + 1, p, h, hx, hn => by
    rw [List.map_cons, List.nodup_cons] at hn
    show stL l (updI st p0.1.2 p0.2) x = _
    exact stL_some (q := q) (by simpa using h) hx hn.2
theorem arr_at {far : Int → Int → Int} {cost : Int} : ∀ {es : List Pl} {st sn : Int → Int} {m : Nat} {e : Pl}, es[m]? = some e →
    (arrF far cost st sn es)[m]? = some (stL ((es.zip (arrF far cost st sn es)).take m) st e.1 + (sn e.1 + (cntF es m e.1 : Int) + 1) * cost + far e.1 e.2)
  | [], _, _, _, _, h => by simp at h
  | e0 :: es, st, sn, 0, e, h => by
    simp at h
    subst h
    unfold arrF cntF stL
    simp
  | e0 :: es, st, sn, m + 1, e, h => by
    have ih := arr_at (far := far) (cost := cost) (es := es) (st := updI st e0.2 (st e0.1 + (sn e0.1 + 1) * cost + far e0.1 e0.2)) (sn := updI sn e0.1 (sn e0.1 + 1)) (m := m) (e := e) (by simpa using h)
    unfold arrF
    rw [List.getElem?_cons_succ, ih]
    have h2 : updI sn e0.1 (sn e0.1 + 1) e.1 + (cntF es m e.1 : Int) = sn e.1 + (cntF (e0 :: es) (m + 1) e.1 : Int) := by
      unfold updI cntF
      rw [List.take_succ_cons]
      by_cases c : e0.1 = e.1
      · rw [if_pos c, List.countP_cons_of_pos (by simpa using c), c]
        omega
      · rw [if_neg c, List.countP_cons_of_neg (by simpa using c)]
    rw [h2]
    rfl
section
variable {far : Int → Int → Int} {cost : Int}
def arr0 (far : Int → Int → Int) (cost : Int) (es : List Pl) : List Int := arrF far cost (fun _ => 0) (fun _ => 0) es
theorem arr0_len {es : List Pl} : (arr0 far cost es).length = es.length := arrF_len _ _ _ _ _
/-- An edge whose sender is reached by no edge ahead. -/
theorem arr0_root {es : List Pl} {m : Nat} {e : Pl} (he : es[m]? = some e) (hr : ∀ p ∈ es, p.2 ≠ e.1) : (arr0 far cost es)[m]? = some (((cntF es m e.1 : Int) + 1) * cost + far e.1 e.2) := by
  have h := arr_at (far := far) (cost := cost) (st := fun _ => 0) (sn := fun _ => 0) he
  have h0 : stL ((es.zip (arr0 far cost es)).take m) (fun _ => 0) e.1 = 0 := stL_none fun p hp => hr p.1 (List.of_mem_zip (List.mem_of_mem_take hp)).1
  unfold arr0 at h0 ⊢
  rw [h, h0]
  simp
theorem arr0_next {es : List Pl} {m q : Nat} {e d : Pl} {v : Int} (he : es[m]? = some e) (hd : es[q]? = some d) (hq : q < m) (hde : d.2 = e.1) (hv : (arr0 far cost es)[q]? = some v) (hn : (es.map (·.2)).Nodup) : (arr0 far cost es)[m]? = some (v + ((cntF es m e.1 : Int) + 1) * cost + far e.1 e.2) := by
  have h := arr_at (far := far) (cost := cost) (st := fun _ => 0) (sn := fun _ => 0) he
  have hz : (es.zip (arr0 far cost es))[q]? = some (d, v) := by
    rw [List.getElem?_zip_eq_some]
    exact ⟨hd, hv⟩
  have h0 : stL ((es.zip (arr0 far cost es)).take m) (fun _ => 0) e.1 = v := by
    refine stL_some (q := q) (p := (d, v)) ?_ hde ?_
    · rw [List.getElem?_take, if_pos hq]; exact hz
    · rw [List.map_take]
      refine hn.sublist ?_
      refine (List.take_sublist _ _).trans ?_
      have : (es.zip (arr0 far cost es)).map (fun p => p.1.2) = ((es.zip (arr0 far cost es)).map Prod.fst).map (·.2) := by rw [List.map_map]; rfl
      rw [this, List.map_fst_zip (by rw [arr0_len]; exact Nat.le_refl _)]
      exact List.Sublist.refl _
  unfold arr0 at h0 ⊢
  rw [h, h0]
  simp
/-! ### the greatest -/
end

end Go.Proofs.YteiijmclobggjaaGreat
end
/- Numbers drawn from a list. -/
section
open Go Mk
namespace Go.Proofs.YteiijmclobggjaaGreat
set_option maxHeartbeats 8000000
attribute [local irreducible] Calls
section
variable {P : Program} {n : Nat} {ops : List Oper} {Γ : Gho} {K : List Res} {wr tc stab : List (List Nat)} {Q : Fr → World → Prop} {i : Nat} {rest : List Oper} {ρ : Fr} {M : Nat → Fr → List Res}
/-- In a mixed region: a call that changes what lies in the cell c, and whose answer is known. -/
theorem mCallD {c f : Nat} {d : Option Tmp} {ty : TypeId} {pos : String} {es : Array Edge} {args : List Operand} {tys : Array TypeId} {vs : List Value} {v : Value} {X X' : List Res} [FnOk P f]
    (hcall : ∀ S w, Wd Γ (X ++ S) w → Calls P f vs.toArray w fun e w' => e = .returned v ∧ Wd Γ (X' ++ S) w') (h : MSw (mV P n ops Γ K wr tc stab) Q (i + 1) rest ⟨putO ρ d v, setC M c fun _ => X'⟩)
    (ht : tc.getD i [] = [c] := by exact rfl) (hM : M c = (fun _ => X) := by first | exact setC_self | exact rfl) (hw0 : wr.getD i [] = [c] := by exact rfl) (ha : ∀ g, EvL (ovr stab.flatten g ρ) args vs := by intro g; exact byEV) :
    MSw (mV P n ops Γ K wr tc stab) Q i (⟨d, .call { callee := .value (.func f), args := args.toArray, argTypes := tys }, ty, pos, es, none⟩ :: rest) ⟨ρ, M⟩ := by
  refine mM (v := v) _ (fun Y w g hw => ?_) h hw0 rfl
  rw [cells1 ht, hM] at hw
  refine s_call (ha g).eqA ((hcall _ _ hw.swapApp).mono fun e w' ⟨h1, h2⟩ => ⟨v, h1, ?_, fun _ => rfl⟩)
  rw [cells1 ht, setC_self]
  exact h2.swapApp
end

/-- The number that is drawn as number k. -/
def nx (L : List Int) (k : Nat) (n : Int) : Int := ((if L = [] then 0 else (L.getD (k % L.length) 0) % 1073741824) + 7 * ((k / max L.length 1 : Nat) : Int)) % n
theorem nx_range {L : List Int} {k : Nat} {n : Int} (h : 0 < n) : 0 ≤ nx L k n ∧ nx L k n < n := ⟨Int.emod_nonneg _ (by omega), Int.emod_lt_of_pos _ h⟩
instance : PosL 1073741824 := ⟨by decide⟩
def drwB (bs : Nat) (a : Option Addr) (m c k : Nat) : Res := .blk bs (.cells #[.slice a m c, .int .i64 k] 97)
theorem Next_any {Γ : Gho} {S : List Res} {w : World} {bs : Nat} {a : Option Addr} {m c k : Nat} {L : List Int} {n : Int} (hn0 : 0 < n) (hk : k ≤ 1000000) (hr : RepS Γ (.slice a m c) 1 (intRows L)) (hw : Wd Γ (drwB bs a m c k :: S) w) :
    Calls Tryz.prog 42 #[.pointer (some ⟨bs, 0, none⟩), .int .i64 n] w fun e w' => e = .returned (.int .i64 (nx L k n)) ∧ Wd Γ (drwB bs a m c (k + 1) :: S) w' := by
  obtain ⟨hn, hnc, hc⟩ := rep_facts hr
  simp only [intRows, List.length_map] at hn
  unfold drwB at hw
  refine calls_of_W Tryz.func42 rfl rfl ?_
  iterate 8 (first | refine byW ?_ | (refine byV ?_; intro w hw))
  obtain ⟨v0, hv0⟩ : ∃ v0 : Int, v0 = (if L = [] then 0 else (L.getD (k % L.length) 0) % 1073741824) := ⟨_, rfl⟩
  have hvb : 0 ≤ v0 ∧ v0 < 1073741824 := by
    rw [hv0]; split
    · omega
    · exact ⟨Int.emod_nonneg _ (by omega), Int.emod_lt_of_pos _ (by omega)⟩
  refine W_cut (fun ρ w => Has ρ [(0, .pointer (some ⟨bs, 0, none⟩)), (1, .int .i64 n), (5, .int .i64 v0)] ∧ Wd Γ (.blk bs (.cells #[.slice a m c, .int .i64 k] 97) :: S) w) ?_ ?_
  · repeat (first | refine byW ?_ | (refine byV ?_; intro w hw))
    refine W_cond rfl (fun h => ?_) (fun h => ?_)
    · have hm : 0 < m := by simp at h; omega
      have hkm : (k : Int).tmod m = ((k % m : Nat) : Int) := by rw [Int.tmod_eq_emod_of_nonneg (by omega)]; exact (Int.natCast_emod k m).symm
      have hlt : k % m < m := Nat.mod_lt _ hm
      obtain ⟨x, hx⟩ := get_lt (l := L) (k := k % m) (by omega)
      have hx' : L[((k % m : Nat) : Int).toNat]? = some x := hx
      have hvx : v0 = x % 1073741824 := by
        rw [hv0, if_neg (fun e => by rw [e] at hn; simp at hn; omega), ← hn, List.getD_eq_getElem?_getD, hx]; rfl
      repeat (first | refine byW ?_ | (refine byV ?_; intro w hw))
      refine W_quiet (by kernel_rfl) (by kernel_rfl) hw ?_
      iterate 13 (first | refine Q_nil ?_ | (apply Q_plain; first | (apply Q_go; first | refine qP ?_ | refine qPg ?_) | refine qY ?_) | (apply Q_guarded; first | (apply Q_go; first | refine qPG ?_ | refine qPgG ?_) | refine qG ?_))
      refine qY (v := .int .i64 ((k % m : Nat) : Int)) ?_ (hy := fun w hw => by
        rw [← hkm]; exact y_rem rfl rfl (by omega))
      repeat (first | refine Q_nil ?_ | (apply Q_plain; first | (apply Q_go; first | refine qP ?_ | refine qPg ?_) | refine qY ?_) | (apply Q_guarded; first | (apply Q_go; first | refine qPG ?_ | refine qPgG ?_) | refine qG ?_))
      clear hw
      intro w hw
      repeat (first | refine byW ?_ | (refine byV ?_; intro w hw))
      exact ⟨⟨rfl, rfl, by rw [hvx]; rfl, trivial⟩, hw⟩
    · have hm : m = 0 := by simp at h; omega
      have hL : L = [] := List.eq_nil_of_length_eq_zero (by omega)
      repeat (first | refine byW ?_ | (refine byV ?_; intro w hw))
      exact ⟨⟨rfl, rfl, by rw [hv0, if_pos hL]; rfl, trivial⟩, hw⟩
  · rintro ρ w ⟨hρ, hw⟩
    rw [hρ.eq]
    clear hρ
    have hlen : max L.length 1 = max m 1 := by rw [hn]
    have hnx : nx L k n = (v0 + 7 * ((k / max m 1 : Nat) : Int)) % n := by unfold nx; rw [← hv0, hlen]
    rw [hnx]
    clear hnx hlen
    have hM : (if (m : Int) < 1 then 1 else (m : Int)) = ((max m 1 : Nat) : Int) := by
      split <;> omega
    have hMp : 0 < max m 1 := by omega
    have hq1 : (k : Int).tdiv ((max m 1 : Nat) : Int) = ((k / max m 1 : Nat) : Int) := by rw [Int.tdiv_eq_ediv_of_nonneg (by omega)]; rfl
    have hqk : k / max m 1 ≤ k := Nat.div_le_self _ _
    generalize k / max m 1 = q at *
    generalize max m 1 = M at *
    have hw1 : IntKind.i64.wrap ((q : Nat) : Int) = ((q : Nat) : Int) := wrap_i64 (by omega) (by omega)
    refine W_seq ?_
    refine W_quiet (by kernel_rfl) (by kernel_rfl) hw ?_
    iterate 10 (first | refine Q_nil ?_ | (apply Q_plain; first | (apply Q_go; first | refine qP ?_ | refine qPg ?_) | refine qY ?_) | (apply Q_guarded; first | (apply Q_go; first | refine qPG ?_ | refine qPgG ?_) | refine qG ?_))
    refine qY (v := .int .i64 ((M : Nat) : Int)) ?_ (hy := fun w hw => by rw [← hM]; exact y_max2 rfl rfl)
    refine qY (v := .int .i64 ((q : Nat) : Int)) ?_ (hy := fun w hw => by
      rw [← hw1, ← hq1]; exact y_quo rfl rfl (by omega))
    repeat (first | refine Q_nil ?_ | (apply Q_plain; first | (apply Q_go; first | refine qP ?_ | refine qPg ?_) | refine qY ?_) | (apply Q_guarded; first | (apply Q_go; first | refine qPG ?_ | refine qPgG ?_) | refine qG ?_))
    clear hw
    intro w hw
    repeat (first | refine byW ?_ | (refine byV ?_; intro w hw))
    refine lStore ?_
    intro w hw
    have hw : Wd Γ (drwB bs a m c (k + 1) :: S) w := hw
    repeat (first | refine byW ?_ | (refine byV ?_; intro w hw))
    refine ⟨_, rfl, ret_i rfl ?_, hw⟩
    rw [Int.tmod_eq_emod_of_nonneg (by omega)]
end Go.Proofs.YteiijmclobggjaaGreat
end
/- Lists of IDs, and sorting by exchanges of neighbours. -/
section
open Go Mk
namespace Go.Proofs.YteiijmclobggjaaGreat
set_option maxHeartbeats 8000000
attribute [local irreducible] Calls
/-- An element sinks to its place by exchanges with its left neighbour. -/
def bub {α : Type} (lt : α → α → Bool) : Nat → List α → List α
  | 0, l => l
  | k + 1, l => match l[k + 1]?, l[k]? with
    | some x, some y => if lt x y = true then bub lt k ((l.set (k + 1) y).set k x) else l
    | _, _ => l
def bsFrom {α : Type} (lt : α → α → Bool) : Nat → Nat → List α → List α
  | 0, _, l => l
  | f + 1, i, l => bsFrom lt f (i + 1) (bub lt i l)
def bsort {α : Type} (lt : α → α → Bool) (l : List α) : List α := bsFrom lt (l.length - 1) 1 l
theorem bub_step {α : Type} {lt : α → α → Bool} {k : Nat} {l : List α} {x y : α} (hx : l[k + 1]? = some x) (hy : l[k]? = some y) (h : lt x y = true) : bub lt (k + 1) l = bub lt k ((l.set (k + 1) y).set k x) := by
  unfold bub; rw [hx, hy]; simp only [if_pos h]; cases k <;> rfl
theorem bub_stop {α : Type} {lt : α → α → Bool} {k : Nat} {l : List α} {x y : α} (hx : l[k + 1]? = some x) (hy : l[k]? = some y) (h : ¬ lt x y = true) : bub lt (k + 1) l = l := by
  unfold bub; rw [hx, hy]; simp only [if_neg h]
theorem bub_len {α : Type} {lt : α → α → Bool} : ∀ (k : Nat) (l : List α), (bub lt k l).length = l.length
  | 0, l => rfl
  | k + 1, l => by
    unfold bub
    split
    · split
      · rw [bub_len k]; simp
      · rfl
    · rfl
theorem bsFrom_len {α : Type} {lt : α → α → Bool} : ∀ (f i : Nat) (l : List α), (bsFrom lt f i l).length = l.length
  | 0, _, _ => rfl
  | f + 1, i, l => by show (bsFrom lt f (i + 1) (bub lt i l)).length = _; rw [bsFrom_len f, bub_len]
theorem bsort_len {α : Type} {lt : α → α → Bool} (l : List α) : (bsort lt l).length = l.length := bsFrom_len _ _ _
def ltI (a b : Int) : Bool := decide (a < b)
theorem ints_one (xs : List Int) : (intRows xs).flatten.all (·.oneCell') = true := by
  unfold intRows
  induction xs with
  | nil => rfl
  | cons x l ih => simp only [List.map_cons, List.flatten_cons, List.all_append, ih]; rfl
theorem set_rows {xs : List Int} {k : Nat} {x : Int} : (intRows xs).set k [.int .i64 x] = intRows (xs.set k x) := by unfold intRows; rw [List.map_set]
theorem SortInts_any {Γ : Gho} {S : List Res} {w : World} {v : Value} {xs : List Int} (hr : RdS Γ S v 1 (intRows xs)) (hl : xs.length ≤ 1000000) (hw : Wd Γ S w) :
    Calls Tryz.prog 43 #[v] w fun e w' => ∃ v', e = .returned v' ∧ Wd Γ (.own v' 3 1 (intRows (bsort ltI xs)) :: S) w' := by
  obtain ⟨a, n, c, rfl, hn, hnc, hc⟩ := hr.shape
  simp only [intRows, List.length_map] at hn
  refine calls_of_W Tryz.func43 rfl rfl ?_
  repeat (first | refine byW ?_ | (refine byV ?_; intro w hw))
  have hw : Wd Γ (.own (.slice none 0 0) 3 1 [] :: S) w := Wd.addNil hw
  refine lApp (i := 0) (rows2 := intRows xs) ?_ (hr.cons.rd hw) (h1 := ints_one xs) (hm := by simp [intRows]; exact hn)
  intro v' w hw
  obtain ⟨q, m, d, rfl, hm, -, -⟩ := hw.own_shape (i := 0) rfl
  simp [intRows] at hm
  have hw : Wd Γ (.own (.slice q m d) 3 1 (intRows xs) :: S) w := hw
  repeat (first | refine byW ?_ | (refine byV ?_; intro w hw))
  refine W_loop (fun μ ρ w => ∃ (i : Nat) (Y : List Int), 1 ≤ i ∧ (m ≤ i + μ) ∧ Y.length = m ∧ bsort ltI xs = bsFrom ltI (m - i) i Y ∧ Has ρ [(3, .slice q m d), (4, .int .i64 i)] ∧ Wd Γ (.own (.slice q m d) 3 1 (intRows Y) :: S) w) m ⟨1, xs, by omega, by omega, hm.symm, by unfold bsort; rw [← hm], ⟨rfl, rfl, trivial⟩, hw⟩ ?_
  clear hw
  rintro μ ρ w ⟨i, Y, hi, hμ, hY, hB, hρ, hw⟩
  rw [hρ.eq]
  repeat (first | refine byW ?_ | (refine byV ?_; intro w hw))
  refine W_cond rfl (fun h => ?_) (fun h => ?_)
  · have him : i < m := by simpa using h
    have hB2 : bsort ltI xs = bsFrom ltI (m - (i + 1)) (i + 1) (bub ltI i Y) := by
      rw [hB, show m - i = (m - (i + 1)) + 1 by omega]; rfl
    repeat (first | refine byW ?_ | (refine byV ?_; intro w hw))
    refine W_loop (fun μ2 ρ w => ∃ (k : Nat) (Z : List Int), μ2 = k ∧ k ≤ i ∧ Z.length = m ∧ bub ltI i Y = bub ltI k Z ∧ Has ρ [(3, .slice q m d), (4, .int .i64 i), (5, .int .i64 k)] ∧ Wd Γ (.own (.slice q m d) 3 1 (intRows Z) :: S) w) i ⟨i, Y, rfl, Nat.le_refl _, hY, rfl, ⟨rfl, rfl, rfl, trivial⟩, hw⟩ ?_
    clear hw
    rintro μ2 ρ w ⟨k, Z, rfl, hk, hZ, hC, hρ, hw⟩
    rw [hρ.eq]
    refine W_seq ?_
    refine W_seq ?_
    have hnr : m = (intRows Z).length := by simp [intRows]; omega
    cases μ2 with
    | zero =>
      refine W_quiet (by kernel_rfl) (by kernel_rfl) hw ?_
      iterate 3 (first | refine Q_nil ?_ | (apply Q_plain; first | (apply Q_go; first | refine qP ?_ | refine qPg ?_) | refine qY ?_) | (apply Q_guarded; first | (apply Q_go; first | refine qPG ?_ | refine qPgG ?_) | refine qG ?_))
      iterate 10 (refine qGF ?_ rfl)
      refine qY (v := .bool false) ?_ (hy := fun w hw => y_pickF rfl rfl)
      refine Q_nil ?_
      clear hw
      intro w hw
      refine W_cond rfl (fun h => by cases h) (fun _ => ?_)
      repeat (first | refine byW ?_ | (refine byV ?_; intro w hw))
      exact ⟨μ - 1, by omega, i + 1, Z, by omega, by omega, hZ, by rw [hB2, hC]; rfl, ⟨rfl, rfl, trivial⟩, hw⟩
    | succ k =>
      obtain ⟨x, hx⟩ := get_lt (l := Z) (k := k + 1) (by omega)
      obtain ⟨y, hy⟩ := get_lt (l := Z) (k := k) (by omega)
      have e1 : (((k + 1 : Nat) : Int) - 1) = (k : Int) := by omega
      have hx' : Z[((k + 1 : Nat) : Int).toNat]? = some x := hx
      have hy' : Z[(((k + 1 : Nat) : Int) - 1).toNat]? = some y := by rw [e1]; exact hy
      refine W_quiet (by kernel_rfl) (by kernel_rfl) hw ?_
      iterate 1 (first | refine Q_nil ?_ | (apply Q_plain; first | (apply Q_go; first | refine qP ?_ | refine qPg ?_) | refine qY ?_) | (apply Q_guarded; first | (apply Q_go; first | refine qPG ?_ | refine qPgG ?_) | refine qG ?_))
      refine qT (b := decide ((0 : Int) < ((k + 1 : Nat) : Int))) (decide_eq_true (by omega)) ?_
      repeat (first | refine Q_nil ?_ | (apply Q_plain; first | (apply Q_go; first | refine qP ?_ | refine qPg ?_) | refine qY ?_) | (apply Q_guarded; first | (apply Q_go; first | refine qPG ?_ | refine qPgG ?_) | refine qG ?_))
      clear hw
      intro w hw
      refine W_cond rfl (fun h2 => ?_) (fun h2 => ?_)
      · have h2 : ltI x y = true := by simpa [ltI] using h2
        rw [bub_step hx hy h2] at hC
        repeat (first | refine byW ?_ | (refine byV ?_; intro w hw))
        refine lStoreE (k := k + 1) (i := 0) ?_
        intro w hw
        have hw : Wd Γ (.own (.slice q m d) 3 1 ((intRows Z).set (k + 1) [.int .i64 y]) :: S) w := hw
        rw [set_rows] at hw
        have hnr : m = (intRows (Z.set (k + 1) y)).length := by simp [intRows]; omega
        repeat (first | refine byW ?_ | (refine byV ?_; intro w hw))
        refine lStoreE (k := k) (i := 0) ?_ (hx := by show Value.pointer _ = _; rw [show (((k + 1 : Nat) : Int) - 1).toNat = k by omega])
        intro w hw
        have hw : Wd Γ (.own (.slice q m d) 3 1 ((intRows (Z.set (k + 1) y)).set k [.int .i64 x]) :: S) w := hw
        rw [set_rows] at hw
        repeat (first | refine byW ?_ | (refine byV ?_; intro w hw))
        exact ⟨k, by omega, k, _, rfl, by omega, by simp; omega, hC, ⟨rfl, rfl, by show Value.int .i64 (((k + 1 : Nat) : Int) - 1) = _; rw [e1], trivial⟩, hw⟩
      · have h2 : ¬ ltI x y = true := by have : ltI x y = false := by simpa [ltI] using h2
                                         rw [this]; simp
        rw [bub_stop hx hy h2] at hC
        repeat (first | refine byW ?_ | (refine byV ?_; intro w hw))
        exact ⟨μ - 1, by omega, i + 1, Z, by omega, by omega, hZ, by rw [hB2, hC], ⟨rfl, rfl, trivial⟩, hw⟩
  · have him : ¬ i < m := by simpa using h
    repeat (first | refine byW ?_ | (refine byV ?_; intro w hw))
    refine ⟨_, rfl, _, rfl, ?_⟩
    rw [hB, show m - i = 0 by omega]; exact hw
theorem IDs_any {Γ : Gho} {S : List Res} {w : World} {xs : List CoreT} {nm : ByteArray} {v1 v2 v3 v4 v5 : Value} (hr : RdS Γ S v1 4 (xs.map enc)) (hl : xs.length ≤ 1000000) (hw : Wd Γ S w) :
    Calls Tryz.prog 44 #[.agg #[.string nm, v1, v2, v3, v4, v5]] w fun e w' => ∃ v', e = .returned v' ∧ Wd Γ (.own v' 3 1 (intRows (xs.map (·.ID))) :: S) w' := by
  obtain ⟨a, n, c, rfl, hn, hnc, hc⟩ := hr.shape
  have hnr := hn
  simp only [List.length_map] at hn
  refine calls_of_W Tryz.func44 rfl rfl ?_
  repeat (first | refine byW ?_ | (refine byV ?_; intro w hw))
  refine lBox ?_
  intro b1 w hw
  have hw : Wd Γ (.blk b1 (.cells #[.string nm, .slice a n c, v2, v3, v4, v5] 28) :: S) w := hw
  have hw : Wd Γ (.own (.slice none 0 0) 3 1 (intRows ((xs.take 0).map (·.ID))) :: .blk b1 (.cells #[.string nm, .slice a n c, v2, v3, v4, v5] 28) :: S) w := Wd.addNil hw
  repeat (first | refine byW ?_ | (refine byV ?_; intro w hw))
  refine W_loop (fun μ ρ w => ∃ (k : Nat) (q : Option Addr) (m d : Nat), μ + k = n ∧ Has ρ [(1, .pointer (some ⟨b1, 0, none⟩)), (3, .slice q m d), (4, .int .i64 k)] ∧ Wd Γ (.own (.slice q m d) 3 1 (intRows ((xs.take k).map (·.ID))) :: .blk b1 (.cells #[.string nm, .slice a n c, v2, v3, v4, v5] 28) :: S) w) n ⟨0, none, 0, 0, by omega, ⟨rfl, rfl, rfl, trivial⟩, hw⟩ ?_
  clear hw
  rintro μ ρ w ⟨k, q, m, d, hk, hρ, hw⟩
  have hm := own_len (i := 0) hw rfl
  simp only [intRows, List.length_map, List.length_take] at hm
  have hr1 : RdS Γ (.own (.slice q m d) 3 1 (intRows ((xs.take k).map (·.ID))) :: .blk b1 (.cells #[.string nm, .slice a n c, v2, v3, v4, v5] 28) :: S) (.slice a n c) 4 (xs.map enc) := hr.cons.cons
  rw [hρ.eq]
  repeat (first | refine byW ?_ | (refine byV ?_; intro w hw))
  refine W_cond rfl (fun h => ?_) (fun h => ?_)
  · have hkn : k < n := by simpa using h
    obtain ⟨x, hx⟩ := get_lt (l := xs) (k := k) (by omega)
    repeat (first | refine byW ?_ | (refine byV ?_; intro w hw))
    refine lBuildSlice [[.int .i64 x.ID]] ?_
    intro ab w hw
    refine lApp (i := 1) (rows2 := [[.int .i64 x.ID]]) ?_ (Wd.own_rd (i := 0) hw rfl)
    intro v' w hw
    obtain ⟨q', m', d', rfl, -, -, -⟩ := hw.own_shape (i := 1) rfl
    have hw : Wd Γ (.own (.slice q' m' d') 3 1 (intRows ((xs.take (k + 1)).map (·.ID))) :: .blk b1 (.cells #[.string nm, .slice a n c, v2, v3, v4, v5] 28) :: S) w := by
      rw [← rows_snocI (f := fun c : CoreT => c.ID) hx]; exact hw.drop
    repeat (first | refine byW ?_ | (refine byV ?_; intro w hw))
    exact ⟨μ - 1, by omega, k + 1, _, _, _, by omega, ⟨rfl, rfl, rfl, trivial⟩, hw⟩
  · have hkn : ¬ k < n := by simpa using h
    rw [List.take_of_length_le (by omega)] at hw
    repeat (first | refine byW ?_ | (refine byV ?_; intro w hw))
    exact ⟨_, rfl, _, rfl, hw.dropAt 1⟩
end Go.Proofs.YteiijmclobggjaaGreat
end
/- What the descriptions made of numbers are like. -/
section
open Go Mk
namespace Go.Proofs.YteiijmclobggjaaGreat
set_option maxHeartbeats 8000000
attribute [local irreducible] Calls
def nodeG (sh : Int) (j : Int) : Int := (5 * j + sh) % 64
def IsNodeG (nodes sh n : Int) : Prop := ∃ j : Int, 0 ≤ j ∧ j < nodes ∧ n = nodeG sh j
def CoresG (nodes sh first : Int) (l : List CoreT) : Prop := ∀ (i : Nat) (x : CoreT), l[i]? = some x → x.ID = (3 * i + first) % 32 ∧ (x.Width = 32 ∨ x.Width = 39) ∧ IsNodeG nodes sh x.Node ∧ 1 ≤ x.Speed ∧ x.Speed ≤ 4
def LinkIs (sh : Int) (l : LinkT) (p : Nat × Nat) : Prop := (l.A = nodeG sh p.1 ∧ l.B = nodeG sh p.2 ∨ l.A = nodeG sh p.2 ∧ l.B = nodeG sh p.1) ∧ 1 ≤ l.Latency ∧ l.Latency ≤ 9
def LinksG (sh : Int) (k : Nat) (l : List LinkT) : Prop := l.length ≤ 2 * k ∧ ∃ P : List (Nat × Nat), P.length = l.length ∧ P.Nodup ∧ (∀ p ∈ P, p.2 < p.1 ∧ p.1 < k) ∧ (∀ (i : Nat) (x : LinkT) (p : Nat × Nat), l[i]? = some x → P[i]? = some p → LinkIs sh x p) ∧ ∀ i, 1 ≤ i → i < k → ∃ j, (i, j) ∈ P
def ramN (i : Nat) : ByteArray := ⟨#[114, 97, 109, UInt8.ofNat (48 + i)]⟩
def devN (i : Nat) : ByteArray := ⟨#[100, 101, 118, UInt8.ofNat (48 + i)]⟩
def pairN (i : Nat) : ByteArray := ⟨#[112, 97, 105, 114, UInt8.ofNat (48 + i)]⟩
def ownN (i : Nat) : ByteArray := ⟨#[111, 119, 110, UInt8.ofNat (48 + i)]⟩
def MemsG (nodes sh : Int) (l : List MemT) : Prop := ∀ (i : Nat) (x : MemT), l[i]? = some x → x.Name = ramN i ∧ x.Base = (5 - i) * 16777216 ∧ (∃ e : Nat, 12 ≤ e ∧ e ≤ 19 ∧ x.Size = 2 ^ e) ∧ IsNodeG nodes sh x.Node ∧ 1 ≤ x.Latency ∧ x.Latency ≤ 9
def DevsG (nodes sh irq : Int) (l : List DevT) : Prop := ∀ (i : Nat) (x : DevT), l[i]? = some x → x.Name = devN i ∧ IsNodeG nodes sh x.Node ∧ x.IRQ = (7 * i + irq) % 256 ∧ x.Base = 4294967296 + i * 65536 ∧ (∃ t : Int, 1 ≤ t ∧ t ≤ 3 ∧ x.Size = 4096 * t)
def allB : ByteArray := ⟨#[97, 108, 108]⟩
def cacheG (ids : List Int) (p : Nat × Nat) : CacheT :=
  if p.1 = 3 then ⟨allB, 3, 64, 1048576, ids⟩ else if p.1 = 2 then ⟨pairN p.2, 2, 64, 65536, (ids.drop (2 * p.2)).take 2⟩ else ⟨ownN p.2, 1, 32, 4096, (ids.drop (2 * p.2)).take 1⟩
def TagsG (ids : List Int) (k : Nat) (T : List (Nat × Nat)) : Prop := T.Nodup ∧ T.length ≤ 1 + 2 * k ∧ ∀ p ∈ T, p = (3, 0) ∨ ((p.1 = 2 ∨ p.1 = 1) ∧ p.2 < k ∧ 2 * p.2 < ids.length)
def CachesG (ids : List Int) (l : List CacheT) : Prop := ∃ k T, TagsG ids k T ∧ k ≤ 4 ∧ l = T.map (cacheG ids)
structure Gen (H : HwT) (nodes sh first irq : Int) : Prop where
  nd : 1 ≤ nodes ∧ nodes ≤ 6
  sr : 0 ≤ sh ∧ sh < 64
  fi : 0 ≤ first ∧ first < 32
  iq : 0 ≤ irq ∧ irq < 256
  nm : H.Name = ⟨#[109]⟩
  nc : 1 ≤ H.Cores.length ∧ H.Cores.length ≤ 8
  co : CoresG nodes sh first H.Cores
  li : LinksG sh nodes.toNat H.Links
  nm' : H.Mems.length ≤ 4
  me : MemsG nodes sh H.Mems
  nd' : H.Devs.length ≤ 4
  de : DevsG nodes sh irq H.Devs
  ca : CachesG (bsort ltI (H.Cores.map (·.ID))) H.Caches

/-! ### one more of each -/
theorem get_snoc {α : Type} {l : List α} {y x : α} {i : Nat} (h : (l ++ [y])[i]? = some x) : l[i]? = some x ∨ (i = l.length ∧ x = y) := by
  rw [List.getElem?_append] at h
  split at h
  · exact .inl h
  · rename_i h2
    rcases Nat.eq_or_lt_of_le (Nat.not_lt.1 h2) with e | e
    · subst e; simp at h; exact .inr ⟨rfl, h.symm⟩
    · rw [List.getElem?_eq_none (by simp; omega)] at h; cases h
theorem CoresG.snoc {nodes sh first : Int} {l : List CoreT} {x : CoreT} (h : CoresG nodes sh first l) (hx : x.ID = (3 * l.length + first) % 32 ∧ (x.Width = 32 ∨ x.Width = 39) ∧ IsNodeG nodes sh x.Node ∧ 1 ≤ x.Speed ∧ x.Speed ≤ 4) : CoresG nodes sh first (l ++ [x]) := fun i y hy => by
  rcases get_snoc hy with h1 | ⟨rfl, rfl⟩
  · exact h i y h1
  · exact hx
theorem MemsG.snoc {nodes sh : Int} {l : List MemT} {x : MemT} (h : MemsG nodes sh l) (hx : x.Name = ramN l.length ∧ x.Base = (5 - l.length) * 16777216 ∧ (∃ e : Nat, 12 ≤ e ∧ e ≤ 19 ∧ x.Size = 2 ^ e) ∧ IsNodeG nodes sh x.Node ∧ 1 ≤ x.Latency ∧ x.Latency ≤ 9) : MemsG nodes sh (l ++ [x]) := fun i y hy => by
  rcases get_snoc hy with h1 | ⟨rfl, rfl⟩
  · exact h i y h1
  · exact hx
theorem DevsG.snoc {nodes sh irq : Int} {l : List DevT} {x : DevT} (h : DevsG nodes sh irq l) (hx : x.Name = devN l.length ∧ IsNodeG nodes sh x.Node ∧ x.IRQ = (7 * l.length + irq) % 256 ∧ x.Base = 4294967296 + l.length * 65536 ∧ (∃ t : Int, 1 ≤ t ∧ t ≤ 3 ∧ x.Size = 4096 * t)) : DevsG nodes sh irq (l ++ [x]) := fun i y hy => by
  rcases get_snoc hy with h1 | ⟨rfl, rfl⟩
  · exact h i y h1
  · exact hx
theorem LinksG.start {sh : Int} : LinksG sh 1 [] := ⟨by simp, [], rfl, List.nodup_nil, by simp, by simp, fun i h1 h2 => by omega⟩
theorem LinksG.one {sh : Int} {k up : Nat} {l : List LinkT} {x : LinkT} (h : LinksG sh k l) (hup : up < k) (hx : LinkIs sh x (k, up)) : LinksG sh (k + 1) (l ++ [x]) := by
  obtain ⟨h1, P, h2, h3, h4, h5, h6⟩ := h
  refine ⟨by simp; omega, P ++ [(k, up)], by simp [h2], nodup_snoc.2 ⟨h3, fun hm => by have := h4 _ hm; simp at this⟩, fun p hp => ?_, fun i y p hy hp => ?_, fun i hi hk => ?_⟩
  · rcases List.mem_append.1 hp with hp | hp
    · have := h4 p hp; omega
    · cases List.mem_singleton.1 hp; dsimp; omega
  · rcases get_snoc hy with a | ⟨a, rfl⟩
    · rcases get_snoc hp with b | ⟨b, rfl⟩
      · exact h5 i y p a b
      · have := (List.getElem?_eq_some_iff.1 a).1; omega
    · subst a
      rw [← h2] at hp
      simp at hp; subst hp; exact hx
  · by_cases e : i = k
    · subst e; exact ⟨up, by simp⟩
    · obtain ⟨j, hj⟩ := h6 i hi (by omega); exact ⟨j, List.mem_append_left _ hj⟩
theorem LinksG.two {sh : Int} {k up mo : Nat} {l : List LinkT} {x y : LinkT} (h : LinksG sh k l) (hk1 : 1 ≤ k) (hup : up < k) (hmo : mo < k) (hne : mo ≠ up) (hx : LinkIs sh x (k, up)) (hy : LinkIs sh y (k, mo)) : LinksG sh (k + 1) (l ++ [x] ++ [y]) := by
  obtain ⟨h1, P, h2, h3, h4, h5, h6⟩ := h
  have hfresh : ∀ j, (k, j) ∉ P := fun j hm => by have := h4 _ hm; simp at this
  refine ⟨by simp; omega, P ++ [(k, up)] ++ [(k, mo)], by simp [h2], nodup_snoc.2 ⟨nodup_snoc.2 ⟨h3, hfresh up⟩, fun hm => ?_⟩, fun p hp => ?_, fun i z p hz hp => ?_, fun i hi hk => ?_⟩
  · rcases List.mem_append.1 hm with hm | hm
    · exact hfresh mo hm
    · simp at hm; exact hne hm
  · rcases List.mem_append.1 hp with hp | hp
    · rcases List.mem_append.1 hp with hp | hp
      · have := h4 p hp; omega
      · cases List.mem_singleton.1 hp; dsimp; omega
    · cases List.mem_singleton.1 hp; dsimp; omega
  · rcases get_snoc hz with a | ⟨a, rfl⟩
    · have ha := (List.getElem?_eq_some_iff.1 a).1
      simp at ha
      rcases get_snoc hp with b | ⟨b, rfl⟩
      · rcases get_snoc a with a2 | ⟨a2, rfl⟩
        · rcases get_snoc b with b2 | ⟨b2, rfl⟩
          · exact h5 i z p a2 b2
          · have := (List.getElem?_eq_some_iff.1 a2).1; omega
        · subst a2
          rw [← h2] at b
          simp at b; subst b; exact hx
      · simp at b; omega
    · simp at a; subst a
      rw [← h2] at hp
      simp [List.getElem?_append] at hp; subst hp; exact hy
  · by_cases e : i = k
    · subst e; exact ⟨up, by simp⟩
    · obtain ⟨j, hj⟩ := h6 i hi (by omega); exact ⟨j, List.mem_append_left _ (List.mem_append_left _ hj)⟩
theorem TagsG.start {ids : List Int} : TagsG ids 0 [] := ⟨List.nodup_nil, by simp, by simp⟩
theorem TagsG.all {ids : List Int} : TagsG ids 0 [(3, 0)] := ⟨by simp, by simp, by simp⟩
theorem TagsG.step {ids : List Int} {k : Nat} {T : List (Nat × Nat)} (h : TagsG ids k T) (hk : 2 * k < ids.length) (b1 b2 : Bool) : TagsG ids (k + 1) (T ++ (if b1 = true then [(2, k)] else []) ++ (if b2 = true then [(1, k)] else [])) := by
  obtain ⟨h1, h2, h3⟩ := h
  have hfr : ∀ t, t ≠ 3 → (t, k) ∉ T := fun t ht hm => by
    rcases h3 _ hm with h | h
    · injection h with h4 _; exact ht h4
    · have := h.2.1; dsimp at this; omega
  have hold : ∀ p ∈ T, p = (3, 0) ∨ ((p.1 = 2 ∨ p.1 = 1) ∧ p.2 < k + 1 ∧ 2 * p.2 < ids.length) := fun p hp => by
    rcases h3 p hp with h | ⟨a, b, c⟩
    · exact .inl h
    · exact .inr ⟨a, by omega, c⟩
  cases b1 <;> cases b2 <;> simp only [if_true, if_false, List.append_nil, Bool.false_eq_true]
  · exact ⟨h1, by omega, hold⟩
  · refine ⟨nodup_snoc.2 ⟨h1, hfr 1 (by decide)⟩, by simp; omega, fun p hp => ?_⟩
    rcases List.mem_append.1 hp with hp | hp
    · exact hold p hp
    · cases List.mem_singleton.1 hp; exact .inr ⟨.inr rfl, by dsimp; omega, by dsimp; omega⟩
  · refine ⟨nodup_snoc.2 ⟨h1, hfr 2 (by decide)⟩, by simp; omega, fun p hp => ?_⟩
    rcases List.mem_append.1 hp with hp | hp
    · exact hold p hp
    · cases List.mem_singleton.1 hp; exact .inr ⟨.inl rfl, by dsimp; omega, by dsimp; omega⟩
  · refine ⟨nodup_snoc.2 ⟨nodup_snoc.2 ⟨h1, hfr 2 (by decide)⟩, fun hm => ?_⟩, by simp; omega, fun p hp => ?_⟩
    · rcases List.mem_append.1 hm with hm | hm
      · exact hfr 1 (by decide) hm
      · simp at hm
    · rcases List.mem_append.1 hp with hp | hp
      · rcases List.mem_append.1 hp with hp | hp
        · exact hold p hp
        · cases List.mem_singleton.1 hp; exact .inr ⟨.inl rfl, by dsimp; omega, by dsimp; omega⟩
      · cases List.mem_singleton.1 hp; exact .inr ⟨.inr rfl, by dsimp; omega, by dsimp; omega⟩
end Go.Proofs.YteiijmclobggjaaGreat
end
/- Sorting by exchanges: what comes out is sorted and has the same elements. -/
section
open Go Mk
namespace Go.Proofs.YteiijmclobggjaaGreat
set_option maxHeartbeats 4000000
attribute [local irreducible] Calls
theorem swap_perm {α : Type} {l : List α} {k : Nat} {x y : α} (hx : l[k + 1]? = some x) (hy : l[k]? = some y) : ((l.set (k + 1) y).set k x).Perm l := by
  induction l generalizing k with
  | nil => simp at hx
  | cons a l ih =>
    cases k with
    | zero =>
      cases l with
      | nil => simp at hx
      | cons b l =>
        simp at hx hy
        subst hx hy
        exact List.Perm.swap _ _ _
    | succ k =>
      simp only [List.getElem?_cons_succ] at hx hy
      simp only [List.set_cons_succ]
      exact List.Perm.cons _ (ih hx hy)
theorem bub_perm {α : Type} {lt : α → α → Bool} : ∀ (k : Nat) (l : List α), (bub lt k l).Perm l
  | 0, l => List.Perm.refl _
  | k + 1, l => by
    unfold bub
    split
    · rename_i x y hx hy
      split
      · exact (bub_perm k _).trans (swap_perm hx hy)
      · exact List.Perm.refl _
    · exact List.Perm.refl _
theorem bsFrom_perm {α : Type} {lt : α → α → Bool} : ∀ (f i : Nat) (l : List α), (bsFrom lt f i l).Perm l
  | 0, _, l => List.Perm.refl _
  | f + 1, i, l => (bsFrom_perm f (i + 1) _).trans (bub_perm i l)
theorem bsort_perm {α : Type} {lt : α → α → Bool} (l : List α) : (bsort lt l).Perm l := bsFrom_perm _ _ _

/-- The elements at two places are in order. -/
def leAt {α : Type} (le : α → α → Prop) (l : List α) (p q : Nat) : Prop := ∀ x y, l[p]? = some x → l[q]? = some y → le x y
structure LeLt {α : Type} (le : α → α → Prop) (lt : α → α → Bool) : Prop where
  t : ∀ {x y}, lt x y = true → le x y
  f : ∀ {x y}, lt x y = false → le y x
  tr : ∀ {x y z}, le x y → le y z → le x z
theorem bub_sorted {α : Type} {le : α → α → Prop} {lt : α → α → Bool} (hl : LeLt le lt) : ∀ (k i : Nat) (l : List α), k ≤ i → i < l.length → (∀ p q, p < q → q ≤ i → p ≠ k → q ≠ k → leAt le l p q) → (∀ q, k < q → q ≤ i → leAt le l k q) → ∀ p q, p < q → q ≤ i → leAt le (bub lt k l) p q
  | 0, i, l, hk, hi, h1, h2, p, q, hpq, hq => by
    show leAt le l p q
    by_cases e : p = 0
    · subst e; exact h2 q hpq hq
    · exact h1 p q hpq hq e (by omega)
  | k + 1, i, l, hk, hi, h1, h2, p, q, hpq, hq => by
    obtain ⟨x, hx⟩ := get_lt (l := l) (k := k + 1) (by omega)
    obtain ⟨y, hy⟩ := get_lt (l := l) (k := k) (by omega)
    by_cases hlt : lt x y = true
    · rw [bub_step hx hy hlt]
      have g0 : ∀ r, r ≠ k → r ≠ k + 1 → ((l.set (k + 1) y).set k x)[r]? = l[r]? := fun r a b => by
        rw [List.getElem?_set_ne (by omega), List.getElem?_set_ne (by omega)]
      have g1 : ((l.set (k + 1) y).set k x)[k]? = some x := by rw [List.getElem?_set_self (by simp; omega)]
      have g2 : ((l.set (k + 1) y).set k x)[k + 1]? = some y := by rw [List.getElem?_set_ne (by omega), List.getElem?_set_self (by omega)]
      refine bub_sorted hl k i _ (by omega) (by simp; omega) (fun p q hpq hq hp1 hq1 => ?_) (fun q hkq hq => ?_) p q hpq hq
      · intro u v hu hv
        by_cases e1 : q = k + 1
        · subst e1
          rw [g2] at hv; cases hv
          rw [g0 p hp1 (by omega)] at hu
          exact h1 p k (by omega) (by omega) (by omega) (by omega) u y hu hy
        · rw [g0 q hq1 e1] at hv
          by_cases e2 : p = k + 1
          · subst e2
            rw [g2] at hu; cases hu
            exact h1 k q (by omega) hq (by omega) e1 y v hy hv
          · rw [g0 p hp1 e2] at hu
            exact h1 p q hpq hq e2 e1 u v hu hv
      · intro u v hu hv
        rw [g1] at hu; cases hu
        by_cases e1 : q = k + 1
        · subst e1; rw [g2] at hv; cases hv; exact hl.t hlt
        · rw [g0 q (by omega) e1] at hv
          exact h2 q (by omega) hq x v hx hv
    · rw [bub_stop hx hy hlt]
      have hge : le y x := hl.f (by simpa using hlt)
      by_cases e1 : p = k + 1
      · subst e1; exact h2 q hpq hq
      · by_cases e2 : q = k + 1
        · subst e2
          intro u v hu hv
          rw [hx] at hv; cases hv
          by_cases e3 : p = k
          · subst e3; rw [hy] at hu; cases hu; exact hge
          · exact hl.tr (h1 p k (by omega) (by omega) e1 (by omega) u y hu hy) hge
        · exact h1 p q hpq hq e1 e2
theorem bsFrom_sorted {α : Type} {le : α → α → Prop} {lt : α → α → Bool} (hl : LeLt le lt) : ∀ (f i : Nat) (l : List α), l.length ≤ i + f → (∀ p q, p < q → q < i → leAt le l p q) → ∀ p q, p < q → leAt le (bsFrom lt f i l) p q
  | 0, i, l, hf, h, p, q, hpq => by
    intro u v hu hv
    have : q < l.length := (List.getElem?_eq_some_iff.1 hv).1
    exact h p q hpq (by omega) u v hu hv
  | f + 1, i, l, hf, h, p, q, hpq => by
    by_cases hi : i < l.length
    · refine bsFrom_sorted hl f (i + 1) (bub lt i l) (by rw [bub_len]; omega) (fun p q hpq hq => ?_) p q hpq
      exact bub_sorted hl i i l (Nat.le_refl _) hi (fun p q a b c d => h p q a (by omega)) (fun q a b => by omega) p q hpq (by omega)
    · refine bsFrom_sorted hl f (i + 1) (bub lt i l) (by rw [bub_len]; omega) (fun p q hpq hq => ?_) p q hpq
      have hb : bub lt i l = l := by
        cases i with
        | zero => rfl
        | succ i => unfold bub; rw [List.getElem?_eq_none (by omega)]
      rw [hb]
      intro u v hu hv
      have : q < l.length := (List.getElem?_eq_some_iff.1 hv).1
      exact h p q hpq (by omega) u v hu hv
theorem bsort_sorted {α : Type} {le : α → α → Prop} {lt : α → α → Bool} (hl : LeLt le lt) (l : List α) {p q : Nat} (hpq : p < q) : leAt le (bsort lt l) p q :=
  bsFrom_sorted hl _ 1 l (by omega) (fun p q a b => by omega) p q hpq
theorem leLtI : LeLt (fun a b : Int => a ≤ b) ltI := ⟨fun h => by unfold ltI at h; simp at h; omega, fun h => by unfold ltI at h; simp at h; omega, fun a b => Int.le_trans a b⟩
theorem sortI {l : List Int} : sortedP (bsort ltI l) := fun i a b ha hb => bsort_sorted leLtI l (Nat.lt_succ_self i) a b ha hb
end Go.Proofs.YteiijmclobggjaaGreat
end
/- The descriptions made of numbers are valid: names, counts, numbers, alignment. -/
section
open Go Mk
namespace Go.Proofs.YteiijmclobggjaaGreat
set_option maxHeartbeats 4000000
attribute [local irreducible] Calls
section
variable {H : HwT} {nodes sh first irq : Int}
theorem nodeG_in (sh j : Int) : 0 ≤ nodeG sh j ∧ nodeG sh j < 64 := by unfold nodeG; omega
theorem nodeG_inj {sh : Int} {i j : Int} (h0 : 0 ≤ i) (h1 : i < 6) (h2 : 0 ≤ j) (h3 : j < 6) (h : nodeG sh i = nodeG sh j) : i = j := by unfold nodeG at h; omega
theorem isNode_G (sh j : Int) : isNodeB (nodeG sh j) = true := by
  have := nodeG_in sh j
  simp [isNodeB]; omega
theorem IsNodeG.ok {n : Int} (h : IsNodeG nodes sh n) : isNodeB n = true := by obtain ⟨j, -, -, rfl⟩ := h; exact isNode_G sh j
theorem mem_get {α : Type} {l : List α} {x : α} (h : x ∈ l) : ∃ i, i < l.length ∧ l[i]? = some x := by
  obtain ⟨i, hi, he⟩ := List.getElem_of_mem h
  exact ⟨i, hi, by rw [List.getElem?_eq_getElem hi, he]⟩
theorem tags_lt {ids : List Int} {k : Nat} {T : List (Nat × Nat)} (h : TagsG ids k T) (hk : k ≤ 4) {p : Nat × Nat} (hp : p ∈ T) : p = (3, 0) ∨ ((p.1 = 2 ∨ p.1 = 1) ∧ p.2 < 4 ∧ 2 * p.2 < ids.length) := by
  rcases h.2.2 p hp with h | ⟨a, b, c⟩
  · exact .inl h
  · exact .inr ⟨a, by omega, c⟩
theorem ramN_ok {i : Nat} (h : i < 4) : nameS (ramN i) = true := by
  have : i = 0 ∨ i = 1 ∨ i = 2 ∨ i = 3 := by omega
  rcases this with rfl | rfl | rfl | rfl <;> decide +kernel
theorem devN_ok {i : Nat} (h : i < 4) : nameS (devN i) = true := by
  have : i = 0 ∨ i = 1 ∨ i = 2 ∨ i = 3 := by omega
  rcases this with rfl | rfl | rfl | rfl <;> decide +kernel
theorem pairN_ok {i : Nat} (h : i < 4) : nameS (pairN i) = true := by
  have : i = 0 ∨ i = 1 ∨ i = 2 ∨ i = 3 := by omega
  rcases this with rfl | rfl | rfl | rfl <;> decide +kernel
theorem ownN_ok {i : Nat} (h : i < 4) : nameS (ownN i) = true := by
  have : i = 0 ∨ i = 1 ∨ i = 2 ∨ i = 3 := by omega
  rcases this with rfl | rfl | rfl | rfl <;> decide +kernel
/-- The caches, one by one. -/
inductive CacheK (ids : List Int) : CacheT → Nat × Nat → Prop
  | all : CacheK ids ⟨allB, 3, 64, 1048576, ids⟩ (3, 0)
  | pair {t : Nat} : t < 4 → 2 * t < ids.length → CacheK ids ⟨pairN t, 2, 64, 65536, (ids.drop (2 * t)).take 2⟩ (2, t)
  | own {t : Nat} : t < 4 → 2 * t < ids.length → CacheK ids ⟨ownN t, 1, 32, 4096, (ids.drop (2 * t)).take 1⟩ (1, t)
theorem cacheK {ids : List Int} {k : Nat} {T : List (Nat × Nat)} (h : TagsG ids k T) (hk : k ≤ 4) {p : Nat × Nat} (hp : p ∈ T) : CacheK ids (cacheG ids p) p := by
  rcases tags_lt h hk hp with rfl | ⟨a, b, c⟩
  · exact .all
  · obtain ⟨p1, p2⟩ := p
    rcases a with rfl | rfl
    · exact .pair b c
    · exact .own b c
theorem cacheK_name {ids : List Int} {c : CacheT} {p : Nat × Nat} (h : CacheK ids c p) : nameS c.Name = true := by
  cases h with
  | all => show nameS allB = true; decide +kernel
  | pair h => exact pairN_ok h
  | own h => exact ownN_ok h
theorem cacheK_rng {ids : List Int} {c : CacheT} {p : Nat × Nat} (h : CacheK ids c p) (hi : 0 < ids.length) : cacheRB c = true := by
  have e64 : decide (bitsZ .and .i64 64 (IntKind.i64.wrap (64 - 1)) = 0) = true := by decide +kernel
  have e32 : decide (bitsZ .and .i64 32 (IntKind.i64.wrap (32 - 1)) = 0) = true := by decide +kernel
  have w64 : IntKind.u64.wrap 64 = 64 := by decide +kernel
  have w32 : IntKind.u64.wrap 32 = 32 := by decide +kernel
  cases h with
  | all => unfold cacheRB; dsimp only; rw [e64, w64]; simp; omega
  | pair h1 h2 => unfold cacheRB; dsimp only; rw [e64, w64]; simp; omega
  | own h1 h2 => unfold cacheRB; dsimp only; rw [e32, w32]; simp; omega
theorem gen_ids (g : Gen H nodes sh first irq) : (bsort ltI (H.Cores.map (·.ID))).length = H.Cores.length := by rw [bsort_len]; simp
theorem gen_names (g : Gen H nodes sh first irq) : namesB H = true := by
  have hh : headB H = true := by unfold headB; rw [g.nm]; decide +kernel
  obtain ⟨k, T, hT, hk, hc⟩ := g.ca
  unfold namesB
  rw [hh]
  simp only [Bool.true_and, Bool.and_eq_true, List.all_eq_true]
  refine ⟨⟨fun c hcm => ?_, fun x hx => ?_⟩, fun x hx => ?_⟩
  · rw [hc] at hcm
    obtain ⟨p, hp, rfl⟩ := List.mem_map.1 hcm
    exact cacheK_name (cacheK hT hk hp)
  · obtain ⟨i, hi, he⟩ := mem_get hx
    rw [(g.me i x he).1]; exact ramN_ok (by have := g.nm'; omega)
  · obtain ⟨i, hi, he⟩ := mem_get hx
    rw [(g.de i x he).1]; exact devN_ok (by have := g.nd'; omega)
theorem gen_counts (g : Gen H nodes sh first irq) : countsB H = true := by
  obtain ⟨k, T, hT, hk, hc⟩ := g.ca
  have h1 := g.nc
  have h2 := g.nm'
  have h3 := g.nd'
  have h4 := g.li.1
  have h5 := g.nd
  have h6 := hT.2.1
  have h7 : H.Caches.length = T.length := by rw [hc]; simp
  unfold countsB
  simp only [Bool.and_eq_true, decide_eq_true_eq]
  omega
theorem wrap_top {s : Int} (h0 : 0 ≤ s) (h : s ≤ 1099511627776) : IntKind.u64.wrap (1099511627776 - s) = 1099511627776 - s := by simp [IntKind.wrap, IntKind.bits, IntKind.signed]; omega
theorem pow_rng {e : Nat} (h1 : 12 ≤ e) (h2 : e ≤ 19) : (4096 : Int) ≤ 2 ^ e ∧ (2 : Int) ^ e ≤ 524288 := by
  have : e = 12 ∨ e = 13 ∨ e = 14 ∨ e = 15 ∨ e = 16 ∨ e = 17 ∨ e = 18 ∨ e = 19 := by omega
  rcases this with rfl | rfl | rfl | rfl | rfl | rfl | rfl | rfl <;> decide
theorem link_of (g : LinksG sh nodes.toNat H.Links) {i : Nat} {x : LinkT} (hx : H.Links[i]? = some x) : ∃ P : List (Nat × Nat), P.length = H.Links.length ∧ P.Nodup ∧ (∃ p, P[i]? = some p) ∧ ∀ (i : Nat) (x : LinkT), H.Links[i]? = some x → ∃ p, P[i]? = some p ∧ LinkIs sh x p ∧ p.2 < p.1 ∧ p.1 < nodes.toNat := by
  obtain ⟨-, P, h2, h3, h4, h5, -⟩ := g
  refine ⟨P, h2, h3, ?_, fun i x hx => ?_⟩
  · exact get_lt (by have := (List.getElem?_eq_some_iff.1 hx).1; omega)
  · obtain ⟨p, hp⟩ := get_lt (l := P) (k := i) (by have := (List.getElem?_eq_some_iff.1 hx).1; omega)
    exact ⟨p, hp, h5 i x p hx hp, h4 p (List.mem_of_getElem? hp)⟩
theorem gen_cores (g : Gen H nodes sh first irq) : coresRB H = true := by
  obtain ⟨k, T, hT, hk, hc⟩ := g.ca
  have hfi := g.fi
  have hnd := g.nd
  unfold coresRB
  simp only [Bool.and_eq_true, List.all_eq_true]
  refine ⟨fun x hx => ?_, fun c hcm => ?_, fun x hx => ?_⟩
  · obtain ⟨i, hi, he⟩ := mem_get hx
    obtain ⟨h1, h2, h3, h4, h5⟩ := g.co i x he
    have := h3.ok
    unfold coreRB
    rw [this]
    simp; omega
  · rw [hc] at hcm
    obtain ⟨p, hp, rfl⟩ := List.mem_map.1 hcm
    exact cacheK_rng (cacheK hT hk hp) (by rw [gen_ids g]; have := g.nc; omega)
  · obtain ⟨i, hi, he⟩ := mem_get hx
    obtain ⟨P, -, -, -, hP⟩ := link_of g.li he
    obtain ⟨p, hp, ⟨h1, h2, h3⟩, h4, h5⟩ := hP i x he
    have hne : nodeG sh p.1 ≠ nodeG sh p.2 := fun e => by
      have := nodeG_inj (by omega) (by omega) (by omega) (by omega) e
      omega
    unfold linkRB
    rcases h1 with ⟨a, b⟩ | ⟨a, b⟩
    · rw [a, b, isNode_G, isNode_G]; simp [isLatB]; exact ⟨hne, by omega⟩
    · rw [a, b, isNode_G, isNode_G]; simp [isLatB]; exact ⟨fun e => hne e.symm, by omega⟩
theorem gen_regions (g : Gen H nodes sh first irq) : regionsRB H = true := by
  have h7 := g.nm'
  have h8 := g.nd'
  unfold regionsRB
  simp only [Bool.and_eq_true, List.all_eq_true]
  refine ⟨fun x hx => ?_, fun x hx => ?_⟩
  · obtain ⟨i, hi, he⟩ := mem_get hx
    obtain ⟨h1, h2, ⟨e, e1, e2, h3⟩, h4, h5, h6⟩ := g.me i x he
    obtain ⟨p1, p2⟩ := pow_rng e1 e2
    unfold memRB inSpaceB
    rw [h4.ok, wrap_top (by omega) (by omega)]
    simp [isLatB]; omega
  · obtain ⟨i, hi, he⟩ := mem_get hx
    obtain ⟨h1, h2, h3, h4, t, t1, t2, h5⟩ := g.de i x he
    have := g.iq
    unfold devRB inSpaceB
    rw [h2.ok, wrap_top (by omega) (by omega)]
    simp; omega
theorem align_mem {i e : Nat} (hi : i < 4) (h1 : 12 ≤ e) (h2 : e ≤ 19) : (decide (bitsZ .and .u64 (2 ^ e) (IntKind.u64.wrap (2 ^ e - 1)) = 0) && decide (bitsZ .and .u64 ((5 - (i : Int)) * 16777216) (IntKind.u64.wrap (2 ^ e - 1)) = 0)) = true := by
  have a : i = 0 ∨ i = 1 ∨ i = 2 ∨ i = 3 := by omega
  have b : e = 12 ∨ e = 13 ∨ e = 14 ∨ e = 15 ∨ e = 16 ∨ e = 17 ∨ e = 18 ∨ e = 19 := by omega
  rcases a with rfl | rfl | rfl | rfl <;> rcases b with rfl | rfl | rfl | rfl | rfl | rfl | rfl | rfl <;> decide +kernel
theorem gen_align (g : Gen H nodes sh first irq) : alignRB H = true := by
  have h7 := g.nm'
  have h8 := g.nd'
  unfold alignRB
  simp only [Bool.and_eq_true, List.all_eq_true]
  refine ⟨fun x hx => ?_, fun x hx => ?_⟩
  · obtain ⟨i, hi, he⟩ := mem_get hx
    obtain ⟨h1, h2, ⟨e, e1, e2, h3⟩, -⟩ := g.me i x he
    unfold memAB
    rw [h2, h3]
    exact align_mem (by omega) e1 e2
  · obtain ⟨i, hi, he⟩ := mem_get hx
    obtain ⟨h1, h2, h3, h4, t, t1, t2, h5⟩ := g.de i x he
    unfold devAB
    rw [h4, h5, Int.tmod_eq_emod_of_nonneg (by omega), Int.tmod_eq_emod_of_nonneg (by omega)]
    simp; omega
end
end Go.Proofs.YteiijmclobggjaaGreat
end
/- The descriptions made of numbers are valid: nothing twice, nesting, disjoint regions, connected nodes. -/
section
open Go Mk
namespace Go.Proofs.YteiijmclobggjaaGreat
set_option maxHeartbeats 4000000
attribute [local irreducible] Calls
section
variable {H : HwT} {nodes sh first irq : Int}
theorem nodup_of {α : Type} : ∀ {l : List α}, (∀ (i j : Nat) (x : α), l[i]? = some x → l[j]? = some x → i = j) → l.Nodup
  | [], _ => List.nodup_nil
  | a :: l, h => List.nodup_cons.2 ⟨fun hm => by
      obtain ⟨i, hi, he⟩ := mem_get hm
      have := h 0 (i + 1) a rfl (by simpa using he)
      omega, nodup_of fun i j x hi hj => by
      have := h (i + 1) (j + 1) x (by simpa using hi) (by simpa using hj)
      omega⟩
theorem nodup_get {α : Type} : ∀ {l : List α}, l.Nodup → ∀ {i j : Nat} {x : α}, l[i]? = some x → l[j]? = some x → i = j
  | [], _, i, j, x, h, _ => by simp at h
  | a :: l, h, 0, 0, x, _, _ => rfl
  | a :: l, h, 0, j + 1, x, h1, h2 => by
    simp at h1 h2; subst h1
    exact absurd (List.mem_of_getElem? h2) (List.nodup_cons.1 h).1
  | a :: l, h, i + 1, 0, x, h1, h2 => by
    simp at h1 h2; subst h2
    exact absurd (List.mem_of_getElem? h1) (List.nodup_cons.1 h).1
  | a :: l, h, i + 1, j + 1, x, h1, h2 => by
    simp at h1 h2
    rw [nodup_get (List.nodup_cons.1 h).2 h1 h2]
theorem map_get {α β : Type} {f : α → β} {l : List α} {i : Nat} {y : β} (h : (l.map f)[i]? = some y) : ∃ x, l[i]? = some x ∧ f x = y := by
  rw [List.getElem?_map] at h
  exact Option.map_eq_some_iff.1 h
theorem ids_nodup (g : Gen H nodes sh first irq) : (H.Cores.map (·.ID)).Nodup := nodup_of fun i j x hi hj => by
  obtain ⟨a, ha, rfl⟩ := map_get hi
  obtain ⟨b, hb, he⟩ := map_get hj
  have h1 := (g.co i a ha).1
  have h2 := (g.co j b hb).1
  have := (List.getElem?_eq_some_iff.1 ha).1
  have := (List.getElem?_eq_some_iff.1 hb).1
  have := g.nc
  have := g.fi
  rw [h1, h2] at he
  omega
theorem ramN_inj {i j : Nat} (hi : i < 4) (hj : j < 4) (h : ramN i = ramN j) : i = j := by
  have a : i = 0 ∨ i = 1 ∨ i = 2 ∨ i = 3 := by omega
  have b : j = 0 ∨ j = 1 ∨ j = 2 ∨ j = 3 := by omega
  rcases a with rfl | rfl | rfl | rfl <;> rcases b with rfl | rfl | rfl | rfl <;> first | rfl | (revert h; decide +kernel)
theorem devN_inj {i j : Nat} (hi : i < 4) (hj : j < 4) (h : devN i = devN j) : i = j := by
  have a : i = 0 ∨ i = 1 ∨ i = 2 ∨ i = 3 := by omega
  have b : j = 0 ∨ j = 1 ∨ j = 2 ∨ j = 3 := by omega
  rcases a with rfl | rfl | rfl | rfl <;> rcases b with rfl | rfl | rfl | rfl <;> first | rfl | (revert h; decide +kernel)
theorem pairN_inj {i j : Nat} (hi : i < 4) (hj : j < 4) (h : pairN i = pairN j) : i = j := by
  have a : i = 0 ∨ i = 1 ∨ i = 2 ∨ i = 3 := by omega
  have b : j = 0 ∨ j = 1 ∨ j = 2 ∨ j = 3 := by omega
  rcases a with rfl | rfl | rfl | rfl <;> rcases b with rfl | rfl | rfl | rfl <;> first | rfl | (revert h; decide +kernel)
theorem ownN_inj {i j : Nat} (hi : i < 4) (hj : j < 4) (h : ownN i = ownN j) : i = j := by
  have a : i = 0 ∨ i = 1 ∨ i = 2 ∨ i = 3 := by omega
  have b : j = 0 ∨ j = 1 ∨ j = 2 ∨ j = 3 := by omega
  rcases a with rfl | rfl | rfl | rfl <;> rcases b with rfl | rfl | rfl | rfl <;> first | rfl | (revert h; decide +kernel)
theorem bytes_ne {a b : ByteArray} (h : a.data.toList.head? ≠ b.data.toList.head?) : a ≠ b := fun e => h (by rw [e])
theorem cacheK_inj {ids : List Int} {c d : CacheT} {p q : Nat × Nat} (h : CacheK ids c p) (k : CacheK ids d q) (e : c.Name = d.Name) : p = q := by
  cases h with
  | all => cases k with
    | all => rfl
    | pair => exact absurd e (bytes_ne (by show some (97 : UInt8) ≠ some 112; decide))
    | own => exact absurd e (bytes_ne (by show some (97 : UInt8) ≠ some 111; decide))
  | pair h1 => cases k with
    | all => exact absurd e (bytes_ne (by show some (112 : UInt8) ≠ some 97; decide))
    | pair h2 => rw [pairN_inj h1 h2 e]
    | own => exact absurd e (bytes_ne (by show some (112 : UInt8) ≠ some 111; decide))
  | own h1 => cases k with
    | all => exact absurd e (bytes_ne (by show some (111 : UInt8) ≠ some 97; decide))
    | pair => exact absurd e (bytes_ne (by show some (111 : UInt8) ≠ some 112; decide))
    | own h2 => rw [ownN_inj h1 h2 e]
theorem cacheK_cores {ids : List Int} {c : CacheT} {p : Nat × Nat} (h : CacheK ids c p) : c.Cores.Sublist ids := by
  cases h with
  | all => exact List.Sublist.refl _
  | pair => exact (List.take_sublist _ _).trans (List.drop_sublist _ _)
  | own => exact (List.take_sublist _ _).trans (List.drop_sublist _ _)
theorem linkKey_of {x : LinkT} {p : Nat × Nat} (h : LinkIs sh x p) : linkKey x = (min (nodeG sh p.1) (nodeG sh p.2), max (nodeG sh p.1) (nodeG sh p.2)) := by
  obtain ⟨h1, -⟩ := h
  unfold linkKey
  rcases h1 with ⟨a, b⟩ | ⟨a, b⟩
  · rw [a, b]; congr 1 <;> split <;> omega
  · rw [a, b]; congr 1 <;> split <;> omega
theorem links_nodup (g : Gen H nodes sh first irq) : (H.Links.map linkKey).Nodup := nodup_of fun i j z hi hj => by
  obtain ⟨a, ha, rfl⟩ := map_get hi
  obtain ⟨b, hb, he⟩ := map_get hj
  obtain ⟨P, hl, hn, -, hP⟩ := link_of g.li ha
  obtain ⟨p, hp, hp1, hp2, hp3⟩ := hP i a ha
  obtain ⟨q, hq, hq1, hq2, hq3⟩ := hP j b hb
  have hnd := g.nd
  rw [linkKey_of hp1, linkKey_of hq1] at he
  injection he with e1 e2
  have hpq : p = q := by
    have c : (nodeG sh p.1 = nodeG sh q.1 ∧ nodeG sh p.2 = nodeG sh q.2) ∨ (nodeG sh p.1 = nodeG sh q.2 ∧ nodeG sh p.2 = nodeG sh q.1) := by omega
    rcases c with ⟨c1, c2⟩ | ⟨c1, c2⟩
    · have d1 := nodeG_inj (by omega) (by omega) (by omega) (by omega) c1
      have d2 := nodeG_inj (by omega) (by omega) (by omega) (by omega) c2
      exact Prod.ext (by omega) (by omega)
    · have d1 := nodeG_inj (by omega) (by omega) (by omega) (by omega) c1
      have d2 := nodeG_inj (by omega) (by omega) (by omega) (by omega) c2
      omega
  subst hpq
  exact nodup_get hn hp hq
theorem gen_unique (g : Gen H nodes sh first irq) : uniqueB H = true := by
  obtain ⟨k, T, hT, hk, hc⟩ := g.ca
  have hids : (bsort ltI (H.Cores.map (·.ID))).Nodup := (bsort_perm _).nodup_iff.2 (ids_nodup g)
  unfold uniqueB
  simp only [Bool.and_eq_true, List.all_eq_true, decide_eq_true_eq]
  refine ⟨fun c hcm => ?_, ⟨⟨⟨⟨⟨ids_nodup g, ?_⟩, ?_⟩, ?_⟩, ?_⟩, links_nodup g⟩⟩
  · rw [hc] at hcm
    obtain ⟨p, hp, rfl⟩ := List.mem_map.1 hcm
    exact hids.sublist (cacheK_cores (cacheK hT hk hp))
  · rw [hc, List.map_map]
    refine nodup_of fun i j z hi hj => ?_
    obtain ⟨p, hp, rfl⟩ := map_get hi
    obtain ⟨q, hq, he⟩ := map_get hj
    have hpq := cacheK_inj (cacheK hT hk (List.mem_of_getElem? hq)) (cacheK hT hk (List.mem_of_getElem? hp)) he
    subst hpq
    exact nodup_get hT.1 hp hq
  · refine nodup_of fun i j z hi hj => ?_
    obtain ⟨a, ha, rfl⟩ := map_get hi
    obtain ⟨b, hb, he⟩ := map_get hj
    rw [(g.me i a ha).1, (g.me j b hb).1] at he
    have := (List.getElem?_eq_some_iff.1 ha).1
    have := (List.getElem?_eq_some_iff.1 hb).1
    have := g.nm'
    exact (ramN_inj (by omega) (by omega) he).symm
  · refine nodup_of fun i j z hi hj => ?_
    obtain ⟨a, ha, rfl⟩ := map_get hi
    obtain ⟨b, hb, he⟩ := map_get hj
    rw [(g.de i a ha).1, (g.de j b hb).1] at he
    have := (List.getElem?_eq_some_iff.1 ha).1
    have := (List.getElem?_eq_some_iff.1 hb).1
    have := g.nd'
    exact (devN_inj (by omega) (by omega) he).symm
  · refine nodup_of fun i j z hi hj => ?_
    obtain ⟨a, ha, rfl⟩ := map_get hi
    obtain ⟨b, hb, he⟩ := map_get hj
    have h1 := (g.de i a ha).2.2.1
    have h2 := (g.de j b hb).2.2.1
    rw [h1, h2] at he
    have := (List.getElem?_eq_some_iff.1 ha).1
    have := (List.getElem?_eq_some_iff.1 hb).1
    have := g.nd'
    have := g.iq
    omega
theorem gen_known (g : Gen H nodes sh first irq) : knownB H = true := by
  obtain ⟨k, T, hT, hk, hc⟩ := g.ca
  unfold knownB
  simp only [List.all_eq_true, List.any_eq_true, decide_eq_true_eq]
  intro c hcm id hid
  rw [hc] at hcm
  obtain ⟨p, hp, rfl⟩ := List.mem_map.1 hcm
  have h1 := (cacheK_cores (cacheK hT hk hp)).subset hid
  have h2 := (bsort_perm _).mem_iff.1 h1
  obtain ⟨x, hx, he⟩ := List.mem_map.1 h2
  exact ⟨x, hx, he⟩
theorem gen_disj (g : Gen H nodes sh first irq) : disjB H = true := decP_t fun i k a b hki ha hb => by
  have h7 := g.nm'
  have h8 := g.nd'
  have hm : ∀ (i : Nat) (x : MemT), H.Mems[i]? = some x → i < 4 ∧ (memBlk x).1 = (5 - i) * 16777216 ∧ (memBlk x).2 ≤ (5 - i) * 16777216 + 524288 ∧ (memBlk x).1 < (memBlk x).2 := fun i x hx => by
    obtain ⟨-, h2, ⟨e, e1, e2, h3⟩, -⟩ := g.me i x hx
    obtain ⟨p1, p2⟩ := pow_rng e1 e2
    have := (List.getElem?_eq_some_iff.1 hx).1
    unfold memBlk
    dsimp only
    rw [show IntKind.u64.wrap (x.Base + x.Size) = x.Base + x.Size from by simp [IntKind.wrap, IntKind.bits, IntKind.signed]; omega]
    omega
  have hd : ∀ (i : Nat) (x : DevT), H.Devs[i]? = some x → i < 4 ∧ (devBlk x).1 = 4294967296 + i * 65536 ∧ (devBlk x).2 ≤ 4294967296 + i * 65536 + 12288 ∧ (devBlk x).1 < (devBlk x).2 := fun i x hx => by
    obtain ⟨-, -, -, h2, t, t1, t2, h3⟩ := g.de i x hx
    have := (List.getElem?_eq_some_iff.1 hx).1
    unfold devBlk
    dsimp only
    rw [show IntKind.u64.wrap (x.Base + x.Size) = x.Base + x.Size from by simp [IntKind.wrap, IntKind.bits, IntKind.signed]; omega]
    omega
  have hr : ∀ (i : Nat) (a : Int × Int), (regs H)[i]? = some a → (∃ x, H.Mems[i]? = some x ∧ memBlk x = a) ∨ (∃ j x, i = H.Mems.length + j ∧ H.Devs[j]? = some x ∧ devBlk x = a) := fun i a ha => by
    unfold regs at ha
    rw [List.getElem?_append] at ha
    split at ha
    · exact .inl (map_get ha)
    · rename_i hlt
      obtain ⟨x, hx, he⟩ := map_get ha
      simp at hlt hx
      exact .inr ⟨i - H.Mems.length, x, by omega, hx, he⟩
  have key : ¬ (a.1 < b.2 ∧ b.1 < a.2) := by
    rcases hr i a ha with ⟨x, hx, rfl⟩ | ⟨j, x, hj, hx, rfl⟩ <;> rcases hr k b hb with ⟨y, hy, rfl⟩ | ⟨l, y, hl, hy, rfl⟩
    · have := hm i x hx; have := hm k y hy; omega
    · have := (List.getElem?_eq_some_iff.1 hx).1; omega
    · have := hd j x hx; have := hm k y hy; omega
    · have := hd j x hx; have := hd l y hy; omega
  unfold apartB
  simp only [Bool.not_eq_true', Bool.and_eq_false_iff, decide_eq_false_iff_not]
  omega
theorem reach_trans {ls : List LinkT} {a b c : Int} (h : Reach ls a b) (k : Reach ls b c) : Reach ls a c := by
  induction k with
  | refl => exact h
  | ab hl _ ih => exact .ab hl ih
  | ba hl _ ih => exact .ba hl ih
theorem reach_symm {ls : List LinkT} {a b : Int} (h : Reach ls a b) : Reach ls b a := by
  induction h with
  | refl => exact .refl
  | ab hl _ ih => exact reach_trans (.ba hl .refl) ih
  | ba hl _ ih => exact reach_trans (.ab hl .refl) ih
theorem gen_conn (g : Gen H nodes sh first irq) : connB H = true := by
  obtain ⟨-, P, h2, h3, h4, h5, h6⟩ := g.li
  have hnd := g.nd
  have r0 : ∀ i : Nat, i < nodes.toNat → Reach H.Links (nodeG sh 0) (nodeG sh i) := by
    intro i
    induction i using Nat.strongRecOn with
    | ind i ih =>
      intro hi
      by_cases e : i = 0
      · subst e; exact .refl
      · obtain ⟨j, hj⟩ := h6 i (by omega) hi
        have hji := (h4 _ hj).1
        dsimp at hji
        obtain ⟨n, hn, hp⟩ := mem_get hj
        obtain ⟨x, hx⟩ := get_lt (l := H.Links) (k := n) (by omega)
        have hl := h5 n x _ hx hp
        have hxm := List.mem_of_getElem? hx
        have hr := ih j hji (by omega)
        rcases hl.1 with ⟨a, b⟩ | ⟨a, b⟩
        · dsimp at a b; rw [← a]; rw [← b] at hr; exact .ba hxm hr
        · dsimp at a b; rw [← b]; rw [← a] at hr; exact .ab hxm hr
  have hu : ∀ n ∈ usedN H, IsNodeG nodes sh n := fun n hn => by
    unfold usedN at hn
    simp only [List.mem_append, List.mem_map] at hn
    rcases hn with (⟨x, hx, rfl⟩ | ⟨x, hx, rfl⟩) | ⟨x, hx, rfl⟩
    · obtain ⟨i, hi, he⟩ := mem_get hx; exact (g.co i x he).2.2.1
    · obtain ⟨i, hi, he⟩ := mem_get hx; exact (g.me i x he).2.2.2.1
    · obtain ⟨i, hi, he⟩ := mem_get hx; exact (g.de i x he).2.1
  have hr : ∀ n ∈ usedN H, Reach H.Links (nodeG sh 0) n := fun n hn => by
    obtain ⟨j, j0, j1, rfl⟩ := hu n hn
    have := r0 j.toNat (by omega)
    rwa [Int.toNat_of_nonneg j0] at this
  have hlen : 0 < (usedN H).length := by have := g.nc; simp [usedN]; omega
  obtain ⟨s0, hs0⟩ := get_lt (l := usedN H) (k := 0) hlen
  refine decP_t fun n hn => ?_
  rw [head_used hs0]
  exact reach_trans (reach_symm (hr s0 (List.mem_of_getElem? hs0))) (hr n hn)
end
end Go.Proofs.YteiijmclobggjaaGreat
end
/- Exchanging two edges of one sender leaves a tree valid, and completes a plan no earlier. -/
section
open Go Mk
namespace Go.Proofs.YteiijmclobggjaaGreat

/-! ### arrivals of a tree of two levels -/
section
variable {far : Int → Int → Int} {cost : Int} {r : Int} {es : List Pl}
end

/-! ### the plan -/
section
variable {H : HwT} {r : Int} {ms : List Int} {cost : Int}
theorem arrS_ok {es : List Pl} (h : treeErr H r es = 0) (hc : 0 ≤ cost ∧ cost ≤ 1000000) : arrS H r es cost = (arr0 (farI H) cost es, 0) := by
  unfold arrS arr0
  rw [if_pos h, if_neg (by omega)]
end
end Go.Proofs.YteiijmclobggjaaGreat
end
/- A call that changes one cell of a drawn region in a known way, and reads what is kept beside it. -/
section
open Go
namespace Mk
attribute [local irreducible] Calls
section
variable {P : Program} {n : Nat} {ops : List Oper} {Γ : Gho} {K : List Res} {wr tc stab : List (List Nat)} {Q : Fr → World → Prop} {i : Nat} {rest : List Oper} {ρ : Fr} {M : Nat → Fr → List Res}
variable {d : Option Tmp} {ty : TypeId} {pos : String} {es : Array Edge} {f : Nat} {args : List Operand} {tys : Array TypeId} {vs : List Value} {v : Value}
theorem mCallSK {c : Nat} {X : List Res} (X' : List Res) [FnOk P f] (hs : ∀ Y w, Wd Γ (X ++ (K ++ Y)) w → Calls P f vs.toArray w fun e w' => e = .returned v ∧ Wd Γ (X' ++ (K ++ Y)) w')
    (h : MSw (mV P n ops Γ K wr tc stab) Q (i + 1) rest ⟨putO ρ d v, setC M c fun _ => X'⟩) (hM : M c = fun _ => X := by first | exact setC_self | exact ml1 | exact ml2 | exact rfl) (hw0 : wr.getD i [] = [c] := by exact rfl) (ht : tc.getD i [] = [c] := by exact rfl) (ha : ∀ g, EvL (ovr stab.flatten g ρ) args vs := by intro g; exact byEV) :
    MSw (mV P n ops Γ K wr tc stab) Q i (⟨d, .call { callee := .value (.func f), args := args.toArray, argTypes := tys }, ty, pos, es, none⟩ :: rest) ⟨ρ, M⟩ :=
  mS (F := fun _ => X) (fun _ => X') (fun g w Y hw => s_call (ha g).eqA ((hs Y w hw).mono fun e w' ⟨h1, h2⟩ => ⟨v, h1, fun _ => rfl, h2⟩)) h hM hw0 ht rfl
variable {x y : Operand} {T : TypeId}
/-- An append of what is kept onto a slice of the cell. -/
theorem mAppK {c dd j E by' sz m cc m2 c3 : Nat} {zs : List Value} {a a2 : Option Addr} {rows rows2 : List (List Value)} {X : List Res} [TL P T E sz by' zs] (h : MSw (mV P n ops Γ K wr tc stab) Q (i + 1) rest ⟨putO ρ (some dd) undef, setC M c fun g => X.set j (.own (g dd) E sz (rows ++ rows2))⟩)
    (hrd : ∀ Y w, Wd Γ (K ++ Y) w → Rd w a2 sz rows2) (hl : m2 = rows2.length) (h1 : ∀ u ∈ rows2.flatten, u.oneCell' = true)
    (hx : ∀ g, ev (ovr stab.flatten g ρ) x = .slice a m cc := by intro g; exact rfl) (hy : ∀ g, ev (ovr stab.flatten g ρ) y = .slice a2 m2 c3 := by intro g; exact rfl) (ht : tc.getD i [] = [c] := by exact rfl) (hM : M c = (fun _ => X) := by exact rfl) (hj : X[j]? = some (.own (.slice a m cc) E sz rows) := by exact byIX)
    (hs : (stab.getD c []).contains dd = true := by exact rfl) (hfr : freeD stab (some dd) = true := by exact rfl) (hw0 : wr.getD i [] = [c] := by exact rfl)
    (hb : (m + m2) * by' ≤ 140737488355328 := by omega) (h63 : m + m2 ≤ 9223372036854775807 := by omega) :
    MSw (mV P n ops Γ K wr tc stab) Q i (⟨some dd, .call { callee := .builtin .append, args := #[x, y], argTypes := #[T, T] }, ty, pos, es, none⟩ :: rest) ⟨ρ, M⟩ := by
  refine mM (v := undef) _ (fun Y w g hw => ?_) h hw0 rfl
  rw [cells1 ht, hM] at hw
  have hjl : j < X.length := (List.getElem?_eq_some_iff.1 hj).1
  have hi1 : (K ++ (X ++ Y))[K.length + j]? = some (.own (.slice a m cc) E sz rows) := by
    rw [List.getElem?_append_right (Nat.le_add_right _ _), Nat.add_sub_cancel_left, List.getElem?_append_left hjl]; exact hj
  refine s_append hw (hx g) (hy g) hi1 (hrd _ _ hw) hl h1 hb h63 fun v' w' hw' => ⟨?_, fun hh => by rw [hfr] at hh; cases hh⟩
  rw [cells1 ht, setC_self]
  have h3 : ovr (stab.getD c []) (putO g (some dd) v') noFr dd = v' := by
    rw [ovr_in (by simpa using hs)]; exact upd_same _ _ _
  simp only [h3]
  rw [List.set_append_right _ _ (Nat.le_add_right _ _), Nat.add_sub_cancel_left, List.set_append_left _ _ hjl] at hw'
  exact hw'
end
/-- Permutations of lists that are built alike. -/
theorem perm_count {α : Type} {l l' : List α} (h : ∀ (_ : DecidableEq α) (a : α), l.count a = l'.count a) : l.Perm l' := by
  classical
  exact List.perm_iff_count.2 fun a => h _ a
theorem byPM {l l' : List Res} (h : ∀ (_ : DecidableEq Res) (a : Res), l.count a = l'.count a := by intro _ a; simp only [psL, pullL, List.getElem?_cons_zero, List.getElem?_cons_succ, List.eraseIdx_cons_succ, List.eraseIdx_cons_zero, List.cons_append, List.nil_append, List.count_append, List.count_cons, List.count_nil, List.map_cons, List.map_nil, Nat.add_zero, Nat.zero_add]; ac_rfl) : l.Perm l' := perm_count h
end Mk
end
/- The frame is set anew in the middle of a region. -/
section
open Go
namespace Mk
theorem L_has {P : Program} {n : Nat} {ops : Array Oper} {Q : Exit → Fr → World → Prop} {rest : List Oper} {ρ : Fr} {w : World} {l : List (Nat × Value)} (h : Has ρ l) (k : ∀ ρ', Has ρ' l → L P n ops Q rest ρ' w) : L P n ops Q rest ρ w := k ρ h
theorem val_b {v : Value} {a b : Bool} (h : v = .bool a) (hab : a = b) : v = .bool b := by rw [h, hab]
section
variable {P : Program} {n : Nat} {ops : List Oper} {Γ : Gho} {K : List Res} {Q : Fr → World → Prop} {ρ : Fr} {rest : List Oper} {wr tc stab : List (List Nat)} {i : Nat} {M : Nat → Fr → List Res}
variable {ty : TypeId} {pos : String} {es : Array Edge}
/-- What a cell says of one open slot is said of another, to which it is assigned. -/
theorem mAssG {c dx dd : Nat} (F : Value → List Res) (h : MSw (mV P n ops Γ K wr tc stab) Q (i + 1) rest ⟨putO ρ (some dd) undef, setC M c fun g => F (g dd)⟩)
    (ht : tc.getD i [] = [c] := by exact rfl) (hM : M c = (fun g => F (g dx)) := by first | exact setC_self | exact rfl)
    (hs : (stab.getD c []).contains dd = true := by exact rfl) (hsx : (stab.getD c []).contains dx = true := by exact rfl) (hfx : stab.flatten.contains dx = true := by exact rfl) (hfr : freeD stab (some dd) = true := by exact rfl) (hw0 : wr.getD i [] = [c] := by exact rfl) :
    MSw (mV P n ops Γ K wr tc stab) Q i (⟨some dd, .assign (.tmp dx), ty, pos, es, none⟩ :: rest) ⟨ρ, M⟩ := by
  refine mM (v := undef) _ (fun Y w g hw => ?_) h hw0 rfl
  rw [cells1 ht, hM] at hw
  have h2 : ovr (stab.getD c []) g noFr dx = g dx := ovr_in (by simpa using hsx)
  simp only [h2] at hw
  have hx : ev (ovr stab.flatten g ρ) (.tmp dx) = g dx := by
    show ovr stab.flatten g ρ dx = _
    rw [ovr_in (by simpa using hfx)]
  refine (y_assign (P := P) (w := w) hx).step ⟨?_, fun hh => by rw [hfr] at hh; cases hh⟩
  rw [cells1 ht, setC_self]
  have h3 : ovr (stab.getD c []) (putO g (some dd) (g dx)) noFr dd = g dx := by
    rw [ovr_in (by simpa using hs)]; exact upd_same _ _ _
  rw [h3]
  exact hw
end
section
variable {P : Program} {ρ : Fr} {w : World} {d : Option Tmp} {T U ty : TypeId} {pos : String} {es : Array Edge} {x y : Operand} {g : Option (Nat × Bool)}
theorem y_neqlb (hT : P.underlying T = some .bool) {a b : Bool} (hx : ev ρ x = .bool a) (hy : ev ρ y = .bool b) : Yields P ⟨d, .binOp .neq T x y U, ty, pos, es, g⟩ ρ w (.bool (!(a == b))) := by
  unfold Yields; simp [execOp, go_sem, hx, hy, hT]
end
end Mk
end
/- The reference's reached, NodeOf and Valid, walked. -/
section
open Go Mk
namespace Go.Proofs.YteiijmclobggjaaGreat
set_option maxHeartbeats 16000000
attribute [local irreducible] Calls
/-- The place of the first edge that reaches a core, or -1. -/
def reachN (es : List Pl) (c : Int) : Int := match es.findIdx? (fun e => decide (e.2 = c)) with | some k => k | none => -1
theorem reachN_some {es : List Pl} {c : Int} {k : Nat} {x : Pl} (hx : es[k]? = some x) (he : x.2 = c) (hl : ∀ (j : Nat) (y : Pl), j < k → es[j]? = some y → y.2 ≠ c) : reachN es c = k := by
  unfold reachN
  have hk := (List.getElem?_eq_some_iff.1 hx).1
  have h : es.findIdx? (fun e => decide (e.2 = c)) = some k := by
    rw [List.findIdx?_eq_some_iff_getElem]
    refine ⟨hk, ?_, fun j hj => ?_⟩
    · rw [(List.getElem?_eq_some_iff.1 hx).2]; simpa using he
    · have := hl j _ hj (List.getElem?_eq_getElem (by omega))
      simpa using this
  rw [h]
theorem reachN_none {es : List Pl} {c : Int} (hl : ∀ y ∈ es, y.2 ≠ c) : reachN es c = -1 := by
  unfold reachN
  have h : es.findIdx? (fun e => decide (e.2 = c)) = none := List.findIdx?_eq_none_iff.2 fun y hy => by simpa using hl y hy
  rw [h]
theorem reachN_cases (es : List Pl) (c : Int) : (reachN es c = -1 ∧ ∀ y ∈ es, y.2 ≠ c) ∨ ∃ (k : Nat) (x : Pl), reachN es c = k ∧ es[k]? = some x ∧ x.2 = c ∧ ∀ (j : Nat) (y : Pl), j < k → es[j]? = some y → y.2 ≠ c := by
  cases h : es.findIdx? (fun e => decide (e.2 = c)) with
  | none =>
    rw [List.findIdx?_eq_none_iff] at h
    left
    exact ⟨reachN_none fun y hy => by simpa using h y hy, fun y hy => by simpa using h y hy⟩
  | some k =>
    right
    obtain ⟨hk, hg, hj⟩ := List.findIdx?_eq_some_iff_getElem.1 h
    refine ⟨k, es[k], by unfold reachN; rw [h], List.getElem?_eq_getElem hk, by simpa using hg, fun j y hjk hy => ?_⟩
    obtain ⟨h1, h2⟩ := List.getElem?_eq_some_iff.1 hy
    have := hj j hjk
    rw [h2] at this
    simpa using this
instance pg_reached {Γ : Gho} {v : Value} {es : List Pl} [hr : SlC Γ v 2 (es.map plV)] (r c : Int) : PG Tryz.prog Γ 41 [.agg #[.int .i64 r, v], .int .i64 c] (.int .i64 (reachN es c)) := ⟨fun S w hw => by
  have hrs := hr.h
  obtain ⟨am, nm, cm, rfl, hnm, hnmc, hcm⟩ := hr.h.shape
  simp only [List.length_map] at hnm
  refine calls_of_W Tryz.func41 rfl rfl ?_
  repeat (first | refine byW ?_ | (refine byV ?_; intro w hw))
  refine lBox ?_
  intro b2 w hw
  have hw : Wd Γ (.blk b2 (.cells #[.int .i64 r, .slice am nm cm] 32) :: S) w := hw
  repeat (first | refine byW ?_ | (refine byV ?_; intro w hw))
  refine W_loop (fun μ ρ w => ∃ (k : Nat), μ + k = nm ∧ Has ρ [(1, .int .i64 c), (2, .pointer (some ⟨b2, 0, none⟩)), (5, .int .i64 k)] ∧ (∀ (j : Nat) (y : Pl), j < k → es[j]? = some y → y.2 ≠ c) ∧ Wd Γ (.blk b2 (.cells #[.int .i64 r, .slice am nm cm] 32) :: S) w) nm ⟨0, by omega, ⟨rfl, rfl, rfl, trivial⟩, fun j y h => by omega, hw⟩ ?_
  clear hw
  rintro μ ρ w ⟨k, hk, hρ, hall, hw⟩
  rw [hρ.eq]
  clear hρ
  repeat (first | refine byW ?_ | (refine byV ?_; intro w hw))
  refine W_cond rfl (fun h => ?_) (fun h => ?_)
  · have hkn : k < nm := by have := of_decide_eq_true h; omega
    clear h
    obtain ⟨x, hx⟩ := get_lt (l := es) (k := k) (by omega)
    repeat (first | refine byW ?_ | (refine byV ?_; intro w hw))
    refine W_cond rfl (fun h => ?_) (fun h => ?_)
    · rw [reachN_some hx (of_decide_eq_true h) hall]
      repeat (first | refine byW ?_ | (refine byV ?_; intro w hw))
      exact ⟨_, rfl, rfl, hw.drop⟩
    · have h : ¬ x.2 = c := of_decide_eq_false h
      repeat (first | refine byW ?_ | (refine byV ?_; intro w hw))
      refine ⟨μ - 1, by omega, k + 1, by omega, ⟨rfl, rfl, rfl, trivial⟩, fun j y hj hy => ?_, hw⟩
      by_cases e : j = k
      · subst e; rw [hx] at hy; cases hy; exact h
      · exact hall j y (by omega) hy
  · have hkn : ¬ k < nm := by have := of_decide_eq_false h; omega
    rw [reachN_none fun y hy => by
      obtain ⟨j, hj⟩ := List.getElem?_of_mem hy
      exact hall j y (by have := (List.getElem?_eq_some_iff.1 hj).1; omega) hj]
    repeat (first | refine byW ?_ | (refine byV ?_; intro w hw))
    exact ⟨_, rfl, rfl, hw.drop⟩⟩
theorem find_any (l : List CoreT) (id : Int) : (findC l id).2 = l.any fun x => decide (x.ID = id) := by
  rcases coreIx_cases l id with ⟨-, h2, h3⟩ | ⟨k, x, -, h2, h3, h4⟩
  · rw [h2]
    symm
    rw [List.any_eq_false]
    intro x hx; simpa using h3 x hx
  · rw [h4]
    symm
    exact List.any_eq_true.2 ⟨x, List.mem_of_getElem? h2, by simpa using h3⟩
theorem coreAt_lt {l : List CoreT} {id : Int} : decide (coreAt l id < 0) = !(findC l id).2 := by rw [coreAt_neg, find_any]
/-- NodeOf, for a core that is there. -/
theorem pg_NodeOf {Γ : Gho} {u : Value} {H : HwT} [hh : HwR Γ u H] {x : Int} (hx : (findC H.Cores x).2 = true) : PG Tryz.prog Γ 26 [u, .int .i64 x] (.int .i64 (coreN H x)) := ⟨fun S w hw => by
  have hh' := hh
  obtain ⟨a1, n1, c1, a2, n2, c2, a3, n3, c3, a4, n4, c4, a5, n5, c5, cs, rfl, hcs, hok, hsz, r1, r2, r3, r4, r5⟩ := hh.h
  obtain ⟨hn1, hm1, hx1⟩ := rep_facts r1
  simp only [List.length_map] at hn1
  obtain ⟨k, y, hk, hy, hyid, hf⟩ : ∃ (k : Nat) (y : CoreT), coreAt H.Cores x = k ∧ H.Cores[k]? = some y ∧ y.ID = x ∧ findC H.Cores x = (y, true) := by
    rcases coreIx_cases H.Cores x with ⟨-, h2, -⟩ | h
    · rw [h2] at hx; cases hx
    · exact h
  have hkl := (List.getElem?_eq_some_iff.1 hy).1
  have hcn : coreN H x = y.Node := by unfold coreN; rw [hf]
  rw [hcn]
  haveI pc : PG Tryz.prog Γ 36 [.agg #[.string H.Name, .slice a1 n1 c1, .slice a2 n2 c2, .slice a3 n3 c3, .slice a4 n4 c4, .slice a5 n5 c5], .int .i64 x] (.int .i64 (k : Nat)) := by
    have := pg_CoreAt (hh := hh') (id := x)
    rwa [hk] at this
  refine calls_of_W Tryz.func26 rfl rfl ?_
  repeat (first | refine byW ?_ | (refine byV ?_; intro w hw))
  refine lBox ?_
  intro b2 w hw
  have hw : Wd Γ (.blk b2 (hwC H a1 n1 c1 a2 n2 c2 a3 n3 c3 a4 n4 c4 a5 n5 c5) :: S) w := hw
  repeat (first | refine byW ?_ | (refine byV ?_; intro w hw))
  refine W_quiet (by kernel_rfl) (by kernel_rfl) hw ?_
  repeat (first | refine Q_nil ?_ | (apply Q_plain; first | (apply Q_go; first | refine qP ?_ | refine qPg ?_) | refine qY ?_) | (apply Q_guarded; first | (apply Q_go; first | refine qPG ?_ | refine qPgG ?_) | refine qG ?_))
  intro w hw
  repeat (first | refine byW ?_ | (refine byV ?_; intro w hw))
  exact ⟨_, rfl, rfl, hw.drop⟩⟩

/-! ### protocol -/
theorem change_point {f : Nat → Int} {x : Int} : ∀ (d a : Nat), f a = x → f (a + d) ≠ x → ∃ j, a ≤ j ∧ j + 1 ≤ a + d ∧ f j = x ∧ f (j + 1) ≠ x
  | 0, a, h, k => absurd h k
  | d + 1, a, h, k => by
    by_cases e : f (a + d) = x
    · exact ⟨a + d, by omega, by omega, e, k⟩
    · obtain ⟨j, h1, h2, h3, h4⟩ := change_point d a h e
      exact ⟨j, h1, by omega, h3, h4⟩
def fromAt (es : List Pl) (i : Nat) : Int := match es[i]? with | some e => e.1 | none => 0
theorem fromAt_get {es : List Pl} {i : Nat} {e : Pl} (h : es[i]? = some e) : fromAt es i = e.1 := by unfold fromAt; rw [h]
/-- An edge of this sender came, and behind it one of another. -/
theorem done_of {es : List Pl} {k i : Nat} {x : Int} (hi : i ≤ es.length) (hk : k < i) (h1 : fromAt es k = x) (h2 : fromAt es (i - 1) ≠ x) : DoneAt es i x := by
  obtain ⟨j, hj1, hj2, hj3, hj4⟩ := change_point (f := fromAt es) (i - 1 - k) k h1 (by rw [show k + (i - 1 - k) = i - 1 by omega]; exact h2)
  obtain ⟨a, ha⟩ := get_lt (l := es) (k := j) (by omega)
  obtain ⟨b, hb⟩ := get_lt (l := es) (k := j + 1) (by omega)
  rw [fromAt_get ha] at hj3
  rw [fromAt_get hb] at hj4
  exact ⟨j, a, b, by omega, ha, hb, fun e => hj4 (by rw [← e]; exact hj3), hj3⟩
theorem of_done {es : List Pl} {i : Nat} {e : Pl} (he : es[i]? = some e) (hp : ∀ (i' : Nat) (e' : Pl), i' < i → es[i']? = some e' → ¬ DoneAt es i' e'.1) (h : DoneAt es i e.1) : ∃ k, k < i ∧ fromAt es k = e.1 ∧ fromAt es (i - 1) ≠ e.1 := by
  obtain ⟨j, a, b, hj, ha, hb, hab, hae⟩ := h
  refine ⟨j, by omega, by rw [fromAt_get ha, hae], fun h2 => ?_⟩
  have hil := (List.getElem?_eq_some_iff.1 he).1
  have hji : j + 1 ≠ i := fun e2 => by
    rw [e2, he] at hb; cases hb
    exact hab hae
  obtain ⟨z, hz⟩ := get_lt (l := es) (k := i - 1) (by omega)
  rw [fromAt_get hz] at h2
  exact hp (i - 1) z (by omega) hz ⟨j, a, b, by omega, ha, hb, hab, by rw [hae, h2]⟩
theorem reach_take {es : List Pl} {c : Int} {i : Nat} : c ∈ (es.take i).map (·.2) ↔ 0 ≤ reachN es c ∧ reachN es c < (i : Int) := by
  constructor
  · intro h
    obtain ⟨e, he, hec⟩ := List.mem_map.1 h
    obtain ⟨j, hj⟩ := List.getElem?_of_mem he
    rw [List.getElem?_take] at hj
    split at hj
    · rename_i hji
      rcases reachN_cases es c with ⟨-, h3⟩ | ⟨k, x, h1, h2, h3, h4⟩
      · exact absurd hec (h3 e (List.mem_of_getElem? hj))
      · rw [h1]
        refine ⟨by omega, ?_⟩
        have : ¬ j < k := fun hlt => h4 j e hlt hj hec
        omega
    · cases hj
  · rintro ⟨h0, h1⟩
    rcases reachN_cases es c with ⟨h2, -⟩ | ⟨k, x, h2, h3, h4, -⟩
    · omega
    · refine List.mem_map.2 ⟨x, List.mem_of_getElem? (i := k) ?_, h4⟩
      rw [List.getElem?_take, if_pos (by omega)]; exact h3
theorem nodup_take1 {α : Type} {l : List α} {i : Nat} {x : α} (h : (l.take i).Nodup) (hx : l[i]? = some x) (hn : x ∉ l.take i) : (l.take (i + 1)).Nodup := by
  rw [take_succ_of hx, List.nodup_append]
  exact ⟨h, by simp, fun a ha b hb e => hn (by simp at hb; rw [← hb, ← e]; exact ha)⟩
set_option maxRecDepth 4000 in
instance pg_RValid {Γ : Gho} {u v : Value} {H : HwT} [hh : HwR Γ u H] [hwd : WideH H] {es : List Pl} [hr : SlC Γ v 2 (es.map plV)] [hsh : ShortL es] (r : Int) : PG Tryz.prog Γ 20 [u, .agg #[.int .i64 r, v]] (.int .i64 (treeErr H r es)) := ⟨fun S w hw => by
  have hh' := hh
  obtain ⟨a1, n1, c1, a2, n2, c2, a3, n3, c3, a4, n4, c4, a5, n5, c5, cs, rfl, -⟩ := hh.h
  have hrs := hr.h
  obtain ⟨am, nm, cm, rfl, hnm, hnmc, hcm⟩ := hr.h.shape
  simp only [List.length_map] at hnm
  have hms := hsh.h
  refine calls_of_W Tryz.func20 rfl rfl ?_
  repeat (first | refine byW ?_ | (refine byV ?_; intro w hw))
  refine lBox ?_
  intro b2 w hw
  refine lBox ?_
  intro b3 w hw
  have hw : Wd Γ (.blk b3 (.cells #[.int .i64 r, .slice am nm cm] 32) :: .blk b2 (hwC H a1 n1 c1 a2 n2 c2 a3 n3 c3 a4 n4 c4 a5 n5 c5) :: S) w := hw
  unfold treeErr
  repeat (first | refine byW ?_ | (refine byV ?_; intro w hw))
  refine W_cond rfl (fun h => ?_) (fun h => ?_)
  · have h : ¬ validS H = 0 := by simpa using h
    rw [if_neg h]
    repeat (first | refine byW ?_ | (refine byV ?_; intro w hw))
    exact ⟨_, rfl, rfl, hw.ds [0, 0]⟩
  have h : validS H = 0 := by simpa using h
  rw [if_pos h]
  clear h
  repeat (first | refine byW ?_ | (refine byV ?_; intro w hw))
  refine W_cond rfl (fun h => ?_) (fun h => ?_)
  · have h : decide (coreAt H.Cores r < 0) = true := h
    rw [coreAt_lt, Bool.not_eq_true'] at h
    rw [if_neg (by rw [h]; simp)]
    repeat (first | refine byW ?_ | (refine byV ?_; intro w hw))
    exact ⟨_, rfl, rfl, hw.ds [0, 0]⟩
  have hkr : (findC H.Cores r).2 = true := by
    have h : decide (coreAt H.Cores r < 0) = false := h
    rw [coreAt_lt, Bool.not_eq_false'] at h; exact h
  clear h
  repeat (first | refine byW ?_ | (refine byV ?_; intro w hw))
  refine W_loop (fun μ ρ w => ∃ (k : Nat), μ + k = nm ∧ Has ρ [(2, .pointer (some ⟨b2, 0, none⟩)), (3, .pointer (some ⟨b3, 0, none⟩)), (6, .int .i64 k)] ∧ (∀ (j : Nat) (e : Pl), j < k → es[j]? = some e → knownT H e = true) ∧ Wd Γ (.blk b3 (.cells #[.int .i64 r, .slice am nm cm] 32) :: .blk b2 (hwC H a1 n1 c1 a2 n2 c2 a3 n3 c3 a4 n4 c4 a5 n5 c5) :: S) w) nm ⟨0, by omega, ⟨rfl, rfl, rfl, trivial⟩, fun j e h => by omega, hw⟩ ?_
  clear hw
  rintro μ ρ w ⟨k, hk, hρ, hall, hw⟩
  rw [hρ.eq]
  clear hρ
  repeat (first | refine byW ?_ | (refine byV ?_; intro w hw))
  refine W_cond rfl (fun h => ?_) (fun h => ?_)
  · have hkn : k < nm := by have := of_decide_eq_true h; omega
    clear h
    obtain ⟨x, hx⟩ := get_lt (l := es) (k := k) (by omega)
    repeat (first | refine byW ?_ | (refine byV ?_; intro w hw))
    refine W_quiet (by kernel_rfl) (by kernel_rfl) hw ?_
    repeat (first | refine Q_nil ?_ | (apply Q_plain; first | (apply Q_go; first | refine qP ?_ | refine qPg ?_) | refine qY ?_) | (apply Q_guarded; first | (apply Q_go; first | refine qPG ?_ | refine qPgG ?_) | refine qG ?_))
    intro w hw
    refine W_cond rfl (fun h => ?_) (fun h => ?_)
    · have h : (decide (coreAt H.Cores x.1 < 0) || decide (coreAt H.Cores x.2 < 0)) = true := h
      rw [coreAt_lt, coreAt_lt] at h
      have hkf : knownT H x = false := by unfold knownT; revert h; cases (findC H.Cores x.1).2 <;> cases (findC H.Cores x.2).2 <;> simp
      have hf : ¬ (((findC H.Cores r).2 && es.all (knownT H)) = true) := fun hh => by
        rw [Bool.and_eq_true] at hh
        rw [List.all_eq_true.1 hh.2 x (List.mem_of_getElem? hx)] at hkf; cases hkf
      rw [if_neg hf]
      repeat (first | refine byW ?_ | (refine byV ?_; intro w hw))
      exact ⟨_, rfl, rfl, hw.ds [0, 0]⟩
    · have h : (decide (coreAt H.Cores x.1 < 0) || decide (coreAt H.Cores x.2 < 0)) = false := h
      rw [coreAt_lt, coreAt_lt] at h
      have hkt : knownT H x = true := by unfold knownT; revert h; cases (findC H.Cores x.1).2 <;> cases (findC H.Cores x.2).2 <;> simp
      repeat (first | refine byW ?_ | (refine byV ?_; intro w hw))
      refine ⟨μ - 1, by omega, k + 1, by omega, ⟨rfl, rfl, rfl, trivial⟩, fun j e hj he => ?_, hw⟩
      by_cases e1 : j = k
      · subst e1; rw [hx] at he; cases he; exact hkt
      · exact hall j e (by omega) he
  have hkn : ¬ k < nm := by have := of_decide_eq_false h; omega
  have hkall : ((findC H.Cores r).2 && es.all (knownT H)) = true := by
    rw [hkr, Bool.true_and, List.all_eq_true]
    intro e he
    obtain ⟨j, hj⟩ := List.getElem?_of_mem he
    exact hall j e (by have := (List.getElem?_eq_some_iff.1 hj).1; omega) hj
  rw [if_pos hkall]
  clear h hkn hk hall hkall
  repeat (first | refine byW ?_ | (refine byV ?_; intro w hw))
  refine W_loop (fun μ ρ w => ∃ (k : Nat), μ + k = nm ∧ Has ρ [(2, .pointer (some ⟨b2, 0, none⟩)), (3, .pointer (some ⟨b3, 0, none⟩)), (7, .int .i64 k)] ∧ ((es.map (·.2)).take k).Nodup ∧ r ∉ (es.map (·.2)).take k ∧ Wd Γ (.blk b3 (.cells #[.int .i64 r, .slice am nm cm] 32) :: .blk b2 (hwC H a1 n1 c1 a2 n2 c2 a3 n3 c3 a4 n4 c4 a5 n5 c5) :: S) w) nm ⟨0, by omega, ⟨rfl, rfl, rfl, trivial⟩, by simp, by simp, hw⟩ ?_
  clear hw
  rintro μ ρ w ⟨k, hk, hρ, hnd, hrn, hw⟩
  rw [hρ.eq]
  clear hρ
  repeat (first | refine byW ?_ | (refine byV ?_; intro w hw))
  refine W_cond rfl (fun h => ?_) (fun h => ?_)
  · have hkn : k < nm := by have := of_decide_eq_true h; omega
    clear h
    obtain ⟨x, hx⟩ := get_lt (l := es) (k := k) (by omega)
    have hx2 : (es.map (·.2))[k]? = some x.2 := by rw [List.getElem?_map, hx]; rfl
    have hrt : x.2 ∈ (es.map (·.2)).take k ↔ 0 ≤ reachN es x.2 ∧ reachN es x.2 < (k : Int) := by rw [← List.map_take]; exact reach_take
    have hr0 : 0 ≤ reachN es x.2 := by
      rcases reachN_cases es x.2 with ⟨-, h3⟩ | ⟨q, y, h1, -⟩
      · exact absurd rfl (h3 x (List.mem_of_getElem? hx))
      · omega
    repeat (first | refine byW ?_ | (refine byV ?_; intro w hw))
    refine W_quiet (by kernel_rfl) (by kernel_rfl) hw ?_
    repeat (first | refine Q_nil ?_ | (apply Q_plain; first | (apply Q_go; first | refine qP ?_ | refine qPg ?_) | refine qY ?_) | (apply Q_guarded; first | (apply Q_go; first | refine qPG ?_ | refine qPgG ?_) | refine qG ?_))
    intro w hw
    refine W_cond rfl (fun h => ?_) (fun h => ?_)
    · have h : (decide (x.2 = r) || decide (reachN es x.2 < (k : Int))) = true := h
      have hnn : ¬ (r :: es.map (·.2)).Nodup := fun hN => by
        rw [List.nodup_cons] at hN
        simp only [Bool.or_eq_true, decide_eq_true_eq] at h
        rcases h with h | h
        · exact hN.1 (by rw [← h]; exact List.mem_map_of_mem (List.mem_of_getElem? hx))
        · have h5 := hrt.2 ⟨hr0, h⟩
          obtain ⟨j, hj⟩ := List.getElem?_of_mem h5
          rw [List.getElem?_take] at hj
          split at hj
          · have := nodup_get hN.2 hj hx2
            omega
          · cases hj
      rw [if_neg (by rw [decP_f hnn]; simp)]
      repeat (first | refine byW ?_ | (refine byV ?_; intro w hw))
      exact ⟨_, rfl, rfl, hw.ds [0, 0]⟩
    · have h : (decide (x.2 = r) || decide (reachN es x.2 < (k : Int))) = false := h
      simp only [Bool.or_eq_false_iff, decide_eq_false_iff_not] at h
      have hnin : x.2 ∉ (es.map (·.2)).take k := fun hin => h.2 (hrt.1 hin).2
      repeat (first | refine byW ?_ | (refine byV ?_; intro w hw))
      refine ⟨μ - 1, by omega, k + 1, by omega, ⟨rfl, rfl, rfl, trivial⟩, nodup_take1 hnd hx2 hnin, fun hin => ?_, hw⟩
      rw [take_succ_of hx2] at hin
      rcases List.mem_append.1 hin with h5 | h5
      · exact hrn h5
      · exact h.1 (List.mem_singleton.1 h5).symm
  have hkn : ¬ k < nm := by have := of_decide_eq_false h; omega
  rw [List.take_of_length_le (by simp; omega)] at hnd hrn
  rw [if_pos (decP_t (List.nodup_cons.2 ⟨hrn, hnd⟩))]
  clear h hkn hk
  repeat (first | refine byW ?_ | (refine byV ?_; intro w hw))
  refine W_loop (fun μ ρ w => ∃ (i : Nat), μ + i = nm ∧ Has ρ [(2, .pointer (some ⟨b2, 0, none⟩)), (3, .pointer (some ⟨b3, 0, none⟩)), (8, .int .i64 i)] ∧ (∀ (j : Nat) (e : Pl), j < i → es[j]? = some e → e.1 ∈ r :: (es.take j).map (·.2) ∧ ¬ DoneAt es j e.1) ∧ Wd Γ (.blk b3 (.cells #[.int .i64 r, .slice am nm cm] 32) :: .blk b2 (hwC H a1 n1 c1 a2 n2 c2 a3 n3 c3 a4 n4 c4 a5 n5 c5) :: S) w) nm ⟨0, by omega, ⟨rfl, rfl, rfl, trivial⟩, fun j e h => by omega, hw⟩ ?_
  clear hw
  rintro μ ρ w ⟨i, hi, hρ, hall, hw⟩
  rw [hρ.eq]
  clear hρ
  repeat (first | refine byW ?_ | (refine byV ?_; intro w hw))
  refine W_cond rfl (fun h => ?_) (fun h => ?_)
  · have hin : i < nm := by have := of_decide_eq_true h; omega
    clear h
    obtain ⟨x, hx⟩ := get_lt (l := es) (k := i) (by omega)
    repeat (first | refine byW ?_ | (refine byV ?_; intro w hw))
    refine W_cond rfl (fun h => ?_) (fun h => ?_)
    · have h : (decide (x.1 ≠ r) && (decide (reachN es x.1 < 0) || decide (reachN es x.1 ≥ (i : Int)))) = true := h
      simp only [Bool.and_eq_true, Bool.or_eq_true, decide_eq_true_eq] at h
      have hnp : ¬ ProtoP r es := fun hP => by
        rcases List.mem_cons.1 (hP i x hx).1 with h5 | h5
        · exact h.1 h5
        · have := reach_take.1 h5; omega
      rw [if_neg (by rw [decP_f hnp]; simp)]
      repeat (first | refine byW ?_ | (refine byV ?_; intro w hw))
      exact ⟨_, rfl, rfl, hw.ds [0, 0]⟩
    have h : (decide (x.1 ≠ r) && (decide (reachN es x.1 < 0) || decide (reachN es x.1 ≥ (i : Int)))) = false := h
    have hst : x.1 ∈ r :: (es.take i).map (·.2) := by
      by_cases e : x.1 = r
      · rw [e]; simp
      · rw [decide_eq_true (show x.1 ≠ r from e), Bool.true_and] at h
        simp only [Bool.or_eq_false_iff, decide_eq_false_iff_not] at h
        exact List.mem_cons.2 (.inr (reach_take.2 (by omega)))
    clear h
    repeat (first | refine byW ?_ | (refine byV ?_; intro w hw))
    refine W_loop (fun μ2 ρ w => ∃ (k : Nat), μ2 + k = i ∧ Has ρ [(2, .pointer (some ⟨b2, 0, none⟩)), (3, .pointer (some ⟨b3, 0, none⟩)), (8, .int .i64 i), (9, .int .i64 x.1), (11, .int .i64 k)] ∧ (∀ j, j < k → ¬ (fromAt es j = x.1 ∧ fromAt es (i - 1) ≠ x.1)) ∧ Wd Γ (.blk b3 (.cells #[.int .i64 r, .slice am nm cm] 32) :: .blk b2 (hwC H a1 n1 c1 a2 n2 c2 a3 n3 c3 a4 n4 c4 a5 n5 c5) :: S) w) i ⟨0, by omega, ⟨rfl, rfl, rfl, rfl, rfl, trivial⟩, fun j h => by omega, hw⟩ ?_
    clear hw
    rintro μ2 ρ w ⟨k, hk, hρ, hall2, hw⟩
    rw [hρ.eq]
    clear hρ
    repeat (first | refine byW ?_ | (refine byV ?_; intro w hw))
    refine W_cond rfl (fun h => ?_) (fun h => ?_)
    · have hki : k < i := by have := of_decide_eq_true h; omega
      clear h
      obtain ⟨y, hy⟩ := get_lt (l := es) (k := k) (by omega)
      obtain ⟨z, hz⟩ := get_lt (l := es) (k := i - 1) (by omega)
      have hz' : es[((i : Int) - 1).toNat]? = some z := by rw [show ((i : Int) - 1).toNat = i - 1 by omega]; exact hz
      have f1 := fromAt_get hy
      have f2 := fromAt_get hz
      repeat (first | refine byW ?_ | (refine byV ?_; intro w hw))
      refine W_cond rfl (fun h => ?_) (fun h => ?_)
      · have h : (decide (y.1 = x.1) && decide (z.1 ≠ x.1)) = true := h
        simp only [Bool.and_eq_true, decide_eq_true_eq] at h
        have hnp : ¬ ProtoP r es := fun hP => (hP i x hx).2 (done_of (by omega) hki (f1.trans h.1) (by rw [f2]; exact h.2))
        rw [if_neg (by rw [decP_f hnp]; simp)]
        repeat (first | refine byW ?_ | (refine byV ?_; intro w hw))
        exact ⟨_, rfl, rfl, hw.ds [0, 0]⟩
      · have h : (decide (y.1 = x.1) && decide (z.1 ≠ x.1)) = false := h
        have h : ¬ (y.1 = x.1 ∧ z.1 ≠ x.1) := fun hh => by rw [decide_eq_true hh.1, decide_eq_true hh.2] at h; cases h
        repeat (first | refine byW ?_ | (refine byV ?_; intro w hw))
        refine ⟨μ2 - 1, by omega, k + 1, by omega, ⟨rfl, rfl, rfl, rfl, rfl, trivial⟩, fun j hj => ?_, hw⟩
        by_cases e : j = k
        · subst e; rw [f1, f2]; exact h
        · exact hall2 j (by omega)
    · have hki : ¬ k < i := by have := of_decide_eq_false h; omega
      repeat (first | refine byW ?_ | (refine byV ?_; intro w hw))
      refine ⟨μ - 1, by omega, i + 1, by omega, ⟨rfl, rfl, rfl, trivial⟩, fun j e hj he => ?_, hw⟩
      by_cases e1 : j = i
      · subst e1; rw [hx] at he; cases he
        refine ⟨hst, fun hD => ?_⟩
        obtain ⟨q, hq, h5, h6⟩ := of_done hx (fun i' e' hi' he' => (hall i' e' hi' he').2) hD
        exact hall2 q (by omega) ⟨h5, h6⟩
      · exact hall j e (by omega) he
  have hin : ¬ i < nm := by have := of_decide_eq_false h; omega
  have hP : ProtoP r es := fun j e he => hall j e (by have := (List.getElem?_eq_some_iff.1 he).1; omega) he
  rw [if_pos (decP_t hP)]
  repeat (first | refine byW ?_ | (refine byV ?_; intro w hw))
  exact ⟨_, rfl, rfl, hw.ds [0, 0]⟩⟩
end Go.Proofs.YteiijmclobggjaaGreat
end
/- Path, walked. -/
section
open Go Mk
namespace Go.Proofs.YteiijmclobggjaaGreat
set_option maxHeartbeats 8000000
attribute [local irreducible] Calls
def PathOut (H : HwT) (a b : Int) (p : List Int) (err : Int) : Prop :=
  (checkS H a b ≠ 0 ∧ p = [] ∧ err = checkS H a b) ∨
  (checkS H a b = 0 ∧ dstI (nbrL H.Links) b a < 0 ∧ p = [] ∧ err = 60) ∨
  (checkS H a b = 0 ∧ 0 ≤ dstI (nbrL H.Links) b a ∧ err = 0 ∧ ∃ l, p = a :: l ∧ PathP (nbrL H.Links) (dstI (nbrL H.Links) b) b a l)

theorem path_core {Γ : Gho} {u : Value} {H : HwT} [hh : HwR Γ u H] (a b : Int) {w : World} (hw : Wd Γ [] w) :
    Calls Tryz.prog 27 #[u, .int .i64 a, .int .i64 b] w fun e w' => ∃ Γ' v p err, Γ.le Γ' ∧ e = .returned (.tuple #[v, .int .i64 err]) ∧ PathOut H a b p err ∧ Wd Γ' [.own v 3 1 (intRows p)] w' := by
  have hh' := hh
  obtain ⟨a1, n1, c1, a2, n2, c2, a3, n3, c3, a4, n4, c4, a5, n5, c5, cs, rfl, -⟩ := hh.h
  refine calls_of_W Tryz.func27 rfl rfl ?_
  repeat (first | refine byW ?_ | (refine byV ?_; intro w hw))
  refine lBox ?_
  intro b1 w hw
  have hw : Wd Γ [.blk b1 (.cells #[.string H.Name, .slice a1 n1 c1, .slice a2 n2 c2, .slice a3 n3 c3, .slice a4 n4 c4, .slice a5 n5 c5] 28)] w := hw
  repeat (first | refine byW ?_ | (refine byV ?_; intro w hw))
  refine W_cond rfl (fun h => ?_) (fun h => ?_)
  · have h : ¬ checkS H a b = 0 := by simpa using h
    repeat (first | refine byW ?_ | (refine byV ?_; intro w hw))
    exact ⟨_, rfl, Γ, _, [], _, .refl _, rfl, .inl ⟨h, rfl, rfl⟩, Wd.addNil hw.drop⟩
  have h : checkS H a b = 0 := by simpa using h
  obtain ⟨hv, ha0, ha1, hb0, hb1⟩ := check_ok h
  have hL := valid_links hv
  have hn := nbr_ok hL ⟨hb0, hb1⟩
  repeat (first | refine byW ?_ | (refine byV ?_; intro w hw))
  refine lCall ((distances_any (H := H) hL ⟨hb0, hb1⟩ hw).mono fun e w hq => ?_)
  obtain ⟨v, O, rfl, hO, hd, hw⟩ := hq
  obtain ⟨ao, no, co, rfl, hno, hnc, -⟩ := hw.own_shape (i := 0) rfl
  simp only [intRows, List.length_map] at hno
  obtain ⟨y, hy⟩ := get_lt (l := O) (k := a.toNat) (by omega)
  have hget : ∀ {x y : Int}, 0 ≤ x → x < 64 → O[x.toNat]? = some y → dstI (nbrL H.Links) b x = y ∧ y ≤ 128001000000 := fun {x y} h0 h1 hy => by
    have e : oat O x = y := by unfold oat; rw [List.getD_eq_getElem?_getD, hy]; rfl
    have := hd x h0 h1
    rw [e] at this
    exact ⟨this.1.eq, this.2⟩
  have hdst : ∀ x, 0 ≤ x → x < 64 → Dst (nbrL H.Links) b x (dstI (nbrL H.Links) b x) := fun x h0 h1 => by
    have := (hd x h0 h1).1
    rw [this.eq]; exact this
  have hya := (hget ha0 ha1 hy).1
  refine ⟨_, rfl, ?_⟩
  repeat (first | refine byW ?_ | (refine byV ?_; intro w hw))
  refine W_cond rfl (fun h2 => ?_) (fun h2 => ?_)
  · have h2 : y < 0 := of_decide_eq_true h2
    repeat (first | refine byW ?_ | (refine byV ?_; intro w hw))
    exact ⟨_, rfl, Γ, _, [], _, .refl _, rfl, .inr (.inl ⟨h, by rw [hya]; exact h2, rfl, rfl⟩), Wd.addNil (hw.ds [0, 0])⟩
  have h2 : ¬ y < 0 := of_decide_eq_false h2
  repeat (first | refine byW ?_ | (refine byV ?_; intro w hw))
  refine lCall ((neighbours_any (H := H) hL.1 hw).mono fun e w hq => ?_)
  obtain ⟨bm, rfl, hA⟩ := hq
  clear hw
  obtain ⟨Γ1, l, hle, hrep, hw⟩ := adj_freeze hA
  refine ⟨_, rfl, ?_⟩
  repeat (first | refine byW ?_ | (refine byV ?_; intro w hw))
  refine lBuildSlice [[.int .i64 a]] ?_
  intro ap w hw
  have hw : Wd Γ1 [.own (.slice (some ap) 1 1) 3 1 (intRows [a]), adjM bm l, .own (.slice ao no co) 3 1 (intRows O), .blk b1 (.cells #[.string H.Name, .slice a1 n1 c1, .slice a2 n2 c2, .slice a3 n3 c3, .slice a4 n4 c4, .slice a5 n5 c5] 28)] w := hw
  repeat (first | refine byW ?_ | (refine byV ?_; intro w hw))
  refine W_loop (fun μ ρ w => ∃ (c : Int) (vp : Option Addr) (np cp : Nat) (P : List Int), μ = (dstI (nbrL H.Links) b c).toNat ∧ 0 ≤ c ∧ c < 64 ∧ 0 ≤ dstI (nbrL H.Links) b c ∧ P.length + μ ≤ y.toNat ∧ (∀ t, PathP (nbrL H.Links) (dstI (nbrL H.Links) b) b c t → PathP (nbrL H.Links) (dstI (nbrL H.Links) b) b a (P ++ t)) ∧ Has ρ [(2, .int .i64 b), (9, .slice ao no co), (10, .map (some bm)), (11, .slice vp np cp), (12, .int .i64 c)] ∧ Wd Γ1 [.own (.slice vp np cp) 3 1 (intRows (a :: P)), adjM bm l, .own (.slice ao no co) 3 1 (intRows O), .blk b1 (.cells #[.string H.Name, .slice a1 n1 c1, .slice a2 n2 c2, .slice a3 n3 c3, .slice a4 n4 c4, .slice a5 n5 c5] 28)] w) y.toNat ⟨a, some ap, 1, 1, [], by rw [hya], ha0, ha1, by rw [hya]; omega, by simp, fun t ht => ht, ⟨rfl, rfl, rfl, rfl, rfl, trivial⟩, hw⟩ ?_
  clear hw
  rintro μ ρ w ⟨c, vp, np, cp, P, hμ, hc0, hc1, hcl, hPl, hP, hρ, hw⟩
  have hyb := (hget ha0 ha1 hy).2
  have hpn := own_len (i := 0) hw rfl
  simp only [intRows, List.length_map, List.length_cons] at hpn
  rw [hρ.eq]
  clear hρ
  repeat (first | refine byW ?_ | (refine byV ?_; intro w hw))
  refine W_cond rfl (fun h3 => ?_) (fun h3 => ?_)
  · have h3 : c ≠ b := by simpa using h3
    obtain ⟨q, hq, hq1, hq2, hq3, hq4, hq5, hq6, hq7⟩ := next_ok hL ⟨hb0, hb1⟩ hdst ⟨hc0, hc1⟩ hcl h3
    obtain ⟨yc, hyc⟩ := get_lt (l := O) (k := c.toNat) (by omega)
    have hcc := (hget hc0 hc1 hyc).1
    obtain ⟨va, hva⟩ := zeroOr_some l c
    have hra := hrep c va hva
    obtain ⟨aa, na, ca, rfl, hna, hnca, hca⟩ := hra.shape
    simp only [List.length_map] at hna
    repeat (first | refine byW ?_ | (refine byV ?_; intro w hw))
    refine lY (v := .slice aa na ca) ?_ (hy := y_lookupZ hw hva (i := 1) rfl rfl rfl)
    repeat (first | refine byW ?_ | (refine byV ?_; intro w hw))
    refine W_loop (fun μ2 ρ w => ∃ (k : Nat), μ2 + k = na ∧ Has ρ [(2, .int .i64 b), (9, .slice ao no co), (10, .map (some bm)), (11, .slice vp np cp), (12, .int .i64 c), (13, .int .i64 (((nbrL H.Links c).take k).foldl (stepF (dstI (nbrL H.Links) b) c) (-1))), (41, .slice aa na ca), (42, .int .i64 na), (43, .int .i64 k)] ∧ Wd Γ1 [.own (.slice vp np cp) 3 1 (intRows (a :: P)), adjM bm l, .own (.slice ao no co) 3 1 (intRows O), .blk b1 (.cells #[.string H.Name, .slice a1 n1 c1, .slice a2 n2 c2, .slice a3 n3 c3, .slice a4 n4 c4, .slice a5 n5 c5] 28)] w) na ⟨0, by omega, ⟨rfl, rfl, rfl, rfl, rfl, rfl, rfl, rfl, rfl, trivial⟩, hw⟩ ?_
    clear hw
    rintro μ2 ρ w ⟨k, hk, hρ, hw⟩
    rw [hρ.eq]
    clear hρ
    repeat (first | refine byW ?_ | (refine byV ?_; intro w hw))
    refine W_cond rfl (fun h4 => ?_) (fun h4 => ?_)
    · have hkn : k < na := by have := of_decide_eq_true h4; omega
      clear h4
      obtain ⟨r, hr⟩ := get_lt (l := nbrL H.Links c) (k := k) (by omega)
      obtain ⟨r0, r1, r2, r3⟩ := hn.rng c r (List.mem_of_getElem? hr)
      obtain ⟨yr, hyr⟩ := get_lt (l := O) (k := r.1.toNat) (by omega)
      obtain ⟨hrr, hrb⟩ := hget r0 r1 hyr
      have hrn : -1 ≤ yr := by rw [← hrr]; rcases hdst r.1 r0 r1 with ⟨k0, -⟩ | ⟨k0, -⟩ <;> omega
      generalize hacc : ((nbrL H.Links c).take k).foldl (stepF (dstI (nbrL H.Links) b) c) (-1) = acc
      have hst : ((nbrL H.Links c).take (k + 1)).foldl (stepF (dstI (nbrL H.Links) b) c) (-1) = if r.2 + yr = yc ∧ (acc < 0 ∨ r.1 < acc) then r.1 else acc := by
        rw [take_succ_of hr, List.foldl_append, hacc, ← hrr, ← hcc]; rfl
      repeat (first | refine byW ?_ | (refine byV ?_; intro w hw))
      refine lAlloc ?_
      intro b15 w hw
      refine lStore ?_
      intro w hw
      have hw : Wd Γ1 [.blk b15 (.cells (plV r).toArray 109), .own (.slice vp np cp) 3 1 (intRows (a :: P)), adjM bm l, .own (.slice ao no co) 3 1 (intRows O), .blk b1 (.cells #[.string H.Name, .slice a1 n1 c1, .slice a2 n2 c2, .slice a3 n3 c3, .slice a4 n4 c4, .slice a5 n5 c5] 28)] w := hw
      repeat (first | refine byW ?_ | (refine byV ?_; intro w hw))
      refine W_quiet (by kernel_rfl) (by kernel_rfl) hw ?_
      repeat (first | refine Q_nil ?_ | (apply Q_plain; first | (apply Q_go; first | refine qP ?_ | refine qPg ?_) | refine qY ?_) | (apply Q_guarded; first | (apply Q_go; first | refine qPG ?_ | refine qPgG ?_) | refine qG ?_))
      intro w hw
      refine W_cond rfl (fun h5 => ?_) (fun h5 => ?_)
      · have h5 : (decide (r.2 + yr = yc) && (decide (acc < 0) || decide (r.1 < acc))) = true := h5
        rw [if_pos (by simpa using h5)] at hst
        repeat (first | refine byW ?_ | (refine byV ?_; intro w hw))
        exact ⟨μ2 - 1, by omega, k + 1, by omega, ⟨rfl, rfl, rfl, rfl, rfl, by rw [hst]; rfl, rfl, rfl, rfl, trivial⟩, hw.drop⟩
      · have h5 : (decide (r.2 + yr = yc) && (decide (acc < 0) || decide (r.1 < acc))) = false := h5
        rw [if_neg (fun hh => by have : (decide (r.2 + yr = yc) && (decide (acc < 0) || decide (r.1 < acc))) = true := by simpa using hh
                                 rw [h5] at this; cases this)] at hst
        repeat (first | refine byW ?_ | (refine byV ?_; intro w hw))
        exact ⟨μ2 - 1, by omega, k + 1, by omega, ⟨rfl, rfl, rfl, rfl, rfl, by rw [hst]; rfl, rfl, rfl, rfl, trivial⟩, hw.drop⟩
    · have hkn : ¬ k < na := by have := of_decide_eq_false h4; omega
      rw [List.take_of_length_le (by omega)]
      rw [show (nbrL H.Links c).foldl (stepF (dstI (nbrL H.Links) b) c) (-1) = q.1 from hq2]
      repeat (first | refine byW ?_ | (refine byV ?_; intro w hw))
      refine lBuildSlice [[.int .i64 q.1]] ?_
      intro ab w hw
      refine lApp (i := 1) (rows2 := [[.int .i64 q.1]]) ?_ (Wd.own_rd (i := 0) hw rfl)
      intro v' w hw
      obtain ⟨q', m', d', rfl, -, -, -⟩ := hw.own_shape (i := 1) rfl
      have hw : Wd Γ1 [.own (.slice q' m' d') 3 1 (intRows (a :: (P ++ [q.1]))), adjM bm l, .own (.slice ao no co) 3 1 (intRows O), .blk b1 (.cells #[.string H.Name, .slice a1 n1 c1, .slice a2 n2 c2, .slice a3 n3 c3, .slice a4 n4 c4, .slice a5 n5 c5] 28)] w := by
        have e : intRows (a :: (P ++ [q.1])) = intRows (a :: P) ++ [[.int .i64 q.1]] := by simp [intRows]
        rw [e]; exact hw.drop
      repeat (first | refine byW ?_ | (refine byV ?_; intro w hw))
      refine ⟨(dstI (nbrL H.Links) b q.1).toNat, by omega, q.1, q', m', d', P ++ [q.1], rfl, hq6, hq7, hq4, by simp; omega, fun t ht => ?_, ⟨rfl, rfl, rfl, rfl, rfl, trivial⟩, hw⟩
      rw [List.append_assoc]
      refine hP _ ?_
      rw [← hq2] at ht ⊢
      exact .cons h3 ht
  · have h3 : c = b := by simpa using h3
    subst h3
    repeat (first | refine byW ?_ | (refine byV ?_; intro w hw))
    refine ⟨_, rfl, Γ1, _, a :: P, 0, hle, rfl, .inr (.inr ⟨h, by rw [hya]; omega, rfl, P, rfl, ?_⟩), hw.ds [1, 1, 1]⟩
    have := hP [] .nil
    rwa [List.append_nil] at this

theorem Path_any {Γ : Gho} {u : Value} {H : HwT} [hh : HwR Γ u H] (a b : Int) {S : List Res} {w : World} (hw : Wd Γ S w) :
    Calls Tryz.prog 27 #[u, .int .i64 a, .int .i64 b] w fun e w' => ∃ v p err, e = .returned (.tuple #[v, .int .i64 err]) ∧ PathOut H a b p err ∧ Wd Γ (.own v 3 1 (intRows p) :: S) w' := by
  haveI : HwR (hpG Γ w) u H := hh.mono (hpG_le hw)
  refine (path_core (Γ := hpG Γ w) a b (hpG_wd hw)).mono fun e w' hq => ?_
  obtain ⟨Γ', v, p, err, hle, rfl, hp, hw'⟩ := hq
  exact ⟨v, p, err, rfl, hp, wd_keptG (R := [_]) hw hle own_noimm hw'⟩
end Go.Proofs.YteiijmclobggjaaGreat
end
/- The chapter's example: its distances, path, tree and completion. -/
section
open Go Mk
namespace Go.Proofs.YteiijmclobggjaaGreat

def awH : HwT := ⟨⟨#[109]⟩, [⟨0, 32, 0, 1⟩, ⟨1, 39, 2, 1⟩], [], [⟨0, 1, 5⟩, ⟨1, 2, 7⟩], [], []⟩
theorem aw_reach : Reach awH.Links 0 2 := .ab (l := ⟨1, 2, 7⟩) (by simp [awH]) (.ab (l := ⟨0, 1, 5⟩) (by simp [awH]) .refl)
theorem aw_valid : validS awH = 0 := by
  have h1 : namesB awH = true := by decide +kernel
  have h2 : countsB awH = true := by decide +kernel
  have h3 : (coresRB awH && regionsRB awH) = true := by decide +kernel
  have h4 : alignRB awH = true := by decide +kernel
  have h5 : uniqueB awH = true := by decide +kernel
  have h6 : knownB awH = true := by decide +kernel
  have h7 : hierB awH = true := decP_t ⟨fun c hc => (by cases hc), fun i k a b ha => (by cases ha)⟩
  have h8 : disjB awH = true := decP_t fun i k a b _ ha => by simp [awH, regs] at ha
  have h9 : connB awH = true := decP_t fun n hn => by
    have : n = 0 ∨ n = 2 := by simpa [awH, usedN] using hn
    rcases this with rfl | rfl
    · exact .refl
    · exact aw_reach
  simp [validS, h1, h2, h3, h4, h5, h6, h7, h8, h9]
theorem aw_sz : HwSz awH := by unfold HwSz maxS; decide
theorem aw_nb {x : Int} {q : Pl} (h : q ∈ nbrL awH.Links x) : (x = 0 ∧ q = (1, 5)) ∨ (x = 1 ∧ (q = (0, 5) ∨ q = (2, 7))) ∨ (x = 2 ∧ q = (1, 7)) := by
  simp only [nbrL, awH, List.flatMap_cons, List.flatMap_nil, List.append_nil, List.mem_append] at h
  rcases h with (h | h) | (h | h) <;> split at h <;> simp at h
  · left; exact ⟨by omega, h⟩
  · right; left; exact ⟨by omega, .inl h⟩
  · right; left; exact ⟨by omega, .inr h⟩
  · right; right; exact ⟨by omega, h⟩
def awPot (x : Int) : Int := if x = 1 then 5 else if x = 2 then 12 else 0
theorem aw_pot {x d : Int} (h : Way (nbrL awH.Links) 0 x d) : awPot x ≤ d := by
  induction h with
  | refl => decide
  | @step x d q _ hq ih =>
    rcases aw_nb hq with ⟨rfl, rfl⟩ | ⟨rfl, rfl | rfl⟩ | ⟨rfl, rfl⟩ <;> simp [awPot] at ih ⊢ <;> omega
theorem aw_pot2 {x d : Int} (h : Way (nbrL awH.Links) 2 x d) : 12 - awPot x ≤ d := by
  induction h with
  | refl => decide
  | @step x d q _ hq ih =>
    rcases aw_nb hq with ⟨rfl, rfl⟩ | ⟨rfl, rfl | rfl⟩ | ⟨rfl, rfl⟩ <;> simp [awPot] at ih ⊢ <;> omega
theorem aw_m01 : ((1, 5) : Pl) ∈ nbrL awH.Links 0 := by decide
theorem aw_m12 : ((2, 7) : Pl) ∈ nbrL awH.Links 1 := by decide
theorem aw_m21 : ((1, 7) : Pl) ∈ nbrL awH.Links 2 := by decide
theorem aw_m10 : ((0, 5) : Pl) ∈ nbrL awH.Links 1 := by decide
theorem aw_02 : dstI (nbrL awH.Links) 0 2 = 12 := Dst.eq (.inl ⟨by decide, (Way.step (q := (2, 7)) (Way.step (q := (1, 5)) .refl aw_m01) aw_m12 : Way _ 0 2 (0 + 5 + 7)), fun d' h => aw_pot h⟩)
theorem aw_20 : dstI (nbrL awH.Links) 2 0 = 12 := Dst.eq (.inl ⟨by decide, (Way.step (q := (0, 5)) (Way.step (q := (1, 7)) .refl aw_m21) aw_m10 : Way _ 2 0 (0 + 7 + 5)), fun d' h => aw_pot2 h⟩)
theorem aw_21 : dstI (nbrL awH.Links) 2 1 = 7 := Dst.eq (.inl ⟨by decide, (Way.step (q := (1, 7)) .refl aw_m21 : Way _ 2 1 (0 + 7)), fun d' h => aw_pot2 h⟩)
theorem aw_22 : dstI (nbrL awH.Links) 2 2 = 0 := Dst.eq (.inl ⟨by decide, .refl, fun d' h => aw_pot2 h⟩)
theorem aw_check {a b : Int} (ha : 0 ≤ a ∧ a < 64) (hb : 0 ≤ b ∧ b < 64) : checkS awH a b = 0 := by
  unfold checkS
  rw [if_pos aw_valid, if_neg (by omega)]
theorem aw_dist : distS awH 0 2 = (12, 0) := by
  unfold distS
  rw [if_pos (aw_check (by omega) (by omega)), aw_02, if_neg (by omega)]
theorem aw_next0 : nextF (nbrL awH.Links) (dstI (nbrL awH.Links) 2) 0 = 1 := by
  have : nbrL awH.Links 0 = [(1, 5)] := by decide
  unfold nextF
  rw [this]
  simp [stepF, aw_20, aw_21]
theorem aw_next1 : nextF (nbrL awH.Links) (dstI (nbrL awH.Links) 2) 1 = 2 := by
  have : nbrL awH.Links 1 = [(0, 5), (2, 7)] := by decide
  unfold nextF
  rw [this]
  simp [stepF, aw_20, aw_21, aw_22]
theorem aw_path {p : List Int} {err : Int} (h : PathOut awH 0 2 p err) : p = [0, 1, 2] ∧ err = 0 := by
  rcases h with ⟨h, -⟩ | ⟨-, h, -⟩ | ⟨-, -, he, l, rfl, hp⟩
  · exact absurd (aw_check (by omega) (by omega)) h
  · rw [aw_20] at h; omega
  · cases hp with
    | cons hne hp =>
      rw [aw_next0] at hp ⊢
      cases hp with
      | cons hne hp =>
        rw [aw_next1] at hp ⊢
        cases hp with
        | nil => exact ⟨rfl, he⟩
        | cons hne hp => exact absurd rfl hne
theorem aw_plan : PlanOk awH 0 [1] := ⟨aw_valid, by decide, by decide, by decide, by decide⟩
theorem aw_tree : planE awH 0 [1] 3 = [(0, 1)] := by
  have hl := planE_len (cost := 3) aw_plan
  have ht := planE_tos (cost := 3) aw_plan
  have hp := planE_proto (cost := 3) aw_plan
  match he : planE awH 0 [1] 3, hl with
  | [e], _ =>
    rw [he] at ht hp
    have h2 : e.2 = 1 := by simpa using ht.mem_iff (a := e.2)
    have h1 : e.1 = 0 := by simpa using (hp 0 e rfl).1
    rw [show e = (e.1, e.2) from rfl, h1, h2]
theorem aw_planS : planErr awH 0 [1] 3 = 0 ∧ planS awH 0 [1] 3 = (0, [(0, 1)]) := by
  have h := aw_plan.err (cost := 3) (by omega)
  refine ⟨h, ?_⟩
  unfold planS
  rw [if_pos h, aw_tree]
theorem aw_comp : compS awH 0 [(0, 1)] 3 = 15 ∧ (arrS awH 0 [(0, 1)] 3).2 = 0 := by
  have ht : treeErr awH 0 [(0, 1)] = 0 := by rw [← aw_tree]; exact planE_tree aw_plan
  have hf : farI awH 0 1 = 12 := aw_02
  have ha : arrS awH 0 [(0, 1)] 3 = ([15], 0) := by
    unfold arrS
    rw [if_pos ht, if_neg (by omega)]
    unfold arrF
    rw [hf]
    rfl
  unfold compS
  rw [ha]
  exact ⟨rfl, rfl⟩
end Go.Proofs.YteiijmclobggjaaGreat
end
/- height, walked. -/
section
open Go Mk
namespace Go.Proofs.YteiijmclobggjaaGreat
set_option maxHeartbeats 16000000
attribute [local irreducible] Calls
/-- The children, as slices that a map holds. -/
def chO (N : Int → List Int) (e : Int × Value) : Res := .own e.2 3 1 (intRows (N e.1))
abbrev plB (pb bb : Nat) (cost : Int) (bc : Nat) : Res := .blk pb (.cells #[.pointer (some ⟨bb, 0, none⟩), .int .i64 cost, .map (some bc)] 80)
theorem zeroOr_eq {l : List (Int × Value)} {a : Int} {v v' : Value} (h : zeroOr l a v) (h' : zeroOr l a v') : v = v' := by
  rcases h with h | ⟨h, rfl⟩ <;> rcases h' with h' | ⟨h', rfl⟩
  · rw [h] at h'; cases h'; rfl
  · rw [h] at h'; cases h'
  · rw [h] at h'; cases h'
  · rfl
theorem ch_open {Γ : Gho} {A S : List Res} {N : Int → List Int} {w : World} {l : List (Int × Value)} (a : Int) (hn : (l.map (·.1)).Nodup) (h0 : aGet l a = none → N a = []) (hw : Wd Γ (A ++ (l.map (chO N) ++ S)) w) :
    ∃ v, zeroOr l a v ∧ Wd Γ (.own v 3 1 (intRows (N a)) :: (A ++ ((restL l a).map (chO N) ++ S))) w := by
  cases hg : aGet l a with
  | some v =>
    exact ⟨v, .inl hg, hw.perm ((List.Perm.append_left A (((aGet_perm hn hg).map (chO N)).append_right S)).trans List.perm_middle)⟩
  | none =>
    refine ⟨.slice none 0 0, .inr ⟨hg, rfl⟩, ?_⟩
    have h1 := Wd.addNil (a := none) (E := 3) (sz := 1) hw
    rw [h0 hg, show restL l a = l from aGet_none_filter hg]
    exact h1
theorem ch_close {Γ : Gho} {A S : List Res} {N N' : Int → List Int} {w : World} {l : List (Int × Value)} {a : Int} {v : Value} (hn : (l.map (·.1)).Nodup) (hv : zeroOr l a v) (hN : ∀ x, x ≠ a → N' x = N x) (hw : Wd Γ (.own v 3 1 (intRows (N' a)) :: (A ++ ((restL l a).map (chO N) ++ S))) w) :
    Wd Γ (A ++ (l.map (chO N') ++ S)) w := by
  have hr : (restL l a).map (chO N) = (restL l a).map (chO N') := List.map_congr_left fun e he => by
    have := (List.mem_filter.1 he).2
    unfold chO
    rw [hN e.1 (by intro h; simp [h] at this)]
  rw [hr] at hw
  rcases hv with hg | ⟨hg, rfl⟩
  · exact hw.perm ((List.Perm.append_left A (((aGet_perm hn hg).map (chO N')).append_right S)).trans List.perm_middle).symm
  · rw [show restL l a = l from aGet_none_filter hg] at hw
    exact hw.drop
theorem ints_len {v : Value} {Γ : Gho} {S : List Res} {w : World} {E i : Nat} {xs : List Int} (hw : Wd Γ S w) (hi : S[i]? = some (.own v E 1 (intRows xs))) : ∃ a c, v = .slice a xs.length c ∧ xs.length ≤ c ∧ c ≤ 9223372036854775807 := by
  obtain ⟨a, n, c, rfl, hn, hnc, hc⟩ := hw.own_shape hi
  simp only [intRows, List.length_map] at hn
  subst hn
  exact ⟨a, c, rfl, hnc, hc⟩

theorem height_any {Γ : Gho} {H : HwT} {a1 : Option Addr} {n1 c1 : Nat} {a2 : Option Addr} {n2 c2 : Nat} {a3 : Option Addr} {n3 c3 : Nat} {a4 : Option Addr} {n4 c4 : Nat} {a5 : Option Addr} {n5 c5 : Nat} [hhw : HwR Γ (.agg #[.string H.Name, .slice a1 n1 c1, .slice a2 n2 c2, .slice a3 n3 c3, .slice a4 n4 c4, .slice a5 n5 c5]) H] (hv : validS H = 0) {cost : Int} (hc : 0 ≤ cost ∧ cost ≤ 1000000) {ch : Int → List Int} {pb bb bc : Nat} {l : List (Int × Value)} (hl : (l.map (·.1)).Nodup) (h0 : ∀ x, aGet l x = none → ch x = []) (hlen : ∀ x, (ch x).length ≤ 1000) :
    ∀ {k : Nat} {core : Int}, Dep ch k core → k ≤ 4 → (∀ a, Rch ch core a → (findC H.Cores a).2 = true) → ∀ {cur : Int → List Int} {S : List Res} {w : World}, (∀ x, Rch ch core x → (cur x).Perm (ch x)) →
    Wd Γ (plB pb bb cost bc :: btwP bb H a1 n1 c1 a2 n2 c2 a3 n3 c3 a4 n4 c4 a5 n5 c5 :: adjM bc l :: (l.map (chO cur) ++ S)) w →
    Calls Tryz.prog 35 #[.pointer (some ⟨pb, 0, none⟩), .int .i64 core] w fun e w' => e = .returned (.int .i64 (hh (farI H) cost ch core)) ∧ Wd Γ (plB pb bb cost bc :: btwP bb H a1 n1 c1 a2 n2 c2 a3 n3 c3 a4 n4 c4 a5 n5 c5 :: adjM bc l :: (l.map (chO (upS (farI H) cost ch (Rch ch core) cur)) ++ S)) w'
  | 0, _, hd, _, _ => hd.elim
  | k + 1, core, hd, hk, hkn => by
    intro hp hw
    rename_i cur S w
    have hd' : ∀ d ∈ ch core, Dep ch k d := hd
    have hpc := hp core (.refl core)
    have hLlen : (cur core).length ≤ 1000 := by rw [hpc.length_eq]; exact hlen core
    have hfar : ∀ a b, Rch ch core a → b ∈ ch a → 0 ≤ farI H a b ∧ farI H a b ≤ 63000000 := fun a b hr hb => far_le hv (hkn a hr) (hkn b (hr.trans (.step hb (.refl b))))
    have htlb : ∀ d ∈ ch core, 0 ≤ farI H core d ∧ farI H core d ≤ 63000000 ∧ 0 ≤ hh (farI H) cost ch d ∧ hh (farI H) cost ch d ≤ 4252000000 := fun d hdm => by
      have h1 := hfar core d (.refl core) hdm
      have h2 := hh_bound (far := farI H) hc (hd' d hdm) (by omega) (fun a b hr hb => hfar a b (.step hdm hr) hb) (fun a _ => hlen a)
      omega
    refine calls_of_W Tryz.func35 rfl rfl ?_
    repeat (first | refine byW ?_ | (refine byV ?_; intro w hw))
    refine L_step rfl rfl (s_makeMap (K := 3) (α := Int) (f := fun n : Int => Value.int .i64 n) hw fun bt w hw => ?_)
    repeat (first | refine byW ?_ | (refine byV ?_; intro w hw))
    refine lAlloc ?_
    intro b5 w hw
    refine lStore ?_
    intro w hw
    have hw : Wd Γ ([.blk b5 (.cells #[.map (some bt)] 92), Res.mpT Tryz.prog 3 (fun n : Int => Value.int .i64 n) bt ([] : List (Int × Int)), plB pb bb cost bc, btwP bb H a1 n1 c1 a2 n2 c2 a3 n3 c3 a4 n4 c4 a5 n5 c5, adjM bc l] ++ (l.map (chO cur) ++ S)) w := hw
    have hnone : aGet l core = none → cur core = [] := fun hg => by
      have := hpc; rw [h0 core hg] at this; exact this.eq_nil
    obtain ⟨vv, hz, hwo⟩ := ch_open core hl hnone hw
    obtain ⟨a, c, rfl, hnc, hcc⟩ := ints_len hwo (i := 0) rfl
    clear hwo
    generalize hn : (cur core).length = n at *
    repeat (first | refine byW ?_ | (refine byV ?_; intro w hw))
    refine lY (v := .slice a n c) ?_ (hy := y_lookupZ hw hz (i := 4) rfl rfl rfl)
    repeat (first | refine byW ?_ | (refine byV ?_; intro w hw))
    have hstart : upS (farI H) cost ch (fun x => ∃ d ∈ (cur core).take 0, Rch ch d x) cur = cur := by
      funext x; exact upS_out (fun ⟨d, hd, _⟩ => by simp at hd)
    refine W_loop (fun μ ρ w => ∃ (i : Nat) (lt : List (Int × Int)) (tf : Int → Int), μ + i = n ∧ MapF lt tf ∧ (∀ d ∈ (cur core).take i, tf d = tl (farI H) cost ch core d) ∧ Has ρ [(0, .pointer (some ⟨pb, 0, none⟩)), (1, .int .i64 core), (5, .pointer (some ⟨b5, 0, none⟩)), (17, .slice a n c), (18, .int .i64 n), (19, .int .i64 i)] ∧ Wd Γ ([.blk b5 (.cells #[.map (some bt)] 92), Res.mpT Tryz.prog 3 (fun n : Int => Value.int .i64 n) bt lt, plB pb bb cost bc, btwP bb H a1 n1 c1 a2 n2 c2 a3 n3 c3 a4 n4 c4 a5 n5 c5, adjM bc l] ++ (l.map (chO (upS (farI H) cost ch (fun x => ∃ d ∈ (cur core).take i, Rch ch d x) cur)) ++ S)) w) n ⟨0, [], fun _ => 0, by omega, fun _ => rfl, fun d hd => by simp at hd, ⟨rfl, rfl, rfl, rfl, rfl, rfl, trivial⟩, by rw [hstart]; exact hw⟩ ?_
    clear hw
    rintro μ ρ w ⟨i, lt, tf, hi, hmf, htf, hρ, hw⟩
    rw [hρ.eq]
    clear hρ
    have hDcore : ∀ j, ¬ ∃ d ∈ (cur core).take j, Rch ch d core := fun j ⟨d, hdm, hr⟩ => no_cycle (hpc.mem_iff.1 (List.mem_of_mem_take hdm)) hr hd
    repeat (first | refine byW ?_ | (refine byV ?_; intro w hw))
    refine W_cond rfl (fun h => ?_) (fun h => ?_)
    · have hin : i < n := by have := of_decide_eq_true h; omega
      obtain ⟨x, hx⟩ := get_lt (l := cur core) (k := i) (by omega)
      have hxm : x ∈ ch core := hpc.mem_iff.1 (List.mem_of_getElem? hx)
      obtain ⟨v2, hz2, hw⟩ := ch_open core hl (fun hg => by rw [upS_out (hDcore i)]; exact hnone hg) hw
      have := zeroOr_eq hz hz2
      subst this
      rw [upS_out (hDcore i)] at hw
      have hw : Wd Γ (.own (.slice a n c) 3 1 (intRows (cur core)) :: .blk b5 (.cells #[.map (some bt)] 92) :: Res.mpT Tryz.prog 3 (fun n : Int => Value.int .i64 n) bt lt :: plB pb bb cost bc :: btwP bb H a1 n1 c1 a2 n2 c2 a3 n3 c3 a4 n4 c4 a5 n5 c5 :: adjM bc l :: ((restL l core).map (chO (upS (farI H) cost ch (fun x => ∃ d ∈ (cur core).take i, Rch ch d x) cur)) ++ S)) w := hw
      repeat (first | refine byW ?_ | (refine byV ?_; intro w hw))
      have hw := ch_close (A := [.blk b5 (.cells #[.map (some bt)] 92), Res.mpT Tryz.prog 3 (fun n : Int => Value.int .i64 n) bt lt, plB pb bb cost bc, btwP bb H a1 n1 c1 a2 n2 c2 a3 n3 c3 a4 n4 c4 a5 n5 c5, adjM bc l]) (N' := upS (farI H) cost ch (fun x => ∃ d ∈ (cur core).take i, Rch ch d x) cur) hl hz (fun _ _ => rfl) (by rw [upS_out (hDcore i)]; exact hw)
      generalize hcur : upS (farI H) cost ch (fun x => ∃ d ∈ (cur core).take i, Rch ch d x) cur = cur2 at hw
      have hw : Wd Γ ([.blk b5 (.cells #[.map (some bt)] 92), plB pb bb cost bc] ++ ((btwP bb H a1 n1 c1 a2 n2 c2 a3 n3 c3 a4 n4 c4 a5 n5 c5 :: adjM bc l :: l.map (chO cur2)) ++ ([Res.mpT Tryz.prog 3 (fun n : Int => Value.int .i64 n) bt lt] ++ (S ++ [])))) w := hw.perm byPM
      have hb := htlb x hxm
      have hdx := hd' x hxm
      have hcx1 := coreN_rng hv (hkn core (.refl core))
      have hcx2 := coreN_rng hv (hkn x (.step hxm (.refl x)))
      refine W_mixed [.blk b5 (.cells #[.map (some bt)] 92), plB pb bb cost bc] [fun _ => btwP bb H a1 n1 c1 a2 n2 c2 a3 n3 c3 a4 n4 c4 a5 n5 c5 :: adjM bc l :: l.map (chO cur2), fun _ => [Res.mpT Tryz.prog 3 (fun n : Int => Value.int .i64 n) bt lt], fun _ => S] [[],[],[],[],[],[],[],[],[0],[],[],[0],[],[1]] [[],[],[],[],[],[],[],[],[0],[],[],[0],[],[1]] [[], [], []] (by exact hw) ?_
      repeat (first | refine mY ?_ | refine mP ?_ | refine mPg ?_)
      refine mCallSK (c := 0) (X := btwP bb H a1 n1 c1 a2 n2 c2 a3 n3 c3 a4 n4 c4 a5 n5 c5 :: adjM bc l :: l.map (chO cur2)) (btwP bb H a1 n1 c1 a2 n2 c2 a3 n3 c3 a4 n4 c4 a5 n5 c5 :: adjM bc l :: l.map (chO cur2)) (vs := [.pointer (some ⟨bb, 0, none⟩), .int .i64 core, .int .i64 x]) (v := .int .i64 (farI H core x)) (fun R w hw => coresP_any (valid_links hv) hcx1 hcx2 hw) ?_
      repeat (first | refine mY ?_ | refine mP ?_ | refine mPg ?_)
      refine mCallSK (c := 0) (X := btwP bb H a1 n1 c1 a2 n2 c2 a3 n3 c3 a4 n4 c4 a5 n5 c5 :: adjM bc l :: l.map (chO cur2)) (btwP bb H a1 n1 c1 a2 n2 c2 a3 n3 c3 a4 n4 c4 a5 n5 c5 :: adjM bc l :: l.map (chO (upS (farI H) cost ch (Rch ch x) cur2))) (vs := [.pointer (some ⟨pb, 0, none⟩), .int .i64 x]) (v := .int .i64 (hh (farI H) cost ch x)) (fun R w hw => ?_) ?_
      · refine (height_any (core := x) hv hc hl h0 hlen hdx (by omega) (fun a hr => hkn a (.step hxm hr)) (cur := cur2) (S := .blk b5 (.cells #[.map (some bt)] 92) :: R) (fun y hr => by rw [← hcur]; exact upS_perm (hp y (.step hxm hr))) (hw.perm byPM)).mono ?_
        rintro e w' ⟨h1, h2⟩
        exact ⟨h1, h2.perm byPM⟩
      repeat (first | refine mY ?_ | refine mP ?_ | refine mPg ?_)
      refine mM (v := undef) (fun _ => [Res.mpT Tryz.prog 3 (fun n : Int => Value.int .i64 n) bt (aSet lt x (farI H core x + hh (farI H) cost ch x))]) (fun Y w g hw => by
        rw [cells1 (c := 1) rfl] at hw
        refine s_mapUpdate (P := Tryz.prog) (K := 3) (α := Int) (f := fun n : Int => Value.int .i64 n) (i := 2) (v := farI H core x + hh (farI H) cost ch x) (a := x) hw rfl rfl rfl rfl fun w hw => ⟨?_, fun _ => rfl⟩
        rw [cells1 (c := 1) rfl, setC_self]
        exact hw) ?_ rfl rfl
      refine mEnd fun w g hw => ?_
      have hmf' := mapF_set hmf x (farI H core x + hh (farI H) cost ch x)
      have hw : Wd Γ ([.blk b5 (.cells #[.map (some bt)] 92), plB pb bb cost bc] ++ ((btwP bb H a1 n1 c1 a2 n2 c2 a3 n3 c3 a4 n4 c4 a5 n5 c5 :: adjM bc l :: l.map (chO (upS (farI H) cost ch (Rch ch x) cur2))) ++ ([Res.mpT Tryz.prog 3 (fun n : Int => Value.int .i64 n) bt (aSet lt x (farI H core x + hh (farI H) cost ch x))] ++ (S ++ [])))) w := hw
      have hcur3 : upS (farI H) cost ch (Rch ch x) cur2 = upS (farI H) cost ch (fun y => ∃ d ∈ (cur core).take (i + 1), Rch ch d y) cur := by
        rw [← hcur, upS_upS]
        refine upS_congr fun y => ?_
        rw [take_succ_of hx]
        simp only [List.mem_append, List.mem_singleton]
        constructor
        · rintro (⟨d, h1, h2⟩ | h1)
          · exact ⟨d, .inl h1, h2⟩
          · exact ⟨x, .inr rfl, h1⟩
        · rintro ⟨d, h1 | rfl, h2⟩
          · exact .inl ⟨d, h1, h2⟩
          · exact .inr h2
      rw [hcur3] at hw
      have hw : Wd Γ ([.blk b5 (.cells #[.map (some bt)] 92), Res.mpT Tryz.prog 3 (fun n : Int => Value.int .i64 n) bt (aSet lt x (farI H core x + hh (farI H) cost ch x)), plB pb bb cost bc, btwP bb H a1 n1 c1 a2 n2 c2 a3 n3 c3 a4 n4 c4 a5 n5 c5, adjM bc l] ++ (l.map (chO (upS (farI H) cost ch (fun y => ∃ d ∈ (cur core).take (i + 1), Rch ch d y) cur)) ++ S)) w := hw.perm byPM
      repeat (first | refine byW ?_ | (refine byV ?_; intro w hw))
      refine ⟨μ - 1, by omega, i + 1, _, _, by omega, hmf', fun d hdm => ?_, ⟨rfl, rfl, rfl, rfl, rfl, rfl, trivial⟩, hw⟩
      unfold updI
      by_cases e : x = d
      · rw [if_pos e, ← e]; rfl
      · rw [if_neg e]
        rw [take_succ_of hx] at hdm
        rcases List.mem_append.1 hdm with h1 | h1
        · exact htf d h1
        · exact absurd (List.mem_singleton.1 h1).symm e
    · have hin : ¬ i < n := by have := of_decide_eq_false h; omega
      rw [List.take_of_length_le (by omega)] at htf hw
      have hDc : ¬ ∃ d ∈ cur core, Rch ch d core := by have := hDcore n; rwa [List.take_of_length_le (by omega)] at this
      generalize hcur : upS (farI H) cost ch (fun x => ∃ d ∈ cur core, Rch ch d x) cur = cur2 at hw
      have hc2 : cur2 core = cur core := by rw [← hcur]; exact upS_out hDc
      obtain ⟨v2, hz2, hw⟩ := ch_open core hl (fun hg => by rw [hc2]; exact hnone hg) hw
      have := zeroOr_eq hz hz2
      subst this
      rw [hc2] at hw
      have hw : Wd Γ (.own (.slice a n c) 3 1 (intRows (cur core)) :: .blk b5 (.cells #[.map (some bt)] 92) :: Res.mpT Tryz.prog 3 (fun n : Int => Value.int .i64 n) bt lt :: plB pb bb cost bc :: btwP bb H a1 n1 c1 a2 n2 c2 a3 n3 c3 a4 n4 c4 a5 n5 c5 :: adjM bc l :: ((restL l core).map (chO cur2) ++ S)) w := hw
      have hsrt : tsort tf (cur core) = srt (farI H) cost ch core := (tsort_congr htf).trans (tsort_of_perm hpc)
      have hslen : (srt (farI H) cost ch core).length = n := by rw [(srt_perm core).length_eq, ← hpc.length_eq, hn]
      repeat (first | refine byW ?_ | (refine byV ?_; intro w hw))
      refine lY (v := .slice a n c) ?_ (hy := y_lookupZ hw hz (i := 5) rfl rfl rfl)
      repeat (first | refine byW ?_ | (refine byV ?_; intro w hw))
      refine lCall ((sortH_any (j := 0) (i := 1) hw rfl rfl hmf (by omega)).mono fun e w hq => ?_)
      obtain ⟨rfl, hw⟩ := hq
      rw [hsrt] at hw
      refine ⟨_, rfl, ?_⟩
      repeat (first | refine byW ?_ | (refine byV ?_; intro w hw))
      refine lY (v := .slice a n c) ?_ (hy := y_lookupZ hw hz (i := 5) rfl rfl rfl)
      repeat (first | refine byW ?_ | (refine byV ?_; intro w hw))
      rw [hh_eq hd hk]
      refine W_loop (fun μ ρ w => ∃ (i : Nat) (m : Int), μ + i = n ∧ hmostF cost (tl (farI H) cost ch core) i m ((srt (farI H) cost ch core).drop i) = hmostF cost (tl (farI H) cost ch core) 0 0 (srt (farI H) cost ch core) ∧ Has ρ [(0, .pointer (some ⟨pb, 0, none⟩)), (1, .int .i64 core), (5, .pointer (some ⟨b5, 0, none⟩)), (8, .int .i64 m), (50, .slice a n c), (51, .int .i64 n), (52, .int .i64 i)] ∧ Wd Γ (.own (.slice a n c) 3 1 (intRows (srt (farI H) cost ch core)) :: .blk b5 (.cells #[.map (some bt)] 92) :: Res.mpT Tryz.prog 3 (fun n : Int => Value.int .i64 n) bt lt :: plB pb bb cost bc :: btwP bb H a1 n1 c1 a2 n2 c2 a3 n3 c3 a4 n4 c4 a5 n5 c5 :: adjM bc l :: ((restL l core).map (chO cur2) ++ S)) w) n ⟨0, 0, by omega, rfl, ⟨rfl, rfl, rfl, rfl, rfl, rfl, rfl, trivial⟩, hw⟩ ?_
      clear hw
      rintro μ ρ w ⟨i, m, hi, hF, hρ, hw⟩
      rw [hρ.eq]
      clear hρ
      repeat (first | refine byW ?_ | (refine byV ?_; intro w hw))
      refine W_cond rfl (fun h => ?_) (fun h => ?_)
      · have hin : i < n := by have := of_decide_eq_true h; omega
        obtain ⟨x, hx⟩ := get_lt (l := srt (farI H) cost ch core) (k := i) (by omega)
        have hxm : x ∈ ch core := (srt_perm core).mem_iff.1 (List.mem_of_getElem? hx)
        have htx : tf x = tl (farI H) cost ch core x := htf x (hpc.mem_iff.2 hxm)
        have hb := htlb x hxm
        have htb : 0 ≤ tf x ∧ tf x ≤ 4315000000 := by rw [htx]; unfold tl; omega
        have hmul : 0 ≤ ((i : Int) + 1) * cost ∧ ((i : Int) + 1) * cost ≤ 1000000000 := ⟨Int.mul_nonneg (by omega) hc.1, Int.le_trans (Int.mul_le_mul (b := cost) (d := 1000000) (show (i : Int) + 1 ≤ 1000 by omega) hc.2 hc.1 (by omega)) (by omega)⟩
        have hdr : (srt (farI H) cost ch core).drop i = x :: (srt (farI H) cost ch core).drop (i + 1) := by
          obtain ⟨q1, q2⟩ := List.getElem?_eq_some_iff.1 hx
          rw [List.drop_eq_getElem_cons q1, q2]
        rw [hdr] at hF
        have hF : hmostF cost (tl (farI H) cost ch core) (i + 1) (max m (((i : Int) + 1) * cost + tf x)) ((srt (farI H) cost ch core).drop (i + 1)) = hmostF cost (tl (farI H) cost ch core) 0 0 (srt (farI H) cost ch core) := by rw [htx]; exact hF
        rw [max_if] at hF
        repeat (first | refine byW ?_ | (refine byV ?_; intro w hw))
        refine W_quiet (by kernel_rfl) (by kernel_rfl) hw ?_
        repeat (first | refine Q_nil ?_ | (apply Q_plain; first | (apply Q_go; first | refine qP ?_ | refine qPg ?_) | refine qY ?_) | (apply Q_guarded; first | (apply Q_go; first | refine qPG ?_ | refine qPgG ?_) | refine qG ?_))
        refine qY (v := .int .i64 (tf x)) ?_ (hy := fun w hw => y_lookupF hw hmf (i := 2) rfl rfl rfl)
        repeat (first | refine Q_nil ?_ | (apply Q_plain; first | (apply Q_go; first | refine qP ?_ | refine qPg ?_) | refine qY ?_) | (apply Q_guarded; first | (apply Q_go; first | refine qPG ?_ | refine qPgG ?_) | refine qG ?_))
        intro w hw
        repeat (first | refine byW ?_ | (refine byV ?_; intro w hw))
        exact ⟨μ - 1, by omega, i + 1, _, by omega, hF, ⟨rfl, rfl, rfl, rfl, rfl, rfl, rfl, trivial⟩, hw⟩
      · have hin : ¬ i < n := by have := of_decide_eq_false h; omega
        rw [List.drop_eq_nil_of_le (by omega)] at hF
        have hF : m = hmostF cost (tl (farI H) cost ch core) 0 0 (srt (farI H) cost ch core) := hF
        have hN : ∀ x, x ≠ core → upS (farI H) cost ch (Rch ch core) cur x = cur2 x := fun x hx => by
          rw [← hcur]
          by_cases hr : Rch ch core x
          · have : ∃ d ∈ cur core, Rch ch d x := by
              cases hr with
              | refl => exact absurd rfl hx
              | step hdm hr => exact ⟨_, hpc.mem_iff.2 hdm, hr⟩
            rw [upS_in hr, upS_in this]
          · rw [upS_out hr, upS_out]
            rintro ⟨d, h1, h2⟩
            exact hr (.step (hpc.mem_iff.1 h1) h2)
        have hw := ch_close (A := [.blk b5 (.cells #[.map (some bt)] 92), Res.mpT Tryz.prog 3 (fun n : Int => Value.int .i64 n) bt lt, plB pb bb cost bc, btwP bb H a1 n1 c1 a2 n2 c2 a3 n3 c3 a4 n4 c4 a5 n5 c5, adjM bc l]) (N' := upS (farI H) cost ch (Rch ch core) cur) hl hz hN (by rw [upS_in (.refl core)]; exact hw)
        have hw := hw.drop.drop
        repeat (first | refine byW ?_ | (refine byV ?_; intro w hw))
        exact ⟨_, rfl, (by rw [← hF]; rfl), hw⟩
end Go.Proofs.YteiijmclobggjaaGreat
end
/- Plan, walked (printed in part by gen_h25.py). -/
section
open Go Mk
namespace Go.Proofs.YteiijmclobggjaaGreat
set_option maxHeartbeats 16000000
attribute [local irreducible] Calls
theorem intRows_app (a b : List Int) : intRows (a ++ b) = intRows a ++ intRows b := by unfold intRows; rw [List.map_append]
/-- A map of slices of numbers as one resource. -/
def AdjP (bm : Nat) (N : Int → List Int) : Res := Res.pk (fun l : List (Int × Value) => (l.map (·.1)).Nodup ∧ ∀ x, aGet l x = none → N x = []) (fun l => adjM bm l :: l.map (chO N))
theorem adjP_new {Γ : Gho} {S : List Res} {w : World} {bm : Nat} (hw : Wd Γ (adjM bm [] :: S) w) : Wd Γ (AdjP bm (fun _ => []) :: S) w := by
  unfold AdjP
  exact Wd.pack ([] : List (Int × Value)) ⟨by simp, fun _ _ => rfl⟩ hw
theorem adjP_open {Γ : Gho} {S : List Res} {w : World} {bm : Nat} {N : Int → List Int} (a : Int) (hw : Wd Γ (AdjP bm N :: S) w) :
    ∃ (l : List (Int × Value)) (v : Value), (l.map (·.1)).Nodup ∧ (∀ x, aGet l x = none → N x = []) ∧ zeroOr l a v ∧ Wd Γ (adjM bm l :: .own v 3 1 (intRows (N a)) :: ((restL l a).map (chO N) ++ S)) w := by
  unfold AdjP at hw
  obtain ⟨l, ⟨h1, h2⟩, hw⟩ := Wd.unpack hw
  obtain ⟨v, h3, hw⟩ := ch_open (A := [adjM bm l]) a h1 (h2 a) hw
  exact ⟨l, v, h1, h2, h3, hw.perm (.swap _ _ _)⟩
theorem adjP_close {Γ : Gho} {S : List Res} {w : World} {bm : Nat} {N : Int → List Int} {a : Int} {l : List (Int × Value)} {v : Value} (hn : (l.map (·.1)).Nodup) (h0 : ∀ x, aGet l x = none → N x = []) (hz : zeroOr l a v) (hw : Wd Γ (adjM bm l :: .own v 3 1 (intRows (N a)) :: ((restL l a).map (chO N) ++ S)) w) : Wd Γ (AdjP bm N :: S) w := by
  have hw := ch_close (A := [adjM bm l]) (N := N) (N' := N) hn hz (fun _ _ => rfl) (hw.perm (.swap _ _ _))
  unfold AdjP
  exact Wd.pack l ⟨hn, h0⟩ hw
theorem adjP_set {Γ : Gho} {S : List Res} {w : World} {bm : Nat} {N : Int → List Int} {a : Int} {xs : List Int} {l : List (Int × Value)} {v : Value} (hn : (l.map (·.1)).Nodup) (h0 : ∀ x, aGet l x = none → N x = []) (hw : Wd Γ (adjM bm (aSet l a v) :: .own v 3 1 (intRows (N a ++ xs)) :: ((restL l a).map (chO N) ++ S)) w) : Wd Γ (AdjP bm (addI N a xs) :: S) w := by
  have h1 : (restL l a).map (chO N) = (restL l a).map (chO (addI N a xs)) := List.map_congr_left fun e he => by
    have := (List.mem_filter.1 he).2
    unfold chO addI
    rw [if_neg (by intro h; simp [h] at this)]
  have h2 : Res.own v 3 1 (intRows (N a ++ xs)) = chO (addI N a xs) (a, v) := by
    unfold chO addI; simp
  rw [h1, h2] at hw
  unfold AdjP
  refine Wd.pack (aSet l a v) ⟨aSet_keys hn a v, fun x hx => ?_⟩ (hw.perm (List.Perm.cons _ (((aSet_perm hn a v).map (chO (addI N a xs))).append_right S).symm))
  rw [aGet_aSet] at hx
  by_cases e : a = x
  · rw [if_pos e] at hx; cases hx
  · rw [if_neg e] at hx
    unfold addI; rw [if_neg e]; exact h0 x hx

theorem mem_ok {H : HwT} {r : Int} {ms : List Int} (h : memErr H r ms = 0) : (findC H.Cores r).2 = true ∧ (∀ a ∈ ms, (findC H.Cores a).2 = true) ∧ r ∉ ms ∧ ms.Nodup := by
  unfold memErr at h
  by_cases e1 : (r :: ms).all (fun id => (findC H.Cores id).2) = false
  · rw [if_pos e1] at h; cases h
  rw [if_neg e1] at h
  by_cases e2 : decP (r :: ms).Nodup = false
  · rw [if_pos e2] at h; cases h
  have e1 : (r :: ms).all (fun id => (findC H.Cores id).2) = true := by simpa using e1
  have e2 : (r :: ms).Nodup := by
    by_cases hn : (r :: ms).Nodup
    · exact hn
    · exact absurd (decP_f hn) e2
  have h1 := List.all_eq_true.1 e1
  rw [List.nodup_cons] at e2
  exact ⟨h1 r (by simp), fun a ha => h1 a (by simp [ha]), e2.1, e2.2⟩

theorem plan_any {Γ : Gho} {u v : Value} {H : HwT} [hhw : HwR Γ u H] {ms : List Int} [hr : SlC Γ v 1 (intRows ms)] [hsh : ShortL ms] (r cost : Int) {S : List Res} {w : World} (hw : Wd Γ S w) :
    Calls Tryz.prog 11 #[u, .int .i64 r, v, .int .i64 cost] w fun e w' => ∃ vo, e = .returned (.tuple #[.agg #[.int .i64 (planS H r ms cost).1, vo], .int .i64 (planErr H r ms cost)]) ∧ Wd Γ (.own vo 60 2 ((planS H r ms cost).2.map plV) :: S) w' := by
  have hhw' := hhw
  obtain ⟨a1, n1, c1, a2, n2, c2, a3, n3, c3, a4, n4, c4, a5, n5, c5, cs, rfl, -⟩ := hhw.h
  have hrs := hr.h
  obtain ⟨am, nm, cm, rfl, hnm, hnmc, hcm⟩ := hr.h.shape
  simp only [intRows, List.length_map] at hnm
  have hms := hsh.h
  refine calls_of_WC Tryz.func11 rfl rfl ?_
  repeat (first | refine byW ?_ | (refine byV ?_; intro w hw))
  refine lBox ?_
  intro b4 w hw
  refine lAlloc ?_
  intro b8 w hw
  have hw : Wd Γ ([.blk b8 (.cells #[.int .i64 0, .slice none 0 0] 32), .blk b4 (.cells #[.string H.Name, .slice a1 n1 c1, .slice a2 n2 c2, .slice a3 n3 c3, .slice a4 n4 c4, .slice a5 n5 c5] 28)] ++ S) w := hw
  unfold planS
  have hE : ∀ {e : Int} {w : World}, planErr H r ms cost = e → e ≠ 0 → Wd Γ ([.blk b8 (.cells #[.int .i64 0, .slice none 0 0] 32), .blk b4 (.cells #[.string H.Name, .slice a1 n1 c1, .slice a2 n2 c2, .slice a3 n3 c3, .slice a4 n4 c4, .slice a5 n5 c5] 28)] ++ S) w → ∃ vo, Ending.returned (.tuple #[.agg #[.int .i64 0, .slice none 0 0], .int .i64 e]) = .returned (.tuple #[.agg #[.int .i64 (if planErr H r ms cost = 0 then (r, planE H r ms cost) else (0, [])).1, vo], .int .i64 (planErr H r ms cost)]) ∧ Wd Γ (.own vo 60 2 ((if planErr H r ms cost = 0 then (r, planE H r ms cost) else (0, [])).2.map plV) :: S) w := fun {e w} he hne hw => by
    rw [he, if_neg hne]
    exact ⟨_, rfl, Wd.addNil (hw.ds [0, 0])⟩
  repeat (first | refine byW ?_ | (refine byV ?_; intro w hw))
  refine W_cond rfl (fun h => ?_) (fun h => ?_)
  · have h : ¬ validS H = 0 := by simpa using h
    have he : planErr H r ms cost = validS H := by unfold planErr; rw [if_pos h]
    repeat (first | refine byW ?_ | (refine byV ?_; intro w hw))
    refine lStore ?_
    intro w hw
    have hw : Wd Γ ([.blk b8 (.cells #[.int .i64 0, .slice none 0 0] 32), .blk b4 (.cells #[.string H.Name, .slice a1 n1 c1, .slice a2 n2 c2, .slice a3 n3 c3, .slice a4 n4 c4, .slice a5 n5 c5] 28)] ++ S) w := hw
    repeat (first | refine byW ?_ | (refine byV ?_; intro w hw))
    exact ⟨[_, _], ⟨resC (i := 0) hw rfl rfl rfl, rfl, trivial⟩, hE he h hw⟩
  have hv : validS H = 0 := by simpa using h
  clear h
  repeat (first | refine byW ?_ | (refine byV ?_; intro w hw))
  refine W_cond rfl (fun h => ?_) (fun h => ?_)
  · have h : ¬ memErr H r ms = 0 := by simpa using h
    have he : planErr H r ms cost = memErr H r ms := by unfold planErr; rw [if_neg (by omega), if_pos h]
    repeat (first | refine byW ?_ | (refine byV ?_; intro w hw))
    refine lStore ?_
    intro w hw
    have hw : Wd Γ ([.blk b8 (.cells #[.int .i64 0, .slice none 0 0] 32), .blk b4 (.cells #[.string H.Name, .slice a1 n1 c1, .slice a2 n2 c2, .slice a3 n3 c3, .slice a4 n4 c4, .slice a5 n5 c5] 28)] ++ S) w := hw
    repeat (first | refine byW ?_ | (refine byV ?_; intro w hw))
    exact ⟨[_, _], ⟨resC (i := 0) hw rfl rfl rfl, rfl, trivial⟩, hE he h hw⟩
  have hme : memErr H r ms = 0 := by simpa using h
  clear h
  repeat (first | refine byW ?_ | (refine byV ?_; intro w hw))
  refine W_cond rfl (fun h => ?_) (fun h => ?_)
  · have h : (decide (cost < 0) || decide (cost > 1000000)) = true := h
    have he : planErr H r ms cost = 6 := by unfold planErr; rw [if_neg (by omega), if_neg (by omega), if_pos (by simp at h; omega)]
    repeat (first | refine byW ?_ | (refine byV ?_; intro w hw))
    refine lStore ?_
    intro w hw
    have hw : Wd Γ ([.blk b8 (.cells #[.int .i64 0, .slice none 0 0] 32), .blk b4 (.cells #[.string H.Name, .slice a1 n1 c1, .slice a2 n2 c2, .slice a3 n3 c3, .slice a4 n4 c4, .slice a5 n5 c5] 28)] ++ S) w := hw
    repeat (first | refine byW ?_ | (refine byV ?_; intro w hw))
    exact ⟨[_, _], ⟨resC (i := 0) hw rfl rfl rfl, rfl, trivial⟩, hE he (by omega) hw⟩
  have h : (decide (cost < 0) || decide (cost > 1000000)) = false := h
  have hc : 0 ≤ cost ∧ cost ≤ 1000000 := by simp at h; omega
  have he0 : planErr H r ms cost = 0 := by unfold planErr; rw [if_neg (by omega), if_neg (by omega), if_neg (by omega)]
  clear h hE
  rw [he0, if_pos rfl]
  obtain ⟨hknr, hknm, hrm, hmnd⟩ := mem_ok hme
  have hcr := coreN_rng hv hknr
  repeat (first | refine byW ?_ | (refine byV ?_; intro w hw))
  refine L_step rfl rfl (s_makeMap (K := 3) (α := Int) (f := (id : Value → Value)) hw fun bg w hw => ?_)
  have hw := adjP_new hw
  repeat (first | refine byW ?_ | (refine byV ?_; intro w hw))
  have hg0 : (fun _ : Int => ([] : List Int)) = grpL H (ms.take 0) := by funext n; rfl
  refine W_loop (fun μ ρ w => ∃ (k : Nat), μ + k = nm ∧ Has ρ [(1, .int .i64 r), (2, .slice am nm cm), (3, .int .i64 cost), (4, .pointer (some ⟨b4, 0, none⟩)), (8, .pointer (some ⟨b8, 0, none⟩)), (9, .int .i64 0), (12, .map (some bg)), (52, .slice am nm cm), (53, .int .i64 nm), (54, .int .i64 k)] ∧ Wd Γ (AdjP bg (grpL H (ms.take k)) :: ([.blk b8 (.cells #[.int .i64 0, .slice none 0 0] 32), .blk b4 (.cells #[.string H.Name, .slice a1 n1 c1, .slice a2 n2 c2, .slice a3 n3 c3, .slice a4 n4 c4, .slice a5 n5 c5] 28)] ++ S)) w) nm ⟨0, by omega, ⟨rfl, rfl, rfl, rfl, rfl, rfl, rfl, rfl, rfl, rfl, trivial⟩, by rw [← hg0]; exact hw⟩ ?_
  clear hw
  rintro μ ρ w ⟨k, hk, hρ, hw⟩
  rw [hρ.eq]
  clear hρ
  repeat (first | refine byW ?_ | (refine byV ?_; intro w hw))
  refine W_cond rfl (fun h => ?_) (fun h => ?_)
  · have hkn : k < nm := by have := of_decide_eq_true h; omega
    obtain ⟨x, hx⟩ := get_lt (l := ms) (k := k) (by omega)
    have hlen : (grpL H (ms.take k) (coreN H x)).length ≤ 1000 := Nat.le_trans grpL_len (by simp; omega)
    repeat (first | refine byW ?_ | (refine byV ?_; intro w hw))
    refine lAlloc ?_
    intro b15 w hw
    refine lStore ?_
    intro w hw
    have hw : Wd Γ (AdjP bg (grpL H (ms.take k)) :: ([.blk b15 (.cells (enc (findC H.Cores x).1).toArray 53), .blk b8 (.cells #[.int .i64 0, .slice none 0 0] 32), .blk b4 (.cells #[.string H.Name, .slice a1 n1 c1, .slice a2 n2 c2, .slice a3 n3 c3, .slice a4 n4 c4, .slice a5 n5 c5] 28)] ++ S)) w := hw.ps [1]
    obtain ⟨l, vv, hnl, hl0, hz, hw⟩ := adjP_open (coreN H x) hw
    obtain ⟨a0, c0, rfl, hnc0, hcc0⟩ := ints_len hw (i := 1) rfl
    have hw : Wd Γ ([.blk b15 (.cells (enc (findC H.Cores x).1).toArray 53)] ++ (adjM bg l :: .own (.slice a0 (grpL H (ms.take k) (coreN H x)).length c0) 3 1 (intRows (grpL H (ms.take k) (coreN H x))) :: ((restL l (coreN H x)).map (chO (grpL H (ms.take k))) ++ ([.blk b8 (.cells #[.int .i64 0, .slice none 0 0] 32), .blk b4 (.cells #[.string H.Name, .slice a1 n1 c1, .slice a2 n2 c2, .slice a3 n3 c3, .slice a4 n4 c4, .slice a5 n5 c5] 28)] ++ S)))) w := hw.perm byPM
    generalize hm0 : (grpL H (ms.take k) (coreN H x)).length = m0 at hw hnc0 hcc0 hz
    repeat (first | refine byW ?_ | (refine byV ?_; intro w hw))
    refine W_mix2 [.blk b15 (.cells (enc (findC H.Cores x).1).toArray 53)] _ [[],[],[],[],[],[],[],[],[1],[0],[0]] [[],[],[],[],[],[],[0],[],[1],[0,1],[0]] [[73], [72]] hw ?_
    repeat (first | refine mY ?_ | refine mP ?_ | refine mPg ?_)
    refine mY (v := .slice a0 m0 c0) ?_ (hy := fun Y w g hw => y_lookupZ hw hz (i := 1) rfl rfl rfl)
    repeat (first | refine mY ?_ | refine mP ?_ | refine mPg ?_)
    refine mBuild (cells := [.int .i64 x]) [[.int .i64 x]] ?_
    refine mApp (j := 1) ?_
    refine mPutV (j := 0) ?_
    refine mEnd fun w g hw => ?_
    have hw := Wd.dropEnd hw
    have hw : Wd Γ ([.blk b15 (.cells (enc (findC H.Cores x).1).toArray 53)] ++ (adjM bg (aSet l (coreN H x) (g 73)) :: .own (g 73) 3 1 (intRows (grpL H (ms.take k) (coreN H x)) ++ intRows [x]) :: ((restL l (coreN H x)).map (chO (grpL H (ms.take k))) ++ ([.blk b8 (.cells #[.int .i64 0, .slice none 0 0] 32), .blk b4 (.cells #[.string H.Name, .slice a1 n1 c1, .slice a2 n2 c2, .slice a3 n3 c3, .slice a4 n4 c4, .slice a5 n5 c5] 28)] ++ S)))) w := hw
    rw [← intRows_app] at hw
    have hw := adjP_set hnl hl0 (S := ([.blk b8 (.cells #[.int .i64 0, .slice none 0 0] 32), .blk b4 (.cells #[.string H.Name, .slice a1 n1 c1, .slice a2 n2 c2, .slice a3 n3 c3, .slice a4 n4 c4, .slice a5 n5 c5] 28)] ++ S) ++ [.blk b15 (.cells (enc (findC H.Cores x).1).toArray 53)]) (hw.perm byPM)
    generalize g 73 = gg at hw
    clear hz hm0
    rw [grpL_snoc hx] at hw
    have hw : Wd Γ (AdjP bg (grpL H (ms.take (k + 1))) :: ([.blk b8 (.cells #[.int .i64 0, .slice none 0 0] 32), .blk b4 (.cells #[.string H.Name, .slice a1 n1 c1, .slice a2 n2 c2, .slice a3 n3 c3, .slice a4 n4 c4, .slice a5 n5 c5] 28)] ++ S)) w := (Wd.flip (A := [.blk b15 (.cells (enc (findC H.Cores x).1).toArray 53)]) (hw.perm byPM)).left
    repeat (first | refine byW ?_ | (refine byV ?_; intro w hw))
    exact ⟨μ - 1, by omega, k + 1, by omega, ⟨rfl, rfl, rfl, rfl, rfl, rfl, rfl, rfl, rfl, rfl, trivial⟩, hw⟩
  have hkn : ¬ k < nm := by have := of_decide_eq_false h; omega
  rw [List.take_of_length_le (by omega)] at hw
  clear h hkn hk
  repeat (first | refine byW ?_ | (refine byV ?_; intro w hw))
  refine L_step rfl rfl (s_makeMap (K := 3) (α := Int) (f := (id : Value → Value)) hw fun bm w hw => ?_)
  repeat (first | refine byW ?_ | (refine byV ?_; intro w hw))
  refine lBox ?_
  intro bb w hw
  have hw := btwP_new (Γ := Γ) (bb := bb) (H := H) (bm := bm) (a1 := a1) (n1 := n1) (c1 := c1) (a2 := a2) (n2 := n2) (c2 := c2) (a3 := a3) (n3 := n3) (c3 := c3) (a4 := a4) (n4 := n4) (c4 := c4) (a5 := a5) (n5 := n5) (c5 := c5) hw
  repeat (first | refine byW ?_ | (refine byV ?_; intro w hw))
  refine L_step rfl rfl (s_makeMap (K := 3) (α := Int) (f := (id : Value → Value)) hw fun bc w hw => ?_)
  have hw := adjP_new hw
  repeat (first | refine byW ?_ | (refine byV ?_; intro w hw))
  refine lBox ?_
  intro pb w hw
  have hw : Wd Γ (plB pb bb cost bc :: AdjP bc (fun _ => []) :: btwP bb H a1 n1 c1 a2 n2 c2 a3 n3 c3 a4 n4 c4 a5 n5 c5 :: AdjP bg (grpL H ms) :: ([.blk b8 (.cells #[.int .i64 0, .slice none 0 0] 32), .blk b4 (.cells #[.string H.Name, .slice a1 n1 c1, .slice a2 n2 c2, .slice a3 n3 c3, .slice a4 n4 c4, .slice a5 n5 c5] 28)] ++ S)) w := hw
  repeat (first | refine byW ?_ | (refine byV ?_; intro w hw))
  refine lAlloc ?_
  intro b18 w hw
  refine lStore ?_
  intro w hw
  have hw : Wd Γ (.blk b18 (.cells (enc (findC H.Cores r).1).toArray 53) :: plB pb bb cost bc :: AdjP bc (fun _ => []) :: btwP bb H a1 n1 c1 a2 n2 c2 a3 n3 c3 a4 n4 c4 a5 n5 c5 :: AdjP bg (grpL H ms) :: ([.blk b8 (.cells #[.int .i64 0, .slice none 0 0] 32), .blk b4 (.cells #[.string H.Name, .slice a1 n1 c1, .slice a2 n2 c2, .slice a3 n3 c3, .slice a4 n4 c4, .slice a5 n5 c5] 28)] ++ S)) w := hw
  repeat (first | refine byW ?_ | (refine byV ?_; intro w hw))
  refine W_loop (fun μ ρ w => ∃ (k : Nat), μ + k = 64 ∧ Has ρ [(1, .int .i64 r), (4, .pointer (some ⟨b4, 0, none⟩)), (8, .pointer (some ⟨b8, 0, none⟩)), (9, .int .i64 0), (12, .map (some bg)), (17, .pointer (some ⟨pb, 0, none⟩)), (18, .pointer (some ⟨b18, 0, none⟩)), (20, .int .i64 k)] ∧ Wd Γ (.blk b18 (.cells (enc (findC H.Cores r).1).toArray 53) :: plB pb bb cost bc :: AdjP bc (chK H r ms k) :: btwP bb H a1 n1 c1 a2 n2 c2 a3 n3 c3 a4 n4 c4 a5 n5 c5 :: AdjP bg (grpL H ms) :: ([.blk b8 (.cells #[.int .i64 0, .slice none 0 0] 32), .blk b4 (.cells #[.string H.Name, .slice a1 n1 c1, .slice a2 n2 c2, .slice a3 n3 c3, .slice a4 n4 c4, .slice a5 n5 c5] 28)] ++ S)) w) 64 ⟨0, by omega, ⟨rfl, rfl, rfl, rfl, rfl, rfl, rfl, rfl, trivial⟩, by rw [chK_zero]; exact hw⟩ ?_
  clear hw
  rintro μ ρ w ⟨k, hk, hρ, hw⟩
  rw [hρ.eq]
  clear hρ
  repeat (first | refine byW ?_ | (refine byV ?_; intro w hw))
  refine W_cond rfl (fun h => ?_) (fun h => ?_)
  · have hkn : k < 64 := by have := of_decide_eq_true h; omega
    clear h
    obtain ⟨lg, vg, hng, hg0, hzg, hw⟩ := adjP_open (k : Int) (hw.ps [4])
    obtain ⟨av, cv, rfl, hncv, hccv⟩ := ints_len hw (i := 1) rfl
    have hglen : (grpL H ms (k : Int)).length ≤ 1000 := Nat.le_trans grpL_len hms
    have hclen : (chK H r ms k r).length ≤ 1000 := Nat.le_trans chK_len hms
    generalize hnv : (grpL H ms (k : Int)).length = nv at hw hzg hncv hglen
    have hw : Wd Γ (.own (.slice av nv cv) 3 1 (intRows (grpL H ms (k : Int))) :: .blk b18 (.cells (enc (findC H.Cores r).1).toArray 53) :: adjM bg lg :: plB pb bb cost bc :: AdjP bc (chK H r ms k) :: btwP bb H a1 n1 c1 a2 n2 c2 a3 n3 c3 a4 n4 c4 a5 n5 c5 :: .blk b8 (.cells #[.int .i64 0, .slice none 0 0] 32) :: .blk b4 (.cells #[.string H.Name, .slice a1 n1 c1, .slice a2 n2 c2, .slice a3 n3 c3, .slice a4 n4 c4, .slice a5 n5 c5] 28) :: ((restL lg (k : Int)).map (chO (grpL H ms)) ++ S)) w := hw.perm byPM
    repeat (first | refine byW ?_ | (refine byV ?_; intro w hw))
    refine lY (v := .slice av nv cv) ?_ (hy := y_lookupZ hw hzg (i := 2) rfl rfl rfl)
    repeat (first | refine byW ?_ | (refine byV ?_; intro w hw))
    have hend : ∀ {N : Int → List Int} {w : World}, N = chK H r ms (k + 1) → Wd Γ (AdjP bc N :: (([Res.own (.slice av nv cv) 3 1 (intRows (grpL H ms (k : Int))), .blk b18 (.cells (enc (findC H.Cores r).1).toArray 53), btwP bb H a1 n1 c1 a2 n2 c2 a3 n3 c3 a4 n4 c4 a5 n5 c5, .blk b8 (.cells #[.int .i64 0, .slice none 0 0] 32), .blk b4 (.cells #[.string H.Name, .slice a1 n1 c1, .slice a2 n2 c2, .slice a3 n3 c3, .slice a4 n4 c4, .slice a5 n5 c5] 28)] ++ (adjM bg lg :: ((restL lg (k : Int)).map (chO (grpL H ms)) ++ S))) ++ [plB pb bb cost bc])) w → Wd Γ (.blk b18 (.cells (enc (findC H.Cores r).1).toArray 53) :: plB pb bb cost bc :: AdjP bc (chK H r ms (k + 1)) :: btwP bb H a1 n1 c1 a2 n2 c2 a3 n3 c3 a4 n4 c4 a5 n5 c5 :: AdjP bg (grpL H ms) :: ([.blk b8 (.cells #[.int .i64 0, .slice none 0 0] 32), .blk b4 (.cells #[.string H.Name, .slice a1 n1 c1, .slice a2 n2 c2, .slice a3 n3 c3, .slice a4 n4 c4, .slice a5 n5 c5] 28)] ++ S)) w := fun {N w} hN hw => by
      subst hN
      have hw := adjP_close hng hg0 hzg (S := .blk b18 (.cells (enc (findC H.Cores r).1).toArray 53) :: plB pb bb cost bc :: AdjP bc (chK H r ms (k + 1)) :: btwP bb H a1 n1 c1 a2 n2 c2 a3 n3 c3 a4 n4 c4 a5 n5 c5 :: ([.blk b8 (.cells #[.int .i64 0, .slice none 0 0] 32), .blk b4 (.cells #[.string H.Name, .slice a1 n1 c1, .slice a2 n2 c2, .slice a3 n3 c3, .slice a4 n4 c4, .slice a5 n5 c5] 28)] ++ S)) (hw.perm byPM)
      exact hw.perm byPM
    refine W_cond rfl (fun h => ?_) (fun h => ?_)
    · have h : (decide ((k : Int) = (findC H.Cores r).1.Node) || decide ((nv : Int) = 0)) = true := h
      have hcase : (k : Int) = coreN H r ∨ grpL H ms (k : Int) = [] := by
        simp only [Bool.or_eq_true, decide_eq_true_eq] at h
        exact h.imp id fun h => List.eq_nil_of_length_eq_zero (by omega)
      obtain ⟨l, vv, hnl, hl0, hz, hw⟩ := adjP_open r (hw.ps [4])
      obtain ⟨a0, c0, rfl, hnc0, hcc0⟩ := ints_len hw (i := 1) rfl
      have hw : Wd Γ ([.own (.slice av nv cv) 3 1 (intRows (grpL H ms (k : Int))), plB pb bb cost bc] ++ (adjM bc l :: .own (.slice a0 (chK H r ms k r).length c0) 3 1 (intRows (chK H r ms k r)) :: ((restL l r).map (chO (chK H r ms k)) ++ ([.blk b18 (.cells (enc (findC H.Cores r).1).toArray 53), btwP bb H a1 n1 c1 a2 n2 c2 a3 n3 c3 a4 n4 c4 a5 n5 c5, .blk b8 (.cells #[.int .i64 0, .slice none 0 0] 32), .blk b4 (.cells #[.string H.Name, .slice a1 n1 c1, .slice a2 n2 c2, .slice a3 n3 c3, .slice a4 n4 c4, .slice a5 n5 c5] 28)] ++ (adjM bg lg :: ((restL lg (k : Int)).map (chO (grpL H ms)) ++ S)))))) w := hw.perm byPM
      generalize hm0 : (chK H r ms k r).length = m0 at hw hnc0 hcc0 hz hclen
      repeat (first | refine byW ?_ | (refine byV ?_; intro w hw))
      refine W_mix2 [.own (.slice av nv cv) 3 1 (intRows (grpL H ms (k : Int))), plB pb bb cost bc] _ [[],[],[],[],[],[],[],[],[],[],[],[],[0],[0]] [[],[],[],[],[],[],[],[],[],[],[0],[],[0],[0]] [[117], []] hw ?_
      repeat (first | refine mY ?_ | refine mP ?_ | refine mPg ?_)
      refine mY (v := .slice a0 m0 c0) ?_ (hy := fun Y w g hw => y_lookupZ hw hz (i := 2) rfl rfl rfl)
      repeat (first | refine mY ?_ | refine mP ?_ | refine mPg ?_)
      refine mAppK (j := 1) (m2 := nv) (rows2 := intRows (grpL H ms (k : Int))) ?_ (fun Y w hw => hw.own_rd (i := 0) rfl) (by simp [intRows, hnv]) (fun u hu => (List.all_eq_true.1 (ints1 _)) u hu)
      refine mPutV (j := 0) ?_
      refine mEnd fun w g hw => ?_
      have hw := Wd.dropEnd hw
      have hw : Wd Γ ([.own (.slice av nv cv) 3 1 (intRows (grpL H ms (k : Int))), plB pb bb cost bc] ++ (adjM bc (aSet l r (g 117)) :: .own (g 117) 3 1 (intRows (chK H r ms k r) ++ intRows (grpL H ms (k : Int))) :: ((restL l r).map (chO (chK H r ms k)) ++ ([.blk b18 (.cells (enc (findC H.Cores r).1).toArray 53), btwP bb H a1 n1 c1 a2 n2 c2 a3 n3 c3 a4 n4 c4 a5 n5 c5, .blk b8 (.cells #[.int .i64 0, .slice none 0 0] 32), .blk b4 (.cells #[.string H.Name, .slice a1 n1 c1, .slice a2 n2 c2, .slice a3 n3 c3, .slice a4 n4 c4, .slice a5 n5 c5] 28)] ++ (adjM bg lg :: ((restL lg (k : Int)).map (chO (grpL H ms)) ++ S)))))) w := hw
      rw [← intRows_app] at hw
      have hw := adjP_set hnl hl0 (S := ([Res.own (.slice av nv cv) 3 1 (intRows (grpL H ms (k : Int))), .blk b18 (.cells (enc (findC H.Cores r).1).toArray 53), btwP bb H a1 n1 c1 a2 n2 c2 a3 n3 c3 a4 n4 c4 a5 n5 c5, .blk b8 (.cells #[.int .i64 0, .slice none 0 0] 32), .blk b4 (.cells #[.string H.Name, .slice a1 n1 c1, .slice a2 n2 c2, .slice a3 n3 c3, .slice a4 n4 c4, .slice a5 n5 c5] 28)] ++ (adjM bg lg :: ((restL lg (k : Int)).map (chO (grpL H ms)) ++ S))) ++ [plB pb bb cost bc]) (hw.perm byPM)
      have hN : addI (chK H r ms k) r (grpL H ms (k : Int)) = chK H r ms (k + 1) := by rw [chK_succ hrm, if_pos hcase]
      have hw := hend hN hw
      repeat (first | refine byW ?_ | (refine byV ?_; intro w hw))
      exact ⟨μ - 1, by omega, k + 1, by omega, ⟨rfl, rfl, rfl, rfl, rfl, rfl, rfl, rfl, trivial⟩, hw⟩
    have h : (decide ((k : Int) = (findC H.Cores r).1.Node) || decide ((nv : Int) = 0)) = false := h
    have hcase : ¬ ((k : Int) = coreN H r ∨ grpL H ms (k : Int) = []) := by
      simp only [Bool.or_eq_false_iff, decide_eq_false_iff_not] at h
      rintro (e | e)
      · exact h.1 e
      · rw [e] at hnv; simp at hnv; omega
    clear h
    obtain ⟨g0, gs, hgs⟩ : ∃ g0 gs, grpL H ms (k : Int) = g0 :: gs := by
      cases hq : grpL H ms (k : Int) with
      | nil => exact absurd (.inr hq) hcase
      | cons a b => exact ⟨a, b, rfl⟩
    repeat (first | refine byW ?_ | (refine byV ?_; intro w hw))
    refine lCall ((minF_any (x0 := g0) (xs := gs) (v := .slice av nv cv) (by rw [hgs] at hnv; simp at hnv; omega) (S := .blk b18 (.cells (enc (findC H.Cores r).1).toArray 53) :: adjM bg lg :: plB pb bb cost bc :: AdjP bc (chK H r ms k) :: btwP bb H a1 n1 c1 a2 n2 c2 a3 n3 c3 a4 n4 c4 a5 n5 c5 :: .blk b8 (.cells #[.int .i64 0, .slice none 0 0] 32) :: ((restL lg (k : Int)).map (chO (grpL H ms)) ++ S)) (by rw [← hgs]; exact hw.ps [7])).mono fun e w hq => ?_)
    obtain ⟨rfl, hw⟩ := hq
    have hfw : minF (spdC H) g0 gs = fwdL H (grpL H ms (k : Int)) := by rw [hgs]; rfl
    rw [← hgs, hfw] at *
    refine ⟨_, rfl, ?_⟩
    repeat (first | refine byW ?_ | (refine byV ?_; intro w hw))
    have hw := hw.ps [5]
    obtain ⟨l, vv, hnl, hl0, hz, hw⟩ := adjP_open r hw
    obtain ⟨a0, c0, rfl, hnc0, hcc0⟩ := ints_len hw (i := 1) rfl
    have hw : Wd Γ ([plB pb bb cost bc] ++ (adjM bc l :: .own (.slice a0 (chK H r ms k r).length c0) 3 1 (intRows (chK H r ms k r)) :: ((restL l r).map (chO (chK H r ms k)) ++ ([Res.own (.slice av nv cv) 3 1 (intRows (grpL H ms (k : Int))), .blk b18 (.cells (enc (findC H.Cores r).1).toArray 53), btwP bb H a1 n1 c1 a2 n2 c2 a3 n3 c3 a4 n4 c4 a5 n5 c5, .blk b8 (.cells #[.int .i64 0, .slice none 0 0] 32), .blk b4 (.cells #[.string H.Name, .slice a1 n1 c1, .slice a2 n2 c2, .slice a3 n3 c3, .slice a4 n4 c4, .slice a5 n5 c5] 28)] ++ (adjM bg lg :: ((restL lg (k : Int)).map (chO (grpL H ms)) ++ S)))))) w := hw.perm byPM
    generalize hm0 : (chK H r ms k r).length = m0 at hw hnc0 hcc0 hz
    repeat (first | refine byW ?_ | (refine byV ?_; intro w hw))
    refine W_mix2 [plB pb bb cost bc] _ [[],[],[],[],[],[],[],[],[],[],[],[],[1],[0],[0]] [[],[],[],[],[],[],[],[],[],[],[0],[],[1],[0,1],[0]] [[134], [133]] hw ?_
    repeat (first | refine mY ?_ | refine mP ?_ | refine mPg ?_)
    refine mY (v := .slice a0 m0 c0) ?_ (hy := fun Y w g hw => y_lookupZ hw hz (i := 1) rfl rfl rfl)
    repeat (first | refine mY ?_ | refine mP ?_ | refine mPg ?_)
    refine mBuild (cells := [.int .i64 (fwdL H (grpL H ms (k : Int)))]) [[.int .i64 (fwdL H (grpL H ms (k : Int)))]] ?_
    refine mApp (j := 1) ?_
    refine mPutV (j := 0) ?_
    refine mEnd fun w g hw => ?_
    have hw := Wd.dropEnd hw
    have hw : Wd Γ ([plB pb bb cost bc] ++ (adjM bc (aSet l r (g 134)) :: .own (g 134) 3 1 (intRows (chK H r ms k r) ++ intRows [(fwdL H (grpL H ms (k : Int)))]) :: ((restL l r).map (chO (chK H r ms k)) ++ ([Res.own (.slice av nv cv) 3 1 (intRows (grpL H ms (k : Int))), .blk b18 (.cells (enc (findC H.Cores r).1).toArray 53), btwP bb H a1 n1 c1 a2 n2 c2 a3 n3 c3 a4 n4 c4 a5 n5 c5, .blk b8 (.cells #[.int .i64 0, .slice none 0 0] 32), .blk b4 (.cells #[.string H.Name, .slice a1 n1 c1, .slice a2 n2 c2, .slice a3 n3 c3, .slice a4 n4 c4, .slice a5 n5 c5] 28)] ++ (adjM bg lg :: ((restL lg (k : Int)).map (chO (grpL H ms)) ++ S)))))) w := hw
    rw [← intRows_app] at hw
    have hw := adjP_set hnl hl0 (S := ([Res.own (.slice av nv cv) 3 1 (intRows (grpL H ms (k : Int))), .blk b18 (.cells (enc (findC H.Cores r).1).toArray 53), btwP bb H a1 n1 c1 a2 n2 c2 a3 n3 c3 a4 n4 c4 a5 n5 c5, .blk b8 (.cells #[.int .i64 0, .slice none 0 0] 32), .blk b4 (.cells #[.string H.Name, .slice a1 n1 c1, .slice a2 n2 c2, .slice a3 n3 c3, .slice a4 n4 c4, .slice a5 n5 c5] 28)] ++ (adjM bg lg :: ((restL lg (k : Int)).map (chO (grpL H ms)) ++ S))) ++ [plB pb bb cost bc]) (hw.perm byPM)
    generalize g 134 = gg at hw
    clear hz hm0
    repeat (first | refine byW ?_ | (refine byV ?_; intro w hw))
    generalize hN0 : addI (chK H r ms k) r [fwdL H (grpL H ms (k : Int))] = N0 at hw
    refine W_loop (fun μ ρ w => ∃ (j : Nat) (N : Int → List Int), μ + j = nv ∧ N = addI N0 (fwdL H (grpL H ms (k : Int))) (((grpL H ms (k : Int)).take j).filter fun y => decide (y ≠ fwdL H (grpL H ms (k : Int)))) ∧ Has ρ [(1, .int .i64 r), (4, .pointer (some ⟨b4, 0, none⟩)), (8, .pointer (some ⟨b8, 0, none⟩)), (9, .int .i64 0), (12, .map (some bg)), (17, .pointer (some ⟨pb, 0, none⟩)), (18, .pointer (some ⟨b18, 0, none⟩)), (20, .int .i64 k), (22, .int .i64 (fwdL H (grpL H ms (k : Int)))), (135, .slice av nv cv), (136, .int .i64 nv), (137, .int .i64 j)] ∧ Wd Γ (AdjP bc N :: (([Res.own (.slice av nv cv) 3 1 (intRows (grpL H ms (k : Int))), .blk b18 (.cells (enc (findC H.Cores r).1).toArray 53), btwP bb H a1 n1 c1 a2 n2 c2 a3 n3 c3 a4 n4 c4 a5 n5 c5, .blk b8 (.cells #[.int .i64 0, .slice none 0 0] 32), .blk b4 (.cells #[.string H.Name, .slice a1 n1 c1, .slice a2 n2 c2, .slice a3 n3 c3, .slice a4 n4 c4, .slice a5 n5 c5] 28)] ++ (adjM bg lg :: ((restL lg (k : Int)).map (chO (grpL H ms)) ++ S))) ++ [plB pb bb cost bc])) w) nv ⟨0, N0, by omega, by rw [List.take_zero, List.filter_nil, addI_nil], ⟨rfl, rfl, rfl, rfl, rfl, rfl, rfl, rfl, rfl, rfl, rfl, rfl, trivial⟩, hw⟩ ?_
    clear hw
    rintro μ2 ρ w ⟨j, N, hj, hN, hρ, hw⟩
    rw [hρ.eq]
    clear hρ
    repeat (first | refine byW ?_ | (refine byV ?_; intro w hw))
    refine W_cond rfl (fun h => ?_) (fun h => ?_)
    · have hjn : j < nv := by have := of_decide_eq_true h; omega
      obtain ⟨y, hy⟩ := get_lt (l := grpL H ms (k : Int)) (k := j) (by omega)
      have hw := hw.ps [1]
      repeat (first | refine byW ?_ | (refine byV ?_; intro w hw))
      refine W_cond rfl (fun h2 => ?_) (fun h2 => ?_)
      · have h2 : y ≠ fwdL H (grpL H ms (k : Int)) := by simpa using h2
        have hw := hw.ps [1]
        have hNlen : (N (fwdL H (grpL H ms (k : Int)))).length ≤ 3000 := by
          rw [hN, ← hN0]
          unfold addI
          rw [if_pos rfl]
          have h1 : (chK H r ms k (fwdL H (grpL H ms (k : Int)))).length ≤ 1000 := Nat.le_trans chK_len hms
          have h3 : (((grpL H ms (k : Int)).take j).filter fun y => decide (y ≠ fwdL H (grpL H ms (k : Int)))).length ≤ 1000 := Nat.le_trans (List.length_filter_le _ _) (by simp; omega)
          split <;> simp only [List.length_append, List.length_cons, List.length_nil] <;> omega
        obtain ⟨l, vv, hnl, hl0, hz, hw⟩ := adjP_open (fwdL H (grpL H ms (k : Int))) hw
        obtain ⟨a0, c0, rfl, hnc0, hcc0⟩ := ints_len hw (i := 1) rfl
        have hw : Wd Γ ([plB pb bb cost bc] ++ (adjM bc l :: .own (.slice a0 (N (fwdL H (grpL H ms (k : Int)))).length c0) 3 1 (intRows (N (fwdL H (grpL H ms (k : Int))))) :: ((restL l (fwdL H (grpL H ms (k : Int)))).map (chO (N)) ++ ([Res.own (.slice av nv cv) 3 1 (intRows (grpL H ms (k : Int))), .blk b18 (.cells (enc (findC H.Cores r).1).toArray 53), btwP bb H a1 n1 c1 a2 n2 c2 a3 n3 c3 a4 n4 c4 a5 n5 c5, .blk b8 (.cells #[.int .i64 0, .slice none 0 0] 32), .blk b4 (.cells #[.string H.Name, .slice a1 n1 c1, .slice a2 n2 c2, .slice a3 n3 c3, .slice a4 n4 c4, .slice a5 n5 c5] 28)] ++ (adjM bg lg :: ((restL lg (k : Int)).map (chO (grpL H ms)) ++ S)))))) w := hw.perm byPM
        generalize hm0 : (N (fwdL H (grpL H ms (k : Int)))).length = m0 at hw hnc0 hcc0 hz
        repeat (first | refine byW ?_ | (refine byV ?_; intro w hw))
        refine W_mix2 [plB pb bb cost bc] _ [[],[],[],[],[],[],[],[],[],[],[],[],[1],[0],[0]] [[],[],[],[],[],[],[],[],[],[],[0],[],[1],[0,1],[0]] [[157], [156]] hw ?_
        repeat (first | refine mY ?_ | refine mP ?_ | refine mPg ?_)
        refine mY (v := .slice a0 m0 c0) ?_ (hy := fun Y w g hw => y_lookupZ hw hz (i := 1) rfl rfl rfl)
        repeat (first | refine mY ?_ | refine mP ?_ | refine mPg ?_)
        refine mBuild (cells := [.int .i64 y]) [[.int .i64 y]] ?_
        refine mApp (j := 1) ?_
        refine mPutV (j := 0) ?_
        refine mEnd fun w g hw => ?_
        have hw := Wd.dropEnd hw
        have hw : Wd Γ ([plB pb bb cost bc] ++ (adjM bc (aSet l (fwdL H (grpL H ms (k : Int))) (g 157)) :: .own (g 157) 3 1 (intRows (N (fwdL H (grpL H ms (k : Int)))) ++ intRows [y]) :: ((restL l (fwdL H (grpL H ms (k : Int)))).map (chO (N)) ++ ([Res.own (.slice av nv cv) 3 1 (intRows (grpL H ms (k : Int))), .blk b18 (.cells (enc (findC H.Cores r).1).toArray 53), btwP bb H a1 n1 c1 a2 n2 c2 a3 n3 c3 a4 n4 c4 a5 n5 c5, .blk b8 (.cells #[.int .i64 0, .slice none 0 0] 32), .blk b4 (.cells #[.string H.Name, .slice a1 n1 c1, .slice a2 n2 c2, .slice a3 n3 c3, .slice a4 n4 c4, .slice a5 n5 c5] 28)] ++ (adjM bg lg :: ((restL lg (k : Int)).map (chO (grpL H ms)) ++ S)))))) w := hw
        rw [← intRows_app] at hw
        have hw := adjP_set hnl hl0 (S := ([Res.own (.slice av nv cv) 3 1 (intRows (grpL H ms (k : Int))), .blk b18 (.cells (enc (findC H.Cores r).1).toArray 53), btwP bb H a1 n1 c1 a2 n2 c2 a3 n3 c3 a4 n4 c4 a5 n5 c5, .blk b8 (.cells #[.int .i64 0, .slice none 0 0] 32), .blk b4 (.cells #[.string H.Name, .slice a1 n1 c1, .slice a2 n2 c2, .slice a3 n3 c3, .slice a4 n4 c4, .slice a5 n5 c5] 28)] ++ (adjM bg lg :: ((restL lg (k : Int)).map (chO (grpL H ms)) ++ S))) ++ [plB pb bb cost bc]) (hw.perm byPM)
        generalize g 157 = gg at hw
        clear hz hm0
        have hN2 : addI N (fwdL H (grpL H ms (k : Int))) [y] = addI N0 (fwdL H (grpL H ms (k : Int))) (((grpL H ms (k : Int)).take (j + 1)).filter fun y => decide (y ≠ fwdL H (grpL H ms (k : Int)))) := by
          rw [hN, addI_addI, take_succ_of hy, List.filter_append, List.filter_cons_of_pos (by simpa using h2)]; rfl
        repeat (first | refine byW ?_ | (refine byV ?_; intro w hw))
        exact ⟨μ2 - 1, by omega, j + 1, _, by omega, hN2, ⟨rfl, rfl, rfl, rfl, rfl, rfl, rfl, rfl, rfl, rfl, rfl, rfl, trivial⟩, hw⟩
      · have h2 : y = fwdL H (grpL H ms (k : Int)) := by simpa using h2
        have hw := hw.ps [1]
        have hN2 : N = addI N0 (fwdL H (grpL H ms (k : Int))) (((grpL H ms (k : Int)).take (j + 1)).filter fun y => decide (y ≠ fwdL H (grpL H ms (k : Int)))) := by
          rw [hN, take_succ_of hy, List.filter_append, List.filter_cons_of_neg (by simpa using h2), List.filter_nil, List.append_nil]
        repeat (first | refine byW ?_ | (refine byV ?_; intro w hw))
        exact ⟨μ2 - 1, by omega, j + 1, N, by omega, hN2, ⟨rfl, rfl, rfl, rfl, rfl, rfl, rfl, rfl, rfl, rfl, rfl, rfl, trivial⟩, hw⟩
    · have hjn : ¬ j < nv := by have := of_decide_eq_false h; omega
      rw [List.take_of_length_le (by omega)] at hN
      have hN2 : N = chK H r ms (k + 1) := by rw [hN, chK_succ hrm, if_neg hcase, hN0]
      have hw := hend hN2 hw
      repeat (first | refine byW ?_ | (refine byV ?_; intro w hw))
      exact ⟨μ - 1, by omega, k + 1, by omega, ⟨rfl, rfl, rfl, rfl, rfl, rfl, rfl, rfl, trivial⟩, hw⟩
  have hkn : ¬ k < 64 := by have := of_decide_eq_false h; omega
  have hk64 : k = 64 := by omega
  subst hk64
  clear h hkn hk
  have hw : Wd Γ (AdjP bc (chP H r ms) :: .blk b18 (.cells (enc (findC H.Cores r).1).toArray 53) :: plB pb bb cost bc :: btwP bb H a1 n1 c1 a2 n2 c2 a3 n3 c3 a4 n4 c4 a5 n5 c5 :: AdjP bg (grpL H ms) :: ([.blk b8 (.cells #[.int .i64 0, .slice none 0 0] 32), .blk b4 (.cells #[.string H.Name, .slice a1 n1 c1, .slice a2 n2 c2, .slice a3 n3 c3, .slice a4 n4 c4, .slice a5 n5 c5] 28)] ++ S)) w := hw.ps [2]
  unfold AdjP at hw
  obtain ⟨l, ⟨hnl, hl0⟩, hw⟩ := Wd.unpack hw
  have hrch : ∀ a, Rch (chP H r ms) r a → (findC H.Cores a).2 = true := fun a ha => by
    rcases chP_rch ha with rfl | h
    · exact hknr
    · exact hknm a h
  repeat (first | refine byW ?_ | (refine byV ?_; intro w hw))
  refine lCall ((height_any (hhw := hhw') (core := r) (k := 3) hv hc hnl hl0 (fun x => Nat.le_trans chK_len hms) (chP_dep hrm) (by omega) hrch (cur := chP H r ms) (S := .blk b18 (.cells (enc (findC H.Cores r).1).toArray 53) :: AdjP bg (grpL H ms) :: ([.blk b8 (.cells #[.int .i64 0, .slice none 0 0] 32), .blk b4 (.cells #[.string H.Name, .slice a1 n1 c1, .slice a2 n2 c2, .slice a3 n3 c3, .slice a4 n4 c4, .slice a5 n5 c5] 28)] ++ S)) (fun _ _ => .refl _) (by unfold AdjP; exact hw.perm byPM)).mono fun e w hq => ?_)
  obtain ⟨rfl, hw⟩ := hq
  refine ⟨_, rfl, ?_⟩
  generalize hN' : upS (farI H) cost (chP H r ms) (Rch (chP H r ms) r) (chP H r ms) = N' at hw
  have hNs : ∀ a, Rch (chP H r ms) r a → N' a = srt (farI H) cost (chP H r ms) a := fun a ha => by rw [← hN']; exact upS_in ha
  have hw : Wd Γ (AdjP bc N' :: plB pb bb cost bc :: .blk b8 (.cells #[.int .i64 0, .slice none 0 0] 32) :: S) w := by
    have hw : Wd Γ ((adjM bc l :: l.map (chO N')) ++ (plB pb bb cost bc :: .blk b8 (.cells #[.int .i64 0, .slice none 0 0] 32) :: S)) w := by
      have h2 : Wd Γ ([btwP bb H a1 n1 c1 a2 n2 c2 a3 n3 c3 a4 n4 c4 a5 n5 c5, .blk b18 (.cells (enc (findC H.Cores r).1).toArray 53), AdjP bg (grpL H ms), .blk b4 (.cells #[.string H.Name, .slice a1 n1 c1, .slice a2 n2 c2, .slice a3 n3 c3, .slice a4 n4 c4, .slice a5 n5 c5] 28)] ++ ((adjM bc l :: l.map (chO N')) ++ (plB pb bb cost bc :: .blk b8 (.cells #[.int .i64 0, .slice none 0 0] 32) :: S))) w := hw.perm byPM
      exact h2.drop.drop.drop.drop
    have := Wd.pack (φ := fun l : List (Int × Value) => (l.map (·.1)).Nodup ∧ ∀ x, aGet l x = none → N' x = []) (R := fun l => adjM bc l :: l.map (chO N')) l ⟨hnl, fun x hx => ?_⟩ hw
    · unfold AdjP; exact this
    · rw [← hN']
      have := upS_perm (far := farI H) (cost := cost) (ch := chP H r ms) (D := Rch (chP H r ms) r) (cur := chP H r ms) (x := x) (.refl _)
      rw [hl0 x hx] at this
      exact this.eq_nil
  have hslen : (srt (farI H) cost (chP H r ms) r).length ≤ 1000 := by rw [(srt_perm r).length_eq]; exact Nat.le_trans chK_len hms
  repeat (first | refine byW ?_ | (refine byV ?_; intro w hw))
  refine lAlloc ?_
  intro b25 w hw
  refine lStore ?_
  intro w hw
  have hw : Wd Γ (.blk b25 (.cells #[.int .i64 r, .slice none 0 0] 32) :: AdjP bc N' :: plB pb bb cost bc :: .blk b8 (.cells #[.int .i64 0, .slice none 0 0] 32) :: S) w := hw
  repeat (first | refine byW ?_ | (refine byV ?_; intro w hw))
  refine lBuildSlice [[.int .i64 r]] ?_
  intro ar w hw
  obtain ⟨l2, v2, hnl2, hl20, hz2, hw⟩ := adjP_open r (hw.ps [2])
  rw [hNs r (.refl r)] at hw
  obtain ⟨a2v, c2v, rfl, hnc2, hcc2⟩ := ints_len hw (i := 1) rfl
  have hw : Wd Γ (.own (.slice (some ar) 1 1) 3 1 (intRows [r]) :: adjM bc l2 :: .own (.slice a2v (srt (farI H) cost (chP H r ms) r).length c2v) 3 1 (intRows (srt (farI H) cost (chP H r ms) r)) :: plB pb bb cost bc :: ((restL l2 r).map (chO N') ++ (.blk b25 (.cells #[.int .i64 r, .slice none 0 0] 32) :: .blk b8 (.cells #[.int .i64 0, .slice none 0 0] 32) :: S))) w := hw.perm byPM
  generalize hL : srt (farI H) cost (chP H r ms) r = L at *
  repeat (first | refine byW ?_ | (refine byV ?_; intro w hw))
  refine lY (v := .slice a2v L.length c2v) ?_ (hy := y_lookupZ hw hz2 (i := 1) rfl rfl rfl)
  repeat (first | refine byW ?_ | (refine byV ?_; intro w hw))
  refine lApp (i := 0) (rows2 := intRows L) ?_ (hw.own_rd (i := 2) rfl) rfl rfl hw rfl (ints1 _) (by simp [intRows])
  intro v' w hw
  have hw : Wd Γ (.own v' 3 1 (intRows (r :: L)) :: adjM bc l2 :: .own (.slice a2v L.length c2v) 3 1 (intRows L) :: plB pb bb cost bc :: ((restL l2 r).map (chO N') ++ (.blk b25 (.cells #[.int .i64 r, .slice none 0 0] 32) :: .blk b8 (.cells #[.int .i64 0, .slice none 0 0] 32) :: S))) w := hw
  have hw := adjP_close (N := N') hnl2 hl20 hz2 (S := .own v' 3 1 (intRows (r :: L)) :: plB pb bb cost bc :: (.blk b25 (.cells #[.int .i64 r, .slice none 0 0] 32) :: .blk b8 (.cells #[.int .i64 0, .slice none 0 0] 32) :: S)) (by rw [hNs r (.refl r), hL]; exact hw.perm byPM)
  have hw := hw.ps [1]
  obtain ⟨a0, c0, rfl, hnc0, hcc0⟩ := ints_len hw (i := 0) rfl
  have hn0 : (r :: L).length ≤ 1001 := by simp; omega
  have hLs : ∀ x ∈ r :: L, Rch (chP H r ms) r x := fun x hx => by
    rcases List.mem_cons.1 hx with rfl | hx
    · exact .refl _
    · rw [← hL] at hx; exact .step ((srt_perm r).mem_iff.1 hx) (.refl x)
  generalize hRL : r :: L = RL at *
  generalize hnr : RL.length = nr at *
  have hw : Wd Γ (.own (.slice a0 nr c0) 3 1 (intRows RL) :: AdjP bc N' :: plB pb bb cost bc :: .blk b8 (.cells #[.int .i64 0, .slice none 0 0] 32) :: .blk b25 (.cells #[.int .i64 r, .slice none 0 0] 32) :: .own (.slice none 0 0) 60 2 (([] : List Pl).map plV) :: S) w := ((Wd.addNil (a := none) (E := 60) (sz := 2) hw)).perm byPM
  repeat (first | refine byW ?_ | (refine byV ?_; intro w hw))
  refine W_loop (fun μ ρ w => ∃ (i : Nat) (E : List Pl) (ve : Value), μ + i = nr ∧ E = (RL.take i).flatMap (fun f => (srt (farI H) cost (chP H r ms) f).map fun t => (f, t)) ∧ E.length ≤ i * 1000 ∧ Has ρ [(8, .pointer (some ⟨b8, 0, none⟩)), (9, .int .i64 0), (17, .pointer (some ⟨pb, 0, none⟩)), (25, .pointer (some ⟨b25, 0, none⟩)), (172, .slice a0 nr c0), (173, .int .i64 nr), (174, .int .i64 i)] ∧ Wd Γ (.own (.slice a0 nr c0) 3 1 (intRows RL) :: AdjP bc N' :: plB pb bb cost bc :: .blk b8 (.cells #[.int .i64 0, .slice none 0 0] 32) :: .blk b25 (.cells #[.int .i64 r, ve] 32) :: .own ve 60 2 (E.map plV) :: S) w) nr ⟨0, [], _, by omega, by simp, by simp, ⟨rfl, rfl, rfl, rfl, rfl, rfl, rfl, trivial⟩, hw⟩ ?_
  clear hw
  rintro μ ρ w ⟨i, E, ve, hi, hE, hEl, hρ, hw⟩
  rw [hρ.eq]
  clear hρ
  repeat (first | refine byW ?_ | (refine byV ?_; intro w hw))
  refine W_cond rfl (fun h => ?_) (fun h => ?_)
  · have hin : i < nr := by have := of_decide_eq_true h; omega
    obtain ⟨x, hx⟩ := get_lt (l := RL) (k := i) (by omega)
    have hxs := hNs x (hLs x (List.mem_of_getElem? hx))
    have hxlen : (srt (farI H) cost (chP H r ms) x).length ≤ 1000 := by rw [(srt_perm x).length_eq]; exact Nat.le_trans chK_len hms
    repeat (first | refine byW ?_ | (refine byV ?_; intro w hw))
    obtain ⟨l3, v3, hnl3, hl30, hz3, hw⟩ := adjP_open x (hw.ps [1])
    rw [hxs] at hw
    obtain ⟨a3v, c3v, rfl, hnc3, hcc3⟩ := ints_len hw (i := 1) rfl
    have hw : Wd Γ (.own (.slice a3v (srt (farI H) cost (chP H r ms) x).length c3v) 3 1 (intRows (srt (farI H) cost (chP H r ms) x)) :: .own ve 60 2 (E.map plV) :: .blk b25 (.cells #[.int .i64 r, ve] 32) :: plB pb bb cost bc :: adjM bc l3 :: .own (.slice a0 nr c0) 3 1 (intRows RL) :: .blk b8 (.cells #[.int .i64 0, .slice none 0 0] 32) :: ((restL l3 x).map (chO N') ++ S)) w := hw.perm byPM
    generalize hM : srt (farI H) cost (chP H r ms) x = M at *
    generalize hnx : M.length = nx at *
    repeat (first | refine byW ?_ | (refine byV ?_; intro w hw))
    refine lY (v := .slice a3v nx c3v) ?_ (hy := y_lookupZ hw hz3 (i := 4) rfl rfl rfl)
    repeat (first | refine byW ?_ | (refine byV ?_; intro w hw))
    refine W_loop (fun μ ρ w => ∃ (j : Nat) (ve : Value), μ + j = nx ∧ Has ρ [(8, .pointer (some ⟨b8, 0, none⟩)), (9, .int .i64 0), (17, .pointer (some ⟨pb, 0, none⟩)), (25, .pointer (some ⟨b25, 0, none⟩)), (27, .int .i64 x), (172, .slice a0 nr c0), (173, .int .i64 nr), (174, .int .i64 i), (183, .slice a3v nx c3v), (184, .int .i64 nx), (185, .int .i64 j)] ∧ Wd Γ (.own (.slice a3v nx c3v) 3 1 (intRows M) :: .own ve 60 2 ((E ++ (M.take j).map fun t => (x, t)).map plV) :: .blk b25 (.cells #[.int .i64 r, ve] 32) :: plB pb bb cost bc :: adjM bc l3 :: .own (.slice a0 nr c0) 3 1 (intRows RL) :: .blk b8 (.cells #[.int .i64 0, .slice none 0 0] 32) :: ((restL l3 x).map (chO N') ++ S)) w) nx ⟨0, ve, by omega, ⟨rfl, rfl, rfl, rfl, rfl, rfl, rfl, rfl, rfl, rfl, rfl, trivial⟩, by rw [List.take_zero, List.map_nil, List.append_nil]; exact hw⟩ ?_
    clear hw
    rintro μ2 ρ w ⟨j, ve, hj, hρ, hw⟩
    rw [hρ.eq]
    clear hρ
    repeat (first | refine byW ?_ | (refine byV ?_; intro w hw))
    refine W_cond rfl (fun h => ?_) (fun h => ?_)
    · have hjn : j < nx := by have := of_decide_eq_true h; omega
      obtain ⟨y, hy⟩ := get_lt (l := M) (k := j) (by omega)
      obtain ⟨av, nv, cv, rfl, hnv, hncv, -⟩ := hw.own_shape (i := 1) rfl
      have hnv : nv = E.length + j := by rw [hnv]; simp; omega
      repeat (first | refine byW ?_ | (refine byV ?_; intro w hw))
      refine lBuildSlice [plV (x, y)] ?_
      intro asl w hw
      have hw := hw.ps [2]
      repeat (first | refine byW ?_ | (refine byV ?_; intro w hw))
      refine lApp (i := 0) (rows2 := [plV (x, y)]) ?_ (hw.own_rd (i := 1) rfl) rfl rfl hw rfl rfl rfl
      intro v' w hw
      have hw : Wd Γ (.own v' 60 2 ((E ++ (M.take j).map fun t => (x, t)).map plV ++ [plV (x, y)]) :: .own (.slice (some asl) 1 1) 60 2 [plV (x, y)] :: .own (.slice a3v nx c3v) 3 1 (intRows M) :: .blk b25 (.cells #[.int .i64 r, .slice av nv cv] 32) :: plB pb bb cost bc :: adjM bc l3 :: .own (.slice a0 nr c0) 3 1 (intRows RL) :: .blk b8 (.cells #[.int .i64 0, .slice none 0 0] 32) :: ((restL l3 x).map (chO N') ++ S)) w := hw
      obtain ⟨av2, nv2, cv2, rfl, -⟩ := hw.own_shape (i := 0) rfl
      repeat (first | refine byW ?_ | (refine byV ?_; intro w hw))
      refine lStore ?_
      intro w hw
      have hw : Wd Γ (.own (.slice (some asl) 1 1) 60 2 [plV (x, y)] :: .own (.slice a3v nx c3v) 3 1 (intRows M) :: .own (.slice av2 nv2 cv2) 60 2 ((E ++ (M.take j).map fun t => (x, t)).map plV ++ [plV (x, y)]) :: .blk b25 (.cells #[.int .i64 r, .slice av2 nv2 cv2] 32) :: plB pb bb cost bc :: adjM bc l3 :: .own (.slice a0 nr c0) 3 1 (intRows RL) :: .blk b8 (.cells #[.int .i64 0, .slice none 0 0] 32) :: ((restL l3 x).map (chO N') ++ S)) w := hw.ps [2, 2]
      have hw := hw.drop
      have e : (E ++ (M.take j).map fun t => (x, t)).map plV ++ [plV (x, y)] = (E ++ (M.take (j + 1)).map fun t => (x, t)).map plV := by
        rw [take_succ_of hy]; simp
      rw [e] at hw
      repeat (first | refine byW ?_ | (refine byV ?_; intro w hw))
      exact ⟨μ2 - 1, by omega, j + 1, _, by omega, ⟨rfl, rfl, rfl, rfl, rfl, rfl, rfl, rfl, rfl, rfl, rfl, trivial⟩, hw⟩
    · have hjn : ¬ j < nx := by have := of_decide_eq_false h; omega
      rw [List.take_of_length_le (by omega)] at hw
      have hw := adjP_close (N := N') hnl3 hl30 hz3 (S := .own ve 60 2 ((E ++ M.map fun t => (x, t)).map plV) :: .blk b25 (.cells #[.int .i64 r, ve] 32) :: plB pb bb cost bc :: .own (.slice a0 nr c0) 3 1 (intRows RL) :: .blk b8 (.cells #[.int .i64 0, .slice none 0 0] 32) :: S) (by rw [hxs]; exact hw.perm byPM)
      have hw : Wd Γ (.own (.slice a0 nr c0) 3 1 (intRows RL) :: AdjP bc N' :: plB pb bb cost bc :: .blk b8 (.cells #[.int .i64 0, .slice none 0 0] 32) :: .blk b25 (.cells #[.int .i64 r, ve] 32) :: .own ve 60 2 ((E ++ M.map fun t => (x, t)).map plV) :: S) w := hw.perm byPM
      repeat (first | refine byW ?_ | (refine byV ?_; intro w hw))
      refine ⟨μ - 1, by omega, i + 1, _, ve, by omega, ?_, ?_, ⟨rfl, rfl, rfl, rfl, rfl, rfl, rfl, trivial⟩, hw⟩
      · rw [take_succ_of hx, List.flatMap_append, ← hE]; simp [hM]
      · simp only [List.length_append, List.length_map]; omega
  · have hin : ¬ i < nr := by have := of_decide_eq_false h; omega
    rw [List.take_of_length_le (by omega)] at hE
    have hE : E = planE H r ms cost := by rw [hE, ← hRL]; unfold planE; rw [hL]
    rw [hE] at hw
    obtain ⟨av, nv, cv, rfl, -⟩ := hw.own_shape (i := 5) rfl
    have hw := hw.ps [5, 5]
    repeat (first | refine byW ?_ | (refine byV ?_; intro w hw))
    refine lStore ?_
    intro w hw
    have hw : Wd Γ (.own (.slice av nv cv) 60 2 ((planE H r ms cost).map plV) :: .blk b8 (.cells #[.int .i64 r, .slice av nv cv] 32) :: S) w := hw.ds [0, 1, 1, 1]
    repeat (first | refine byW ?_ | (refine byV ?_; intro w hw))
    exact ⟨[_, _], ⟨resC (i := 1) hw rfl rfl rfl, rfl, trivial⟩, _, rfl, hw.ds [1]⟩
end Go.Proofs.YteiijmclobggjaaGreat
end
/- The reference's SameInts and Equal (printed by a program). -/
section
open Go Mk
namespace Go.Proofs.YteiijmclobggjaaGreat
set_option maxHeartbeats 16000000
attribute [local irreducible] Calls
instance pg_SameInts {Γ : Gho} {v v2 : Value} {xs ys : List Int} [hr : SlC Γ v 1 (intRows xs)] [hr2 : SlC Γ v2 1 (intRows ys)] : PG Tryz.prog Γ 18 [v, v2] (.bool (decide (xs = ys))) := ⟨fun S w hw => by
  have hr := hr.h
  have hr2 := hr2.h
  obtain ⟨a, n, c, rfl, hn, hnc, hc⟩ := hr.shape
  obtain ⟨a', n', c', rfl, hn', hnc', hc'⟩ := hr2.shape
  simp only [intRows, List.length_map] at hn hn'
  refine calls_of_W Tryz.func18 rfl rfl ?_
  repeat (first | refine byW ?_ | (refine byV ?_; intro w hw))
  refine W_cond rfl (fun h => ?_) (fun h => ?_)
  · have h : n ≠ n' := by simp at h; omega
    repeat (first | refine byW ?_ | (refine byV ?_; intro w hw))
    exact ⟨_, rfl, ret_b rfl (decide_eq_false fun e => h (by rw [hn, hn', e])).symm, hw⟩
  have h : n = n' := by simp at h; omega
  repeat (first | refine byW ?_ | (refine byV ?_; intro w hw))
  refine W_loop (fun μ ρ w => ∃ (k : Nat), μ + k = n ∧ Has ρ [(0, .slice a n c), (1, .slice a' n' c'), (5, .int .i64 k)] ∧ (∀ (i : Nat) (x y : Int), i < k → xs[i]? = some x → ys[i]? = some y → x = y) ∧ Wd Γ S w) n ⟨0, by omega, ⟨rfl, rfl, rfl, trivial⟩, fun i x y hi => absurd hi (Nat.not_lt_zero i), hw⟩ ?_
  clear hw
  rintro μ ρ w ⟨k, hk, hρ, hall, hw⟩
  rw [hρ.eq]
  repeat (first | refine byW ?_ | (refine byV ?_; intro w hw))
  refine W_cond rfl (fun h2 => ?_) (fun h2 => ?_)
  · have hkn : k < n := by simpa using h2
    obtain ⟨x, hx⟩ := get_lt (l := xs) (k := k) (by omega)
    obtain ⟨y, hy⟩ := get_lt (l := ys) (k := k) (by omega)
    repeat (first | refine byW ?_ | (refine byV ?_; intro w hw))
    refine W_quiet (by kernel_rfl) (by kernel_rfl) hw ?_
    repeat (first | refine Q_nil ?_ | (apply Q_plain; first | (apply Q_go; first | refine qP ?_ | refine qPg ?_) | refine qY ?_) | (apply Q_guarded; first | (apply Q_go; first | refine qPG ?_ | refine qPgG ?_) | refine qG ?_))
    intro w hw
    refine W_cond rfl (fun h3 => ?_) (fun h3 => ?_)
    · have h3 : x ≠ y := of_decide_eq_true h3
      repeat (first | refine byW ?_ | (refine byV ?_; intro w hw))
      exact ⟨_, rfl, ret_b rfl (decide_eq_false fun e => h3 (by subst e; rw [hx] at hy; cases hy; rfl)).symm, hw⟩
    · have h3 : x = y := Classical.not_not.1 (of_decide_eq_false h3)
      repeat (first | refine byW ?_ | (refine byV ?_; intro w hw))
      exact ⟨μ - 1, by omega, k + 1, by omega, ⟨rfl, rfl, rfl, trivial⟩, eq_step hall hx hy h3, hw⟩
  · have hkn : ¬ k < n := by simpa using h2
    repeat (first | refine byW ?_ | (refine byV ?_; intro w hw))
    exact ⟨_, rfl, ret_b rfl (decide_eq_true (eq_of_all (by omega) (by omega) hall)).symm, hw⟩⟩
end Go.Proofs.YteiijmclobggjaaGreat
end
/- The chapter's sanity check, walked. -/
section
open Go Mk
namespace Go.Proofs.YteiijmclobggjaaGreat
set_option maxHeartbeats 16000000
attribute [local irreducible] Calls
instance shortL_one {α : Type} {x : α} : ShortL [x] := ⟨by simp⟩
theorem awake_core {Γ : Gho} {w : World} (hw : Wd Γ [] w) : Calls Tryz.prog 9 #[] w fun e w' => ∃ Γ', Γ.le Γ' ∧ e = .returned (.bool true) ∧ Wd Γ' [] w' := by
  refine calls_of_W Tryz.func9 rfl rfl ?_
  repeat (first | refine byW ?_ | (refine byV ?_; intro w hw))
  refine lBuildSlice (awH.Cores.map enc) ?_
  intro a1 w hw
  repeat (first | refine byW ?_ | (refine byV ?_; intro w hw))
  refine lBuildSlice (awH.Links.map enc) ?_
  intro a3 w hw
  have hw : Wd Γ (.own (.slice (some a3) 2 2) 56 3 (awH.Links.map enc) :: .own (.slice (some a1) 2 2) 53 4 (awH.Cores.map enc) :: []) w := hw
  obtain ⟨Γ1, e1, r3, hw⟩ := hw.freeze
  obtain ⟨Γ2, e2, r1, hw⟩ := hw.freeze
  have hR : HwR Γ2 (.agg #[.string awH.Name, .slice (some a1) 2 2, .slice none 0 0, .slice (some a3) 2 2, .slice none 0 0, .slice none 0 0]) awH :=
    ⟨_, _, _, _, _, _, _, _, _, _, _, _, _, _, _, [], rfl, rfl, (by simp), aw_sz, r1, .nil, r3.mono e2, .nil, .nil⟩
  repeat (first | refine byW ?_ | (refine byV ?_; intro w hw))
  refine lAlloc ?_
  intro b1 w hw
  refine lStore ?_
  intro w hw
  have hw : Wd Γ2 (.blk b1 (.cells #[.string awH.Name, .slice (some a1) 2 2, .slice none 0 0, .slice (some a3) 2 2, .slice none 0 0, .slice none 0 0] 28) :: []) w := hw
  have hd := aw_dist
  repeat (first | refine byW ?_ | (refine byV ?_; intro w hw))
  refine lCall ((Path_any (hh := hR) 0 2 hw).mono fun e w hq => ?_)
  obtain ⟨vp, p, err, rfl, hp, hw⟩ := hq
  obtain ⟨rfl, rfl⟩ := aw_path hp
  refine ⟨_, rfl, ?_⟩
  obtain ⟨ap, np, cp, rfl, hnp, -⟩ := hw.own_shape (i := 0) rfl
  obtain ⟨Γ3, e3, r4, hw⟩ := hw.freeze
  haveI hR3 := hR.mono e3
  repeat (first | refine byW ?_ | (refine byV ?_; intro w hw))
  refine lBuildSlice (intRows [1]) ?_
  intro a5 w hw
  obtain ⟨Γ4, e4, r5, hw⟩ := hw.freeze
  haveI hR4 := hR3.mono e4
  repeat (first | refine byW ?_ | (refine byV ?_; intro w hw))
  haveI hs5 : SlC Γ4 (.slice (some a5) 1 1) 1 (intRows [1]) := ⟨r5⟩
  refine lCall ((plan_any (hhw := hR4) (hr := hs5) 0 3 hw).mono fun e w hq => ?_)
  obtain ⟨vo, rfl, hw⟩ := hq
  rw [aw_planS.2, aw_planS.1] at *
  refine ⟨_, rfl, ?_⟩
  obtain ⟨ao, no, co, rfl, hno, -⟩ := hw.own_shape (i := 0) rfl
  have hno : no = 1 := by simpa using hno
  subst hno
  obtain ⟨Γ5, e5, r6, hw⟩ := hw.freeze
  haveI hR5 := hR4.mono e5
  haveI hs6 : SlC Γ5 (.slice ao 1 co) 2 ([((0, 1) : Pl)].map plV) := ⟨r6⟩
  repeat (first | refine byW ?_ | (refine byV ?_; intro w hw))
  refine lAlloc ?_
  intro b6 w hw
  refine lStore ?_
  intro w hw
  have hw : Wd Γ5 (.blk b6 (.cells #[.int .i64 0, .slice ao 1 co] 32) :: .blk b1 (.cells #[.string awH.Name, .slice (some a1) 2 2, .slice none 0 0, .slice (some a3) 2 2, .slice none 0 0, .slice none 0 0] 28) :: []) w := hw
  repeat (first | refine byW ?_ | (refine byV ?_; intro w hw))
  refine L_has (l := [(4, .slice ap np cp), (5, .int .i64 0), (6, .pointer (some ⟨b6, 0, none⟩)), (7, .int .i64 0), (8, .int .i64 15), (9, .int .i64 0), (45, .bool true), (46, .slice ap np cp)]) ⟨rfl, rfl, rfl, rfl, congrArg (Value.int .i64) aw_comp.1, congrArg (Value.int .i64) aw_comp.2, val_b rfl (by rw [aw_dist]; rfl), gvT (by rw [aw_dist]; rfl) rfl, trivial⟩ fun ρ' hρ' => ?_
  rw [hρ'.eq]
  clear hρ'
  repeat (first | (first | refine W_seq ?_ | refine W_block ?_ | refine W_region ?_ | refine W_skip ?_ | refine W_ret ?_ | refine W_exit ?_) | ((first | apply L_bin | apply L_notop); first | (refine lT ?_ ?_; (first | exact rfl | exact decide_eq_true rfl | (simp; done))) | (refine lF ?_ ?_; (first | exact rfl | exact decide_eq_true rfl | (simp; done)))) | (first | refine L_nil ?_ | (apply L_plain; first | (apply L_go; first | refine lP ?_ | (refine lPg ?_; intro w hw)) | (apply L_mf; refine lMakeFunc ?_) | refine lY ?_) | (apply L_guarded; first | refine lGT ?_ | refine lGF ?_ | (apply L_go; first | refine lPG ?_ | (refine lPgG ?_; intro w hw)) | refine lG ?_)) | (refine lAlloc ?_; intro _ w hw) | (refine lBox ?_; intro _ w hw) | (refine lStore ?_; intro w hw))
  refine lBuildSlice (intRows [0, 1, 2]) ?_
  intro a7 w hw
  obtain ⟨Γ6, e6, r7, hw⟩ := hw.freeze
  haveI hs7 : SlC Γ6 (.slice (some a7) 3 3) 1 (intRows [0, 1, 2]) := ⟨r7⟩
  haveI hs8 : SlC Γ6 (.slice ap np cp) 1 (intRows [0, 1, 2]) := ⟨r4.mono (e4.trans (e5.trans e6))⟩
  haveI hC : PG Tryz.prog Γ6 18 [.slice ap np cp, .slice (some a7) 3 3] (.bool true) := by
    have := pg_SameInts (Γ := Γ6) (v := .slice ap np cp) (v2 := .slice (some a7) 3 3) (xs := [0, 1, 2]) (ys := [0, 1, 2])
    rwa [decide_eq_true rfl] at this
  repeat (first | (first | refine W_seq ?_ | refine W_block ?_ | refine W_region ?_ | refine W_skip ?_ | refine W_ret ?_ | refine W_exit ?_) | ((first | apply L_bin | apply L_notop); first | (refine lT ?_ ?_; (first | exact rfl | exact decide_eq_true rfl | (simp; done))) | (refine lF ?_ ?_; (first | exact rfl | exact decide_eq_true rfl | (simp; done)))) | (first | refine L_nil ?_ | (apply L_plain; first | (apply L_go; first | refine lP ?_ | (refine lPg ?_; intro w hw)) | (apply L_mf; refine lMakeFunc ?_) | refine lY ?_) | (apply L_guarded; first | refine lGT ?_ | refine lGF ?_ | (apply L_go; first | refine lPG ?_ | (refine lPgG ?_; intro w hw)) | refine lG ?_)) | (refine lAlloc ?_; intro _ w hw) | (refine lBox ?_; intro _ w hw) | (refine lStore ?_; intro w hw))
  exact ⟨_, rfl, Γ6, e1.trans (e2.trans (e3.trans (e4.trans (e5.trans e6)))), rfl, hw.ds [0, 0]⟩
instance pg_awake {Γ : Gho} : PG Tryz.prog Γ 9 [] (.bool true) := ⟨fun S w hw =>
  (awake_core (allG_wd w)).mono fun e w' ⟨Γ', hle, he, hw'⟩ => ⟨he, wd_kept hw (wd_less hle hw')⟩⟩
end Go.Proofs.YteiijmclobggjaaGreat
end
/- The descriptions made of numbers are valid: nesting; and Validate says so. -/
section
open Go Mk
namespace Go.Proofs.YteiijmclobggjaaGreat
set_option maxHeartbeats 4000000
attribute [local irreducible] Calls
theorem memI_iff {x : Int} {l : List Int} : memI x l = true ↔ x ∈ l := by
  unfold memI
  rw [List.any_eq_true]
  exact ⟨fun ⟨y, hy, he⟩ => by rw [of_decide_eq_true he]; exact hy, fun h => ⟨x, h, decide_eq_true rfl⟩⟩
theorem shared_all {a b : List Int} (h : ∀ x ∈ a, x ∈ b) : sharedN a b = a.length := by
  unfold sharedN
  rw [List.filter_eq_self.2 fun x hx => memI_iff.2 (h x hx)]
theorem shared_none {a b : List Int} (h : ∀ x ∈ a, x ∉ b) : sharedN a b = 0 := by
  unfold sharedN
  rw [List.filter_eq_nil_iff.2 fun x hx => by rw [memI_iff]; exact h x hx]; rfl
theorem sortedP.part {l : List Int} (h : sortedP l) (a b : Nat) : sortedP ((l.drop a).take b) := fun i x y hx hy => by
  rw [List.getElem?_take] at hx hy
  split at hx
  · split at hy
    · rw [List.getElem?_drop] at hx hy
      exact h (a + i) x y hx (by rw [show a + i + 1 = a + (i + 1) by omega]; exact hy)
    · cases hy
  · cases hx
theorem part_at {l : List Int} {t m : Nat} (hm : m ≤ 2) {x : Int} (h : x ∈ (l.drop (2 * t)).take m) : ∃ j, j / 2 = t ∧ l[j]? = some x := by
  obtain ⟨i, hi, he⟩ := mem_get h
  rw [List.getElem?_take] at he
  split at he
  · rw [List.getElem?_drop] at he
    exact ⟨2 * t + i, by omega, he⟩
  · cases he
section
variable {H : HwT} {nodes sh first irq : Int}
theorem cacheK_pair {ids : List Int} (hn : ids.Nodup) {c d : CacheT} {p q : Nat × Nat} (h : CacheK ids c p) (k : CacheK ids d q) (hne : p ≠ q) (hl : ¬ d.Level < c.Level) : sharedN c.Cores d.Cores = 0 ∨ (c.Level ≠ d.Level ∧ sharedN c.Cores d.Cores = c.Cores.length) := by
  have apart : ∀ {t s m n : Nat}, t ≠ s → m ≤ 2 → n ≤ 2 → sharedN ((ids.drop (2 * t)).take m) ((ids.drop (2 * s)).take n) = 0 := fun hts hm hn2 => shared_none fun x hx hx2 => by
    obtain ⟨i, hi, hi2⟩ := part_at hm hx
    obtain ⟨j, hj, hj2⟩ := part_at hn2 hx2
    have := nodup_get hn hi2 hj2
    omega
  cases h with
  | all => cases k with
    | all => exact absurd rfl hne
    | pair => exact absurd (by dsimp only; omega) hl
    | own => exact absurd (by dsimp only; omega) hl
  | pair h1 h2 => cases k with
    | all => exact .inr ⟨by dsimp only; omega, shared_all fun x hx => List.mem_of_mem_drop (List.mem_of_mem_take hx)⟩
    | pair h3 h4 => exact .inl (apart (fun e => hne (by rw [e])) (by omega) (by omega))
    | own => exact absurd (by dsimp only; omega) hl
  | own h1 h2 => cases k with
    | all => exact .inr ⟨by dsimp only; omega, shared_all fun x hx => List.mem_of_mem_drop (List.mem_of_mem_take hx)⟩
    | @pair s h3 h4 =>
      rename_i t
      by_cases e : t = s
      · subst e
        refine .inr ⟨by dsimp only; omega, shared_all fun x hx => ?_⟩
        exact (List.take_sublist_take_left (by omega)).subset hx
      · exact .inl (apart e (by omega) (by omega))
    | own h3 h4 => exact .inl (apart (fun e => hne (by rw [e])) (by omega) (by omega))
theorem cacheK_sorted {ids : List Int} (hs : sortedP ids) {c : CacheT} {p : Nat × Nat} (h : CacheK ids c p) : sortedP c.Cores := by
  cases h with
  | all => exact hs
  | pair => exact hs.part _ _
  | own => exact hs.part _ _
theorem gen_hier (g : Gen H nodes sh first irq) : hierB H = true := by
  obtain ⟨k, T, hT, hk, hc⟩ := g.ca
  have hids : (bsort ltI (H.Cores.map (·.ID))).Nodup := (bsort_perm _).nodup_iff.2 (ids_nodup g)
  refine decP_t ⟨fun c hcm => ?_, fun i j a b ha hb => ?_⟩
  · rw [hc] at hcm
    obtain ⟨p, hp, rfl⟩ := List.mem_map.1 hcm
    exact cacheK_sorted sortI (cacheK hT hk hp)
  · rw [hc] at ha hb
    obtain ⟨p, hp, rfl⟩ := map_get ha
    obtain ⟨q, hq, rfl⟩ := map_get hb
    unfold pairB
    by_cases e : i = j
    · simp [e]
    · have hne : p ≠ q := fun h => e (by subst h; exact nodup_get hT.1 hp hq)
      by_cases hl : (cacheG (bsort ltI (H.Cores.map (·.ID))) q).Level < (cacheG (bsort ltI (H.Cores.map (·.ID))) p).Level
      · simp [hl]
      · rcases cacheK_pair hids (cacheK hT hk (List.mem_of_getElem? hp)) (cacheK hT hk (List.mem_of_getElem? hq)) hne hl with h | ⟨h1, h2⟩
        · rw [h]; simp
        · rw [h2]; simp [h1]
/-- A description made of numbers is valid. -/
theorem gen_valid (g : Gen H nodes sh first irq) : validS H = 0 := by
  simp [validS, gen_names g, gen_counts g, gen_cores g, gen_regions g, gen_align g, gen_unique g, gen_known g, gen_hier g, gen_disj g, gen_conn g]
theorem name_small {s : ByteArray} (h : nameS s = true) : s.size ≤ maxS := by
  unfold nameS at h
  simp only [Bool.and_eq_true, decide_eq_true_eq] at h
  unfold maxS
  omega
theorem names_sz {H : HwT} (h : namesB H = true) : HwSz H := by
  unfold namesB headB at h
  simp only [Bool.and_eq_true, List.all_eq_true, decide_eq_true_eq] at h
  obtain ⟨⟨⟨⟨⟨-, h0⟩, -⟩, h1⟩, h2⟩, h3⟩ := h
  exact ⟨by unfold maxS; omega, fun c hc => name_small (h1 c hc), fun c hc => name_small (h2 c hc), fun c hc => name_small (h3 c hc)⟩
theorem gen_sz (g : Gen H nodes sh first irq) : HwSz H := names_sz (gen_names g)
end
end Go.Proofs.YteiijmclobggjaaGreat
end
/- Sums along a path; what Distance and Path answer for cores of a valid description. -/
section
open Go Mk
namespace Go.Proofs.YteiijmclobggjaaGreat

theorem lats_ok {ls : List LinkT} (h : LinksOk ls) : ∀ l ∈ ls, 0 ≤ l.Latency ∧ l.Latency ≤ 1000000 := fun l hl => by
  have := h.2 l hl; omega

/-! ### cores of a valid description -/
theorem valid_keys {H : HwT} (h : validS H = 0) : (H.Links.map linkKey).Nodup := by
  obtain ⟨-, -, -, -, h5, -⟩ := valid_all h
  unfold uniqueB at h5
  simp only [Bool.and_eq_true, decide_eq_true_eq] at h5
  exact h5.2.2
end Go.Proofs.YteiijmclobggjaaGreat
end
