/- Texts of this proof, one behind another. -/
import Derived.Test.YtbngpfbjjklnbaaGreatDoorM5
import Derived.Test.YtbngpfbjjklnbaaGreatDoorM3
import Derived.Test.YtbngpfbjjklnbaaGreatDoorM2
import Derived.Test.YtbngpfbjjklnbaaGreatDoorM4
set_option linter.unusedVariables false
set_option linter.unusedSimpArgs false
/- The reference's Normalize, walked (printed by gen_rn1.py). -/
section
open Go Mk
namespace Go.Proofs.YtbngpfbjjklnbaaGreatDoor
set_option maxHeartbeats 64000000
attribute [local irreducible] Calls
theorem cI_ltD {a b : Int} : decide (cI a b < 0) = decide (a < b) := by
  unfold cI
  by_cases h : a < b
  · simp [h]
  · by_cases h2 : b < a
    · simp [h, h2]
    · simp [h, h2]
theorem lt_CoreT (x y : CoreT) : (ltC cCore) x y = decide (x.ID < y.ID) := cI_ltD
theorem lt_MemT (x y : MemT) : (ltC cMem) x y = decide (x.Base < y.Base) := cI_ltD
theorem lt_DevT (x y : DevT) : (ltC cDev) x y = decide (x.IRQ < y.IRQ) := cI_ltD
theorem lt_LinkT (x y : LinkT) : (ltC cLink) x y = (decide (x.A < y.A) || (decide (x.A = y.A) && decide (x.B < y.B))) := by
  unfold ltC cLink orI cI
  by_cases h : x.A < y.A
  · simp [h]
  · by_cases h2 : y.A < x.A
    · have h3 : ¬ x.A = y.A := by omega
      simp [h, h2, h3]
    · have h3 : x.A = y.A := by omega
      by_cases h4 : x.B < y.B
      · simp [h3, h4]
      · by_cases h5 : y.B < x.B
        · simp [h3, h4, h5]
        · simp [h3, h4, h5]
theorem lt_CacheH (x y : CacheH) : (ltC cCache) x y = (decide (x.Level < y.Level) || (decide (x.Level = y.Level) && bLt x.Name y.Name)) := by
  unfold ltC cCache orI cI cB
  by_cases h : x.Level < y.Level
  · simp [h]
  · by_cases h2 : y.Level < x.Level
    · have h3 : ¬ x.Level = y.Level := by omega
      simp [h, h2, h3]
    · have h3 : x.Level = y.Level := by omega
      by_cases h4 : bLt x.Name y.Name = true
      · simp [h3, h4]
      · by_cases h5 : bLt y.Name x.Name = true
        · simp [h3, h4, h5]
        · simp [h3, h4, h5]
set_option maxHeartbeats 2000000 in
instance pg_before {Γ : Gho} (x y : CacheH) : PG Tryz.prog Γ 40 [.agg (cC x).toArray, .agg (cC y).toArray] (.bool ((ltC cCache) x y)) := ⟨fun S w hw => by
  rw [lt_CacheH]
  refine calls_of_W Tryz.func40 rfl rfl ?_
  repeat (first | refine byW ?_ | (refine byV ?_; intro w hw))
  refine lBox ?_
  intro b1 w hw
  refine lBox ?_
  intro b2 w hw
  have hw : Wd Γ (.blk b2 (.cells (cC y).toArray 87) :: .blk b1 (.cells (cC x).toArray 87) :: S) w := hw
  repeat (first | refine byW ?_ | (refine byV ?_; intro w hw))
  exact ⟨_, rfl, rfl, hw.ds [0, 0]⟩⟩
theorem bub_eq {α : Type} {lt : α → α → Bool} : ∀ (k : Nat) (l : List α), bub lt k l = bubC lt k l
  | 0, _ => rfl
  | k + 1, l => by
    have e1 : bub lt (k + 1) l = match l[k + 1]?, l[k]? with | some x, some y => if lt x y = true then bub lt k ((l.set (k + 1) y).set k x) else l | _, _ => l := rfl
    have e2 : bubC lt (k + 1) l = match l[k + 1]?, l[k]? with | some x, some y => if lt x y then bubC lt k ((l.set (k + 1) y).set k x) else l | _, _ => l := rfl
    rw [e1, e2]
    cases l[k + 1]? with
    | none => rfl
    | some x =>
      cases l[k]? with
      | none => rfl
      | some y =>
        show (if lt x y = true then bub lt k ((l.set (k + 1) y).set k x) else l) = if lt x y = true then bubC lt k ((l.set (k + 1) y).set k x) else l
        rw [bub_eq k]
theorem bsFrom_eq {α : Type} {lt : α → α → Bool} : ∀ (f i : Nat) (l : List α), bsFrom lt f i l = isF lt f i l
  | 0, _, _ => rfl
  | f + 1, i, l => by
    show bsFrom lt f (i + 1) (bub lt i l) = isF lt f (i + 1) (bubC lt i l)
    rw [bub_eq, bsFrom_eq f]
theorem bsort_eq (l : List Int) : bsort ltI l = isort ltZ l := bsFrom_eq _ _ _
theorem canon_cells (l : LinkT) : [enc (canon l)].flatten = [Value.int .i64 (if l.B < l.A then l.B else l.A), .int .i64 (if l.A < l.B then l.B else l.A), .int .i64 l.Latency] := by
  unfold canon
  by_cases h : l.B < l.A
  · rw [if_pos h, if_pos h, if_neg (by omega)]; rfl
  · by_cases h2 : l.A < l.B
    · rw [if_neg h, if_neg h, if_pos h2]; rfl
    · have h3 : l.A = l.B := by omega
      rw [if_neg h, if_neg h, if_neg h2]
      show [Value.int .i64 l.A, .int .i64 l.B, .int .i64 l.Latency] = _
      rw [h3]
theorem isort_zero {α : Type} {lt : α → α → Bool} (l : List α) : isort lt l = isF lt l.length 0 l := by
  cases l with
  | nil => rfl
  | cons x l => rfl
theorem bubC_app {α : Type} {lt : α → α → Bool} {B : List α} : ∀ (j : Nat) (l : List α), j < l.length → bubC lt j (l ++ B) = bubC lt j l ++ B
  | 0, _, _ => rfl
  | j + 1, l, h => by
    have e1 : (l ++ B)[j + 1]? = l[j + 1]? := List.getElem?_append_left h
    have e2 : (l ++ B)[j]? = l[j]? := List.getElem?_append_left (by omega)
    unfold bubC
    rw [e1, e2]
    split
    · split
      · rw [List.set_append_left _ _ (by omega), List.set_append_left _ _ (by simp; omega), bubC_app j _ (by simp; omega)]
      · rfl
    · rfl
theorem isF_next {α : Type} {lt : α → α → Bool} {full L : List α} {n i : Nat} {x : α} (hi : i < n) (hL : L.length = i) (hx : full[i]? = some x) (hB : isort lt full = isF lt (n - i) i (L ++ full.drop i)) :
    isort lt full = isF lt (n - (i + 1)) (i + 1) (bubC lt i (L ++ [x]) ++ full.drop (i + 1)) := by
  obtain ⟨h1, h2⟩ := List.getElem?_eq_some_iff.1 hx
  rw [hB, show n - i = (n - (i + 1)) + 1 by omega, List.drop_eq_getElem_cons h1, h2]
  show isF lt (n - (i + 1)) (i + 1) (bubC lt i (L ++ x :: full.drop (i + 1))) = _
  rw [← bubC_app i (L ++ [x]) (by simp; omega), List.append_assoc]
  rfl
/-- The lists are not long. -/
structure HwLe (H : HwT) : Prop where
  c : H.Cores.length ≤ 10000
  h : H.Caches.length ≤ 10000
  l : H.Links.length ≤ 10000
  m : H.Mems.length ≤ 10000
  d : H.Devs.length ≤ 10000
  k : ∀ x ∈ H.Caches, x.Cores.length ≤ 10000
set_option maxRecDepth 8000 in
theorem RNormalize_any {Γ : Gho} {u : Value} {H : HwT} [hh : HwR Γ u H] (hl : HwLe H) {S : List Res} {w : World} (hw : Wd Γ S w) :
    Calls Tryz.prog 14 #[u] w fun e w' => ∃ (Γ' : Gho) (u' : Value), Γ.le Γ' ∧ e = .returned u' ∧ HwOut Γ' (normS H) S u' w' := by
  obtain ⟨a1, n1, c1, a2, n2, c2, a3, n3, c3, a4, n4, c4, a5, n5, c5, cs, rfl, hcs, hok, hsz, r1, r2, r3, r4, r5⟩ := hh.h
  obtain ⟨hlc, hlh, hll, hlm, hld, hlk⟩ := hl
  obtain ⟨hn1, hm1, hx1⟩ := rep_facts r1
  obtain ⟨hn2, hm2, hx2⟩ := rep_facts r2
  obtain ⟨hn3, hm3, hx3⟩ := rep_facts r3
  obtain ⟨hn4, hm4, hx4⟩ := rep_facts r4
  obtain ⟨hn5, hm5, hx5⟩ := rep_facts r5
  simp only [List.length_map] at hn1 hn2 hn3 hn4 hn5
  have hcsl : cs.length ≤ 10000 := by rw [← hcs, List.length_map] at hlh; exact hlh
  refine calls_of_WC Tryz.func14 rfl rfl ?_
  repeat (first | refine byW ?_ | (refine byV ?_; intro w hw))
  refine lBox ?_
  intro b1 w hw
  refine lAlloc ?_
  intro b2 w hw
  repeat (first | refine byW ?_ | (refine byV ?_; intro w hw))
  refine lAlloc ?_
  intro b3 w hw
  refine lStore ?_
  intro w hw
  have hw : Wd Γ (.own (.slice none 0 0) 69 4 ([]) :: .blk b3 (.cells #[.string H.Name, .slice none 0 0, .slice none 0 0, .slice none 0 0, .slice none 0 0, .slice none 0 0] 30) :: .blk b2 (.cells #[.string ⟨#[]⟩, .slice none 0 0, .slice none 0 0, .slice none 0 0, .slice none 0 0, .slice none 0 0] 30) :: .blk b1 (hwC H a1 n1 c1 a2 n2 c2 a3 n3 c3 a4 n4 c4 a5 n5 c5) :: S) w := Wd.addNil hw
  repeat (first | refine byW ?_ | (refine byV ?_; intro w hw))
  refine lApp (i := 0) (rows2 := H.Cores.map enc) ?_ (r1.rd hw) (h1 := encs_one _) (hm := by simp; omega)
  intro v' w hw
  obtain ⟨q, m, d, rfl, hm, -, -⟩ := hw.own_shape (i := 0) rfl
  simp at hm
  repeat (first | refine byW ?_ | (refine byV ?_; intro w hw))
  refine lStore ?_
  intro w hw
  have hw : Wd Γ (.own (.slice q m d) 69 4 (H.Cores.map enc) :: .blk b3 (.cells #[.string H.Name, .slice q m d, .slice none 0 0, .slice none 0 0, .slice none 0 0, .slice none 0 0] 30) :: .blk b2 (.cells #[.string ⟨#[]⟩, .slice none 0 0, .slice none 0 0, .slice none 0 0, .slice none 0 0, .slice none 0 0] 30) :: .blk b1 (hwC H a1 n1 c1 a2 n2 c2 a3 n3 c3 a4 n4 c4 a5 n5 c5) :: S) w := hw
  repeat (first | refine byW ?_ | (refine byV ?_; intro w hw))
  refine W_loop (fun μ ρ w => ∃ (i : Nat) (Y : List CoreT), 1 ≤ i ∧ (m ≤ i + μ) ∧ Y.length = m ∧ isort (ltC cCore) H.Cores = isF (ltC cCore) (m - i) i Y ∧ Has ρ [(1, .pointer (some ⟨b1, 0, none⟩)), (2, .pointer (some ⟨b2, 0, none⟩)), (3, .pointer (some ⟨b3, 0, none⟩)), (4, .int .i64 i)] ∧ Wd Γ (.own (.slice q m d) 69 4 (Y.map enc) :: .blk b3 (.cells #[.string H.Name, .slice q m d, .slice none 0 0, .slice none 0 0, .slice none 0 0, .slice none 0 0] 30) :: .blk b2 (.cells #[.string ⟨#[]⟩, .slice none 0 0, .slice none 0 0, .slice none 0 0, .slice none 0 0, .slice none 0 0] 30) :: .blk b1 (hwC H a1 n1 c1 a2 n2 c2 a3 n3 c3 a4 n4 c4 a5 n5 c5) :: S) w) m ⟨1, H.Cores, by omega, by omega, hm.symm, by unfold isort; rw [← hm], ⟨rfl, rfl, rfl, rfl, trivial⟩, hw⟩ ?_
  clear hw
  rintro μ ρ w ⟨i, Y, hi, hμ, hY, hB, hρ, hw⟩
  rw [hρ.eq]
  clear hρ
  repeat (first | refine byW ?_ | (refine byV ?_; intro w hw))
  refine W_cond rfl (fun h => ?_) (fun h => ?_)
  · have him : i < m := by have := of_decide_eq_true h; omega
    clear h
    have hB2 : isort (ltC cCore) H.Cores = isF (ltC cCore) (m - (i + 1)) (i + 1) (bubC (ltC cCore) i Y) := by
      rw [hB, show m - i = (m - (i + 1)) + 1 by omega]; rfl
    repeat (first | refine byW ?_ | (refine byV ?_; intro w hw))
    refine W_loop (fun μ2 ρ w => ∃ (k : Nat) (Z : List CoreT), μ2 = k ∧ k ≤ i ∧ Z.length = m ∧ bubC (ltC cCore) i Y = bubC (ltC cCore) k Z ∧ Has ρ [(1, .pointer (some ⟨b1, 0, none⟩)), (2, .pointer (some ⟨b2, 0, none⟩)), (3, .pointer (some ⟨b3, 0, none⟩)), (4, .int .i64 i), (5, .int .i64 k)] ∧ Wd Γ (.own (.slice q m d) 69 4 (Z.map enc) :: .blk b3 (.cells #[.string H.Name, .slice q m d, .slice none 0 0, .slice none 0 0, .slice none 0 0, .slice none 0 0] 30) :: .blk b2 (.cells #[.string ⟨#[]⟩, .slice none 0 0, .slice none 0 0, .slice none 0 0, .slice none 0 0, .slice none 0 0] 30) :: .blk b1 (hwC H a1 n1 c1 a2 n2 c2 a3 n3 c3 a4 n4 c4 a5 n5 c5) :: S) w) i ⟨i, Y, rfl, Nat.le_refl _, hY, rfl, ⟨rfl, rfl, rfl, rfl, rfl, trivial⟩, hw⟩ ?_
    clear hw
    rintro μ2 ρ w ⟨k, Z, rfl, hk, hZ, hC, hρ, hw⟩
    rw [hρ.eq]
    clear hρ
    refine W_seq ?_
    refine W_seq ?_
    cases μ2 with
    | zero =>
      refine W_quiet (by kernel_rfl) (by kernel_rfl) hw ?_
      iterate 3 (first | refine Q_nil ?_ | (apply Q_plain; first | (apply Q_go; first | refine qP ?_ | refine qPg ?_) | refine qY ?_) | (apply Q_guarded; first | (apply Q_go; first | refine qPG ?_ | refine qPgG ?_) | refine qG ?_))
      iterate 14 (refine qG (v := .bool true) ?_ (hy := fun h => by have h2 : true = false := h.symm.trans rfl; cases h2))
      refine qY (v := .bool false) ?_ (hy := fun w hw => y_pickF rfl rfl)
      refine Q_nil ?_
      clear hw
      intro w hw
      refine W_cond rfl (fun h => by cases h) (fun _ => ?_)
      repeat (first | refine byW ?_ | (refine byV ?_; intro w hw))
      have hC : bubC (ltC cCore) i Y = Z := hC
      exact ⟨μ - 1, by omega, i + 1, Z, by omega, by omega, hZ, by rw [hB2, hC], ⟨rfl, rfl, rfl, rfl, trivial⟩, hw⟩
    | succ k =>
      obtain ⟨x, hx⟩ := get_lt (l := Z) (k := k + 1) (by omega)
      obtain ⟨y, hy⟩ := get_lt (l := Z) (k := k) (by omega)
      have e1 : (((k + 1 : Nat) : Int) - 1) = (k : Int) := by omega
      have hx' : Z[((k + 1 : Nat) : Int).toNat]? = some x := hx
      have hy' : Z[(((k + 1 : Nat) : Int) - 1).toNat]? = some y := by rw [e1]; exact hy
      refine W_quiet (by kernel_rfl) (by kernel_rfl) hw ?_
      iterate 1 (first | refine Q_nil ?_ | (apply Q_plain; first | (apply Q_go; first | refine qP ?_ | refine qPg ?_) | refine qY ?_) | (apply Q_guarded; first | (apply Q_go; first | refine qPG ?_ | refine qPgG ?_) | refine qG ?_))
      refine qT (b := decide ((0 : Int) < ((k + 1 : Nat) : Int))) (decide_eq_true (by omega)) ?_
      repeat (first | refine Q_nil ?_ | (apply Q_plain; first | (apply Q_go; first | refine qP ?_ | refine qPg ?_) | refine qY ?_) | (apply Q_guarded; first | (apply Q_go; first | refine qPG ?_ | refine qPgG ?_) | refine qG ?_))
      clear hw
      intro w hw
      refine W_cond rfl (fun h2 => ?_) (fun h2 => ?_)
      · have h2 : (ltC cCore) x y = true := by first | (rw [lt_CoreT]; simpa using h2) | simpa using h2
        have hst := bubC_step hx hy h2
        rw [hst] at hC
        clear hst
        repeat (first | refine byW ?_ | (refine byV ?_; intro w hw))
        refine lAlloc ?_
        intro bh w hw
        refine lStore ?_
        intro w hw
        have hw : Wd Γ ([.blk b3 (.cells #[.string H.Name, .slice q m d, .slice none 0 0, .slice none 0 0, .slice none 0 0, .slice none 0 0] 30)] ++ (.own (.slice q m d) 69 4 (Z.map enc) :: .blk bh (.cells (enc x).toArray 69) :: .blk b2 (.cells #[.string ⟨#[]⟩, .slice none 0 0, .slice none 0 0, .slice none 0 0, .slice none 0 0, .slice none 0 0] 30) :: .blk b1 (hwC H a1 n1 c1 a2 n2 c2 a3 n3 c3 a4 n4 c4 a5 n5 c5) :: S)) w := hw.ps [1, 2]
        repeat (first | refine byW ?_ | (refine byV ?_; intro w hw))
        refine W_mix1 [.blk b3 (.cells #[.string H.Name, .slice q m d, .slice none 0 0, .slice none 0 0, .slice none 0 0, .slice none 0 0] 30)] (.own (.slice q m d) 69 4 (Z.map enc) :: .blk bh (.cells (enc x).toArray 69) :: .blk b2 (.cells #[.string ⟨#[]⟩, .slice none 0 0, .slice none 0 0, .slice none 0 0, .slice none 0 0, .slice none 0 0] 30) :: .blk b1 (hwC H a1 n1 c1 a2 n2 c2 a3 n3 c3 a4 n4 c4 a5 n5 c5) :: S) [[],[],[],[],[],[],[],[],[],[],[0]] [[],[],[],[],[],[],[],[0],[0],[0],[0]] hw ?_
        repeat (first | refine mY ?_ | refine mP ?_ | refine mPg ?_)
        refine mStoreE (j := 0) (k := k + 1) (r := enc y) ?_
        refine mEnd fun w g hw => ?_
        have hw : Wd Γ (([.blk b3 (.cells #[.string H.Name, .slice q m d, .slice none 0 0, .slice none 0 0, .slice none 0 0, .slice none 0 0] 30)] ++ (.own (.slice q m d) 69 4 ((Z.map enc).set (k + 1) (enc y)) :: .blk bh (.cells (enc x).toArray 69) :: .blk b2 (.cells #[.string ⟨#[]⟩, .slice none 0 0, .slice none 0 0, .slice none 0 0, .slice none 0 0, .slice none 0 0] 30) :: .blk b1 (hwC H a1 n1 c1 a2 n2 c2 a3 n3 c3 a4 n4 c4 a5 n5 c5) :: S)) ++ []) w := hw
        rw [List.append_nil] at hw
        repeat (first | refine byW ?_ | (refine byV ?_; intro w hw))
        refine lStoreE (k := k) (i := 1) (r := enc x) ?_ (hx := by show Value.pointer _ = _; rw [show (((k + 1 : Nat) : Int) - 1).toNat = k by omega])
        intro w hw
        have hw : Wd Γ (.blk b3 (.cells #[.string H.Name, .slice q m d, .slice none 0 0, .slice none 0 0, .slice none 0 0, .slice none 0 0] 30) :: .own (.slice q m d) 69 4 (((Z.map enc).set (k + 1) (enc y)).set k (enc x)) :: .blk bh (.cells (enc x).toArray 69) :: .blk b2 (.cells #[.string ⟨#[]⟩, .slice none 0 0, .slice none 0 0, .slice none 0 0, .slice none 0 0, .slice none 0 0] 30) :: .blk b1 (hwC H a1 n1 c1 a2 n2 c2 a3 n3 c3 a4 n4 c4 a5 n5 c5) :: S) w := hw
        rw [← List.map_set, ← List.map_set] at hw
        have hw : Wd Γ (.own (.slice q m d) 69 4 (((Z.set (k + 1) y).set k x).map enc) :: .blk b3 (.cells #[.string H.Name, .slice q m d, .slice none 0 0, .slice none 0 0, .slice none 0 0, .slice none 0 0] 30) :: .blk b2 (.cells #[.string ⟨#[]⟩, .slice none 0 0, .slice none 0 0, .slice none 0 0, .slice none 0 0, .slice none 0 0] 30) :: .blk b1 (hwC H a1 n1 c1 a2 n2 c2 a3 n3 c3 a4 n4 c4 a5 n5 c5) :: S) w := (hw.ds [2]).ps [1]
        repeat (first | refine byW ?_ | (refine byV ?_; intro w hw))
        exact ⟨k, by omega, k, _, rfl, by omega, by simp; omega, hC, ⟨rfl, rfl, rfl, rfl, by show Value.int .i64 (((k + 1 : Nat) : Int) - 1) = _; rw [e1], trivial⟩, hw⟩
      · have h2 : (ltC cCore) x y = false := by first | (rw [lt_CoreT]; simpa using h2) | simpa using h2
        rw [bubC_stop hx hy h2] at hC
        repeat (first | refine byW ?_ | (refine byV ?_; intro w hw))
        exact ⟨μ - 1, by omega, i + 1, Z, by omega, by omega, hZ, by rw [hB2, hC], ⟨rfl, rfl, rfl, rfl, trivial⟩, hw⟩
  have him : ¬ i < m := by have := of_decide_eq_false h; omega
  clear h
  rw [show m - i = 0 by omega] at hB
  have hB : isort (ltC cCore) H.Cores = Y := hB
  rw [← hB] at hw
  clear hB hY hμ hi him
  obtain ⟨⟨p1, k1, l1⟩, hv⟩ : ∃ t : Option Addr × Nat × Nat, t = (q, m, d) := ⟨_, rfl⟩
  have hv : Value.slice q m d = Value.slice p1 k1 l1 := by cases hv; rfl
  rw [hv] at hw
  clear hv hm
  repeat (first | refine byW ?_ | (refine byV ?_; intro w hw))
  have hw : Wd Γ (.own (.slice none 0 0) 87 5 ([]) :: .blk b3 (.cells #[.string H.Name, .slice p1 k1 l1, .slice none 0 0, .slice none 0 0, .slice none 0 0, .slice none 0 0] 30) :: .blk b2 (.cells #[.string ⟨#[]⟩, .slice none 0 0, .slice none 0 0, .slice none 0 0, .slice none 0 0, .slice none 0 0] 30) :: .blk b1 (hwC H a1 n1 c1 a2 n2 c2 a3 n3 c3 a4 n4 c4 a5 n5 c5) :: .own (.slice p1 k1 l1) 69 4 ((isort (ltC cCore) H.Cores).map enc) :: S) w := Wd.addNil (hw.ps [3, 3, 3])
  repeat (first | refine byW ?_ | (refine byV ?_; intro w hw))
  refine W_loop (fun μ ρ w => ∃ (i : Nat) (Γ' : Gho) (q : Option Addr) (m d : Nat) (C : List CacheH), μ + i = n2 ∧ Γ.le Γ' ∧ C.length = i ∧ (∀ c ∈ C, COk Γ' c) ∧ isort (ltC cCacheT) (H.Caches.map sortC) = isF (ltC cCacheT) (n2 - i) i (C.map CacheH.T ++ (H.Caches.map sortC).drop i) ∧ Has ρ [(1, .pointer (some ⟨b1, 0, none⟩)), (2, .pointer (some ⟨b2, 0, none⟩)), (3, .pointer (some ⟨b3, 0, none⟩)), (7, .int .i64 i)] ∧ Wd Γ' (.own (.slice q m d) 87 5 (C.map cC) :: .blk b3 (.cells #[.string H.Name, .slice p1 k1 l1, .slice q m d, .slice none 0 0, .slice none 0 0, .slice none 0 0] 30) :: .blk b2 (.cells #[.string ⟨#[]⟩, .slice none 0 0, .slice none 0 0, .slice none 0 0, .slice none 0 0, .slice none 0 0] 30) :: .blk b1 (hwC H a1 n1 c1 a2 n2 c2 a3 n3 c3 a4 n4 c4 a5 n5 c5) :: .own (.slice p1 k1 l1) 69 4 ((isort (ltC cCore) H.Cores).map enc) :: S) w) n2 ⟨0, Γ, none, 0, 0, [], by omega, Gho.le.refl _, rfl, fun c h => by simp at h, by rw [isort_zero, ← hcs, List.length_map, List.length_map, ← hn2]; rfl, ⟨rfl, rfl, rfl, rfl, trivial⟩, hw⟩ ?_
  clear hw
  rintro μ ρ w ⟨i, Γ', q, m, d, C, hμ, g2, hCl, hCo, hB, hρ, hw⟩
  rw [hρ.eq]
  clear hρ
  have hm : m = C.length := by
    obtain ⟨q', m', d', e, hm, -, -⟩ := hw.own_shape (i := 0) rfl
    cases e
    simpa using hm
  repeat (first | refine byW ?_ | (refine byV ?_; intro w hw))
  refine W_cond rfl (fun h => ?_) (fun h => ?_)
  · have hin : i < n2 := by have := of_decide_eq_true h; omega
    clear h
    obtain ⟨c, hc⟩ := get_lt (l := cs) (k := i) (by omega)
    have hcm := List.mem_of_getElem? hc
    have hck := (hok c hcm).mono g2
    have hcl : c.Cores.length ≤ 10000 := hlk c.T (by rw [← hcs]; exact List.mem_map_of_mem hcm)
    have r2' := r2.mono g2
    repeat (first | refine byW ?_ | (refine byV ?_; intro w hw))
    refine lAlloc ?_
    intro b8 w hw
    refine lStore ?_
    intro w hw
    have hw : Wd Γ' (.blk b8 (.cells (cC c).toArray 87) :: .own (.slice q m d) 87 5 (C.map cC) :: .blk b3 (.cells #[.string H.Name, .slice p1 k1 l1, .slice q m d, .slice none 0 0, .slice none 0 0, .slice none 0 0] 30) :: .blk b2 (.cells #[.string ⟨#[]⟩, .slice none 0 0, .slice none 0 0, .slice none 0 0, .slice none 0 0, .slice none 0 0] 30) :: .blk b1 (hwC H a1 n1 c1 a2 n2 c2 a3 n3 c3 a4 n4 c4 a5 n5 c5) :: .own (.slice p1 k1 l1) 69 4 ((isort (ltC cCore) H.Cores).map enc) :: S) w := hw
    repeat (first | refine byW ?_ | (refine byV ?_; intro w hw))
    refine lCall ((SortInts_any (RepS.rdS hck) (by omega) hw).mono fun e w hq => ?_)
    clear hw
    obtain ⟨v8, rfl, hw⟩ := hq
    refine ⟨_, rfl, ?_⟩
    obtain ⟨a8, n8, c8, rfl, hn8, -, -⟩ := hw.own_shape (i := 0) rfl
    obtain ⟨Γ2, g3, r8, hw1⟩ := hw.freeze
    clear hw
    have hw := hw1
    clear hw1
    obtain ⟨c', hc'⟩ : ∃ c' : CacheH, c' = ⟨c.Name, c.Level, c.Line, c.Size, a8, n8, c8, bsort ltI c.Cores⟩ := ⟨_, rfl⟩
    repeat (first | refine byW ?_ | (refine byV ?_; intro w hw))
    refine lStore ?_
    intro w hw
    have hw : Wd Γ2 (.blk b8 (.cells #[.string c.Name, .int .i64 c.Level, .int .i64 c.Line, .int .u64 c.Size, .slice a8 n8 c8] 87) :: .own (.slice q m d) 87 5 (C.map cC) :: .blk b3 (.cells #[.string H.Name, .slice p1 k1 l1, .slice q m d, .slice none 0 0, .slice none 0 0, .slice none 0 0] 30) :: .blk b2 (.cells #[.string ⟨#[]⟩, .slice none 0 0, .slice none 0 0, .slice none 0 0, .slice none 0 0, .slice none 0 0] 30) :: .blk b1 (hwC H a1 n1 c1 a2 n2 c2 a3 n3 c3 a4 n4 c4 a5 n5 c5) :: .own (.slice p1 k1 l1) 69 4 ((isort (ltC cCore) H.Cores).map enc) :: S) w := hw
    repeat (first | refine byW ?_ | (refine byV ?_; intro w hw))
    refine lBuildSlice [cC ⟨c.Name, c.Level, c.Line, c.Size, a8, n8, c8, bsort ltI c.Cores⟩] ?_
    rw [← hc']
    intro a9 w hw
    repeat (first | refine byW ?_ | (refine byV ?_; intro w hw))
    refine lApp (i := 2) (rows2 := [cC c']) ?_ (Wd.own_rd (i := 0) hw rfl)
    intro v' w hw
    obtain ⟨q', m', d', rfl, hm', -, -⟩ := hw.own_shape (i := 2) rfl
    simp at hm'
    repeat (first | refine byW ?_ | (refine byV ?_; intro w hw))
    refine lStore ?_
    intro w hw
    obtain ⟨Y, hYe⟩ : ∃ Y, Y = C ++ [c'] := ⟨_, rfl⟩
    have hw : Wd Γ2 (.own (.slice q' m' d') 87 5 (Y.map cC) :: .blk b3 (.cells #[.string H.Name, .slice p1 k1 l1, .slice q' m' d', .slice none 0 0, .slice none 0 0, .slice none 0 0] 30) :: .blk b2 (.cells #[.string ⟨#[]⟩, .slice none 0 0, .slice none 0 0, .slice none 0 0, .slice none 0 0, .slice none 0 0] 30) :: .blk b1 (hwC H a1 n1 c1 a2 n2 c2 a3 n3 c3 a4 n4 c4 a5 n5 c5) :: .own (.slice p1 k1 l1) 69 4 ((isort (ltC cCore) H.Cores).map enc) :: S) w := by
      rw [hYe, List.map_append]
      exact hw.ds [0, 0]
    have hY : Y.length = m' := by rw [hYe, List.length_append]; simp; omega
    have hcx : (H.Caches.map sortC)[i]? = some c'.T := by
      rw [← hcs, List.getElem?_map, List.getElem?_map, hc, hc']
      unfold sortC CacheH.T
      simp only [Option.map_some]
      rw [bsort_eq]
    have hNext := isF_next (L := C.map CacheH.T) hin (by simp [hCl]) hcx hB
    rw [show C.map CacheH.T ++ [c'.T] = Y.map CacheH.T by rw [hYe, List.map_append]; rfl, ← bubC_map (f := CacheH.T) (lt := ltC cCache) (fun x y => rfl)] at hNext
    have hYo : ∀ c ∈ bubC (ltC cCache) i Y, COk Γ2 c := fun z hz => by
      rw [hYe, ← hCl] at hz
      rcases List.mem_append.1 ((bubC_perm C c' []).mem_iff.1 hz) with h | h
      · exact (hCo z h).mono g3
      · rw [List.mem_singleton.1 h, hc']
        exact r8
    have hmi : m' = i + 1 := by omega
    have g4 := g2.trans g3
    clear hYe hcx hB hCo hm hm' hck r2' r8 hc' hCl g2 g3 hc hcm hcl hn8
    repeat (first | refine byW ?_ | (refine byV ?_; intro w hw))
    refine W_loop (fun μ2 ρ w => ∃ (k : Nat) (Z : List CacheH), μ2 = k ∧ k ≤ i ∧ Z.length = m' ∧ bubC (ltC cCache) i Y = bubC (ltC cCache) k Z ∧ Has ρ [(1, .pointer (some ⟨b1, 0, none⟩)), (2, .pointer (some ⟨b2, 0, none⟩)), (3, .pointer (some ⟨b3, 0, none⟩)), (7, .int .i64 i), (9, .int .i64 k)] ∧ Wd Γ2 (.own (.slice q' m' d') 87 5 (Z.map cC) :: .blk b3 (.cells #[.string H.Name, .slice p1 k1 l1, .slice q' m' d', .slice none 0 0, .slice none 0 0, .slice none 0 0] 30) :: .blk b2 (.cells #[.string ⟨#[]⟩, .slice none 0 0, .slice none 0 0, .slice none 0 0, .slice none 0 0, .slice none 0 0] 30) :: .blk b1 (hwC H a1 n1 c1 a2 n2 c2 a3 n3 c3 a4 n4 c4 a5 n5 c5) :: .own (.slice p1 k1 l1) 69 4 ((isort (ltC cCore) H.Cores).map enc) :: S) w) i ⟨i, Y, rfl, Nat.le_refl _, hY, rfl, ⟨rfl, rfl, rfl, rfl, rfl, trivial⟩, hw⟩ ?_
    clear hw
    rintro μ2 ρ w ⟨k, Z, rfl, hk, hZ, hC, hρ, hw⟩
    rw [hρ.eq]
    clear hρ
    refine W_seq ?_
    refine W_seq ?_
    cases μ2 with
    | zero =>
      refine W_quiet (by kernel_rfl) (by kernel_rfl) hw ?_
      iterate 3 (first | refine Q_nil ?_ | (apply Q_plain; first | (apply Q_go; first | refine qP ?_ | refine qPg ?_) | refine qY ?_) | (apply Q_guarded; first | (apply Q_go; first | refine qPG ?_ | refine qPgG ?_) | refine qG ?_))
      iterate 12 (refine qG (v := .bool true) ?_ (hy := fun h => by have h2 : true = false := h.symm.trans rfl; cases h2))
      refine qY (v := .bool false) ?_ (hy := fun w hw => y_pickF rfl rfl)
      refine Q_nil ?_
      clear hw
      intro w hw
      refine W_cond rfl (fun h => by cases h) (fun _ => ?_)
      repeat (first | refine byW ?_ | (refine byV ?_; intro w hw))
      have hC : bubC (ltC cCache) i Y = Z := hC
      exact ⟨μ - 1, by omega, i + 1, Γ2, q', m', d', Z, by omega, g4, by omega, by rw [← hC]; exact hYo, by rw [← hC]; exact hNext, ⟨rfl, rfl, rfl, rfl, trivial⟩, hw⟩
    | succ k =>
      obtain ⟨x, hx⟩ := get_lt (l := Z) (k := k + 1) (by omega)
      obtain ⟨y, hy⟩ := get_lt (l := Z) (k := k) (by omega)
      have e1 : (((k + 1 : Nat) : Int) - 1) = (k : Int) := by omega
      have hx' : Z[((k + 1 : Nat) : Int).toNat]? = some x := hx
      have hy' : Z[(((k + 1 : Nat) : Int) - 1).toNat]? = some y := by rw [e1]; exact hy
      refine W_quiet (by kernel_rfl) (by kernel_rfl) hw ?_
      iterate 1 (first | refine Q_nil ?_ | (apply Q_plain; first | (apply Q_go; first | refine qP ?_ | refine qPg ?_) | refine qY ?_) | (apply Q_guarded; first | (apply Q_go; first | refine qPG ?_ | refine qPgG ?_) | refine qG ?_))
      refine qT (b := decide ((0 : Int) < ((k + 1 : Nat) : Int))) (decide_eq_true (by omega)) ?_
      repeat (first | refine Q_nil ?_ | (apply Q_plain; first | (apply Q_go; first | refine qP ?_ | refine qPg ?_) | refine qY ?_) | (apply Q_guarded; first | (apply Q_go; first | refine qPG ?_ | refine qPgG ?_) | refine qG ?_))
      clear hw
      intro w hw
      refine W_cond rfl (fun h2 => ?_) (fun h2 => ?_)
      · have h2 : (ltC cCache) x y = true := by first | (rw [lt_CacheH]; simpa using h2) | simpa using h2
        have hst := bubC_step hx hy h2
        rw [hst] at hC
        clear hst
        repeat (first | refine byW ?_ | (refine byV ?_; intro w hw))
        refine lAlloc ?_
        intro bh w hw
        refine lStore ?_
        intro w hw
        have hw : Wd Γ2 ([.blk b3 (.cells #[.string H.Name, .slice p1 k1 l1, .slice q' m' d', .slice none 0 0, .slice none 0 0, .slice none 0 0] 30)] ++ (.own (.slice q' m' d') 87 5 (Z.map cC) :: .blk bh (.cells (cC x).toArray 87) :: .blk b2 (.cells #[.string ⟨#[]⟩, .slice none 0 0, .slice none 0 0, .slice none 0 0, .slice none 0 0, .slice none 0 0] 30) :: .blk b1 (hwC H a1 n1 c1 a2 n2 c2 a3 n3 c3 a4 n4 c4 a5 n5 c5) :: .own (.slice p1 k1 l1) 69 4 ((isort (ltC cCore) H.Cores).map enc) :: S)) w := hw.ps [1, 2]
        repeat (first | refine byW ?_ | (refine byV ?_; intro w hw))
        refine W_mix1 [.blk b3 (.cells #[.string H.Name, .slice p1 k1 l1, .slice q' m' d', .slice none 0 0, .slice none 0 0, .slice none 0 0] 30)] (.own (.slice q' m' d') 87 5 (Z.map cC) :: .blk bh (.cells (cC x).toArray 87) :: .blk b2 (.cells #[.string ⟨#[]⟩, .slice none 0 0, .slice none 0 0, .slice none 0 0, .slice none 0 0, .slice none 0 0] 30) :: .blk b1 (hwC H a1 n1 c1 a2 n2 c2 a3 n3 c3 a4 n4 c4 a5 n5 c5) :: .own (.slice p1 k1 l1) 69 4 ((isort (ltC cCore) H.Cores).map enc) :: S) [[],[],[],[],[],[],[],[],[],[],[0]] [[],[],[],[],[],[],[],[0],[0],[0],[0]] hw ?_
        repeat (first | refine mY ?_ | refine mP ?_ | refine mPg ?_)
        refine mStoreE (j := 0) (k := k + 1) (r := cC y) ?_
        refine mEnd fun w g hw => ?_
        have hw : Wd Γ2 (([.blk b3 (.cells #[.string H.Name, .slice p1 k1 l1, .slice q' m' d', .slice none 0 0, .slice none 0 0, .slice none 0 0] 30)] ++ (.own (.slice q' m' d') 87 5 ((Z.map cC).set (k + 1) (cC y)) :: .blk bh (.cells (cC x).toArray 87) :: .blk b2 (.cells #[.string ⟨#[]⟩, .slice none 0 0, .slice none 0 0, .slice none 0 0, .slice none 0 0, .slice none 0 0] 30) :: .blk b1 (hwC H a1 n1 c1 a2 n2 c2 a3 n3 c3 a4 n4 c4 a5 n5 c5) :: .own (.slice p1 k1 l1) 69 4 ((isort (ltC cCore) H.Cores).map enc) :: S)) ++ []) w := hw
        rw [List.append_nil] at hw
        repeat (first | refine byW ?_ | (refine byV ?_; intro w hw))
        refine lStoreE (k := k) (i := 1) (r := cC x) ?_ (hx := by show Value.pointer _ = _; rw [show (((k + 1 : Nat) : Int) - 1).toNat = k by omega])
        intro w hw
        have hw : Wd Γ2 (.blk b3 (.cells #[.string H.Name, .slice p1 k1 l1, .slice q' m' d', .slice none 0 0, .slice none 0 0, .slice none 0 0] 30) :: .own (.slice q' m' d') 87 5 (((Z.map cC).set (k + 1) (cC y)).set k (cC x)) :: .blk bh (.cells (cC x).toArray 87) :: .blk b2 (.cells #[.string ⟨#[]⟩, .slice none 0 0, .slice none 0 0, .slice none 0 0, .slice none 0 0, .slice none 0 0] 30) :: .blk b1 (hwC H a1 n1 c1 a2 n2 c2 a3 n3 c3 a4 n4 c4 a5 n5 c5) :: .own (.slice p1 k1 l1) 69 4 ((isort (ltC cCore) H.Cores).map enc) :: S) w := hw
        rw [← List.map_set, ← List.map_set] at hw
        have hw : Wd Γ2 (.own (.slice q' m' d') 87 5 (((Z.set (k + 1) y).set k x).map cC) :: .blk b3 (.cells #[.string H.Name, .slice p1 k1 l1, .slice q' m' d', .slice none 0 0, .slice none 0 0, .slice none 0 0] 30) :: .blk b2 (.cells #[.string ⟨#[]⟩, .slice none 0 0, .slice none 0 0, .slice none 0 0, .slice none 0 0, .slice none 0 0] 30) :: .blk b1 (hwC H a1 n1 c1 a2 n2 c2 a3 n3 c3 a4 n4 c4 a5 n5 c5) :: .own (.slice p1 k1 l1) 69 4 ((isort (ltC cCore) H.Cores).map enc) :: S) w := (hw.ds [2]).ps [1]
        repeat (first | refine byW ?_ | (refine byV ?_; intro w hw))
        exact ⟨k, by omega, k, _, rfl, by omega, by simp; omega, hC, ⟨rfl, rfl, rfl, rfl, by show Value.int .i64 (((k + 1 : Nat) : Int) - 1) = _; rw [e1], trivial⟩, hw⟩
      · have h2 : (ltC cCache) x y = false := by first | (rw [lt_CacheH]; simpa using h2) | simpa using h2
        rw [bubC_stop hx hy h2] at hC
        repeat (first | refine byW ?_ | (refine byV ?_; intro w hw))
        exact ⟨μ - 1, by omega, i + 1, Γ2, q', m', d', Z, by omega, g4, by omega, by rw [← hC]; exact hYo, by rw [← hC]; exact hNext, ⟨rfl, rfl, rfl, rfl, trivial⟩, hw⟩
  have hin : n2 = i := by have := of_decide_eq_false h; omega
  clear h
  rw [hin, Nat.sub_self, List.drop_of_length_le (by rw [List.length_map, ← hcs, List.length_map]; omega), List.append_nil] at hB
  have hB2 : C.map CacheH.T = isort (ltC cCacheT) (H.Caches.map sortC) := hB.symm
  clear hB hμ hin hCl
  obtain ⟨C2, hC2⟩ : ∃ C2, C2 = C := ⟨_, rfl⟩
  rw [← hC2] at hw hB2 hCo
  clear hC2
  obtain ⟨⟨p2, k2, l2⟩, hv⟩ : ∃ t : Option Addr × Nat × Nat, t = (q, m, d) := ⟨_, rfl⟩
  have hv : Value.slice q m d = Value.slice p2 k2 l2 := by cases hv; rfl
  rw [hv] at hw
  clear hv hm
  repeat (first | refine byW ?_ | (refine byV ?_; intro w hw))
  have hw : Wd Γ' (.own (.slice none 0 0) 84 3 ([]) :: .blk b3 (.cells #[.string H.Name, .slice p1 k1 l1, .slice p2 k2 l2, .slice none 0 0, .slice none 0 0, .slice none 0 0] 30) :: .blk b2 (.cells #[.string ⟨#[]⟩, .slice none 0 0, .slice none 0 0, .slice none 0 0, .slice none 0 0, .slice none 0 0] 30) :: .blk b1 (hwC H a1 n1 c1 a2 n2 c2 a3 n3 c3 a4 n4 c4 a5 n5 c5) :: .own (.slice p2 k2 l2) 87 5 (C2.map cC) :: .own (.slice p1 k1 l1) 69 4 ((isort (ltC cCore) H.Cores).map enc) :: S) w := Wd.addNil (hw.ps [3, 3, 3])
  repeat (first | refine byW ?_ | (refine byV ?_; intro w hw))
  refine W_loop (fun μ ρ w => ∃ (i : Nat) (q : Option Addr) (m d : Nat) (L : List LinkT), μ + i = n3 ∧ L.length = i ∧ isort (ltC cLink) (H.Links.map canon) = isF (ltC cLink) (n3 - i) i (L ++ (H.Links.map canon).drop i) ∧ Has ρ [(1, .pointer (some ⟨b1, 0, none⟩)), (2, .pointer (some ⟨b2, 0, none⟩)), (3, .pointer (some ⟨b3, 0, none⟩)), (11, .int .i64 i)] ∧ Wd Γ' (.own (.slice q m d) 84 3 (L.map enc) :: .blk b3 (.cells #[.string H.Name, .slice p1 k1 l1, .slice p2 k2 l2, .slice q m d, .slice none 0 0, .slice none 0 0] 30) :: .blk b2 (.cells #[.string ⟨#[]⟩, .slice none 0 0, .slice none 0 0, .slice none 0 0, .slice none 0 0, .slice none 0 0] 30) :: .blk b1 (hwC H a1 n1 c1 a2 n2 c2 a3 n3 c3 a4 n4 c4 a5 n5 c5) :: .own (.slice p2 k2 l2) 87 5 (C2.map cC) :: .own (.slice p1 k1 l1) 69 4 ((isort (ltC cCore) H.Cores).map enc) :: S) w) n3 ⟨0, none, 0, 0, [], by omega, rfl, by rw [isort_zero, List.length_map, ← hn3]; rfl, ⟨rfl, rfl, rfl, rfl, trivial⟩, hw⟩ ?_
  clear hw
  rintro μ ρ w ⟨i, q, m, d, L, hμ, hCl, hB, hρ, hw⟩
  rw [hρ.eq]
  clear hρ
  have hm : m = L.length := by
    obtain ⟨q', m', d', e, hm, -, -⟩ := hw.own_shape (i := 0) rfl
    cases e
    simpa using hm
  repeat (first | refine byW ?_ | (refine byV ?_; intro w hw))
  refine W_cond rfl (fun h => ?_) (fun h => ?_)
  · have hin : i < n3 := by have := of_decide_eq_true h; omega
    clear h
    obtain ⟨l, hl⟩ := get_lt (l := H.Links) (k := i) (by omega)
    have r3' := r3.mono g2
    repeat (first | refine byW ?_ | (refine byV ?_; intro w hw))
    refine lAlloc ?_
    intro b12 w hw
    refine lStore ?_
    intro w hw
    have hw : Wd Γ' (.blk b12 (.cells (enc l).toArray 84) :: .own (.slice q m d) 84 3 (L.map enc) :: .blk b3 (.cells #[.string H.Name, .slice p1 k1 l1, .slice p2 k2 l2, .slice q m d, .slice none 0 0, .slice none 0 0] 30) :: .blk b2 (.cells #[.string ⟨#[]⟩, .slice none 0 0, .slice none 0 0, .slice none 0 0, .slice none 0 0, .slice none 0 0] 30) :: .blk b1 (hwC H a1 n1 c1 a2 n2 c2 a3 n3 c3 a4 n4 c4 a5 n5 c5) :: .own (.slice p2 k2 l2) 87 5 (C2.map cC) :: .own (.slice p1 k1 l1) 69 4 ((isort (ltC cCore) H.Cores).map enc) :: S) w := hw
    repeat (first | refine byW ?_ | (refine byV ?_; intro w hw))
    refine lBuildSlice [enc (canon l)] ?_ (hrw := canon_cells l)
    intro a9 w hw
    repeat (first | refine byW ?_ | (refine byV ?_; intro w hw))
    refine lApp (i := 2) (rows2 := [enc (canon l)]) ?_ (Wd.own_rd (i := 0) hw rfl)
    intro v' w hw
    obtain ⟨q', m', d', rfl, hm', -, -⟩ := hw.own_shape (i := 2) rfl
    simp at hm'
    repeat (first | refine byW ?_ | (refine byV ?_; intro w hw))
    refine lStore ?_
    intro w hw
    obtain ⟨Y, hYe⟩ : ∃ Y, Y = L ++ [canon l] := ⟨_, rfl⟩
    have hw : Wd Γ' (.own (.slice q' m' d') 84 3 (Y.map enc) :: .blk b3 (.cells #[.string H.Name, .slice p1 k1 l1, .slice p2 k2 l2, .slice q' m' d', .slice none 0 0, .slice none 0 0] 30) :: .blk b2 (.cells #[.string ⟨#[]⟩, .slice none 0 0, .slice none 0 0, .slice none 0 0, .slice none 0 0, .slice none 0 0] 30) :: .blk b1 (hwC H a1 n1 c1 a2 n2 c2 a3 n3 c3 a4 n4 c4 a5 n5 c5) :: .own (.slice p2 k2 l2) 87 5 (C2.map cC) :: .own (.slice p1 k1 l1) 69 4 ((isort (ltC cCore) H.Cores).map enc) :: S) w := by
      rw [hYe, List.map_append]
      exact hw.ds [0, 0]
    have hY : Y.length = m' := by rw [hYe, List.length_append]; simp; omega
    have hcx : (H.Links.map canon)[i]? = some (canon l) := by rw [List.getElem?_map, hl]; rfl
    have hNext := isF_next (L := L) hin hCl hcx hB
    rw [← hYe] at hNext
    have hmi : m' = i + 1 := by omega
    clear hYe hcx hB hm hm' hCl r3' hl
    repeat (first | refine byW ?_ | (refine byV ?_; intro w hw))
    refine W_loop (fun μ2 ρ w => ∃ (k : Nat) (Z : List LinkT), μ2 = k ∧ k ≤ i ∧ Z.length = m' ∧ bubC (ltC cLink) i Y = bubC (ltC cLink) k Z ∧ Has ρ [(1, .pointer (some ⟨b1, 0, none⟩)), (2, .pointer (some ⟨b2, 0, none⟩)), (3, .pointer (some ⟨b3, 0, none⟩)), (11, .int .i64 i), (13, .int .i64 k)] ∧ Wd Γ' (.own (.slice q' m' d') 84 3 (Z.map enc) :: .blk b3 (.cells #[.string H.Name, .slice p1 k1 l1, .slice p2 k2 l2, .slice q' m' d', .slice none 0 0, .slice none 0 0] 30) :: .blk b2 (.cells #[.string ⟨#[]⟩, .slice none 0 0, .slice none 0 0, .slice none 0 0, .slice none 0 0, .slice none 0 0] 30) :: .blk b1 (hwC H a1 n1 c1 a2 n2 c2 a3 n3 c3 a4 n4 c4 a5 n5 c5) :: .own (.slice p2 k2 l2) 87 5 (C2.map cC) :: .own (.slice p1 k1 l1) 69 4 ((isort (ltC cCore) H.Cores).map enc) :: S) w) i ⟨i, Y, rfl, Nat.le_refl _, hY, rfl, ⟨rfl, rfl, rfl, rfl, rfl, trivial⟩, hw⟩ ?_
    clear hw
    rintro μ2 ρ w ⟨k, Z, rfl, hk, hZ, hC, hρ, hw⟩
    rw [hρ.eq]
    clear hρ
    refine W_seq ?_
    refine W_seq ?_
    cases μ2 with
    | zero =>
      refine W_quiet (by kernel_rfl) (by kernel_rfl) hw ?_
      iterate 3 (first | refine Q_nil ?_ | (apply Q_plain; first | (apply Q_go; first | refine qP ?_ | refine qPg ?_) | refine qY ?_) | (apply Q_guarded; first | (apply Q_go; first | refine qPG ?_ | refine qPgG ?_) | refine qG ?_))
      iterate 46 (refine qG (v := .bool true) ?_ (hy := fun h => by have h2 : true = false := h.symm.trans rfl; cases h2))
      refine qY (v := .bool false) ?_ (hy := fun w hw => y_pickF rfl rfl)
      refine Q_nil ?_
      clear hw
      intro w hw
      refine W_cond rfl (fun h => by cases h) (fun _ => ?_)
      repeat (first | refine byW ?_ | (refine byV ?_; intro w hw))
      have hC : bubC (ltC cLink) i Y = Z := hC
      exact ⟨μ - 1, by omega, i + 1, q', m', d', Z, by omega, by omega, by rw [← hC]; exact hNext, ⟨rfl, rfl, rfl, rfl, trivial⟩, hw⟩
    | succ k =>
      obtain ⟨x, hx⟩ := get_lt (l := Z) (k := k + 1) (by omega)
      obtain ⟨y, hy⟩ := get_lt (l := Z) (k := k) (by omega)
      have e1 : (((k + 1 : Nat) : Int) - 1) = (k : Int) := by omega
      have hx' : Z[((k + 1 : Nat) : Int).toNat]? = some x := hx
      have hy' : Z[(((k + 1 : Nat) : Int) - 1).toNat]? = some y := by rw [e1]; exact hy
      refine W_quiet (by kernel_rfl) (by kernel_rfl) hw ?_
      iterate 1 (first | refine Q_nil ?_ | (apply Q_plain; first | (apply Q_go; first | refine qP ?_ | refine qPg ?_) | refine qY ?_) | (apply Q_guarded; first | (apply Q_go; first | refine qPG ?_ | refine qPgG ?_) | refine qG ?_))
      refine qT (b := decide ((0 : Int) < ((k + 1 : Nat) : Int))) (decide_eq_true (by omega)) ?_
      repeat (first | refine Q_nil ?_ | (apply Q_plain; first | (apply Q_go; first | refine qP ?_ | refine qPg ?_) | refine qY ?_) | (apply Q_guarded; first | (apply Q_go; first | refine qPG ?_ | refine qPgG ?_) | refine qG ?_))
      clear hw
      intro w hw
      refine W_cond rfl (fun h2 => ?_) (fun h2 => ?_)
      · have h2 : (ltC cLink) x y = true := by first | (rw [lt_LinkT]; simpa using h2) | simpa using h2
        have hst := bubC_step hx hy h2
        rw [hst] at hC
        clear hst
        repeat (first | refine byW ?_ | (refine byV ?_; intro w hw))
        refine lAlloc ?_
        intro bh w hw
        refine lStore ?_
        intro w hw
        have hw : Wd Γ' ([.blk b3 (.cells #[.string H.Name, .slice p1 k1 l1, .slice p2 k2 l2, .slice q' m' d', .slice none 0 0, .slice none 0 0] 30)] ++ (.own (.slice q' m' d') 84 3 (Z.map enc) :: .blk bh (.cells (enc x).toArray 84) :: .blk b2 (.cells #[.string ⟨#[]⟩, .slice none 0 0, .slice none 0 0, .slice none 0 0, .slice none 0 0, .slice none 0 0] 30) :: .blk b1 (hwC H a1 n1 c1 a2 n2 c2 a3 n3 c3 a4 n4 c4 a5 n5 c5) :: .own (.slice p2 k2 l2) 87 5 (C2.map cC) :: .own (.slice p1 k1 l1) 69 4 ((isort (ltC cCore) H.Cores).map enc) :: S)) w := hw.ps [1, 2]
        repeat (first | refine byW ?_ | (refine byV ?_; intro w hw))
        refine W_mix1 [.blk b3 (.cells #[.string H.Name, .slice p1 k1 l1, .slice p2 k2 l2, .slice q' m' d', .slice none 0 0, .slice none 0 0] 30)] (.own (.slice q' m' d') 84 3 (Z.map enc) :: .blk bh (.cells (enc x).toArray 84) :: .blk b2 (.cells #[.string ⟨#[]⟩, .slice none 0 0, .slice none 0 0, .slice none 0 0, .slice none 0 0, .slice none 0 0] 30) :: .blk b1 (hwC H a1 n1 c1 a2 n2 c2 a3 n3 c3 a4 n4 c4 a5 n5 c5) :: .own (.slice p2 k2 l2) 87 5 (C2.map cC) :: .own (.slice p1 k1 l1) 69 4 ((isort (ltC cCore) H.Cores).map enc) :: S) [[],[],[],[],[],[],[],[],[],[],[0]] [[],[],[],[],[],[],[],[0],[0],[0],[0]] hw ?_
        repeat (first | refine mY ?_ | refine mP ?_ | refine mPg ?_)
        refine mStoreE (j := 0) (k := k + 1) (r := enc y) ?_
        refine mEnd fun w g hw => ?_
        have hw : Wd Γ' (([.blk b3 (.cells #[.string H.Name, .slice p1 k1 l1, .slice p2 k2 l2, .slice q' m' d', .slice none 0 0, .slice none 0 0] 30)] ++ (.own (.slice q' m' d') 84 3 ((Z.map enc).set (k + 1) (enc y)) :: .blk bh (.cells (enc x).toArray 84) :: .blk b2 (.cells #[.string ⟨#[]⟩, .slice none 0 0, .slice none 0 0, .slice none 0 0, .slice none 0 0, .slice none 0 0] 30) :: .blk b1 (hwC H a1 n1 c1 a2 n2 c2 a3 n3 c3 a4 n4 c4 a5 n5 c5) :: .own (.slice p2 k2 l2) 87 5 (C2.map cC) :: .own (.slice p1 k1 l1) 69 4 ((isort (ltC cCore) H.Cores).map enc) :: S)) ++ []) w := hw
        rw [List.append_nil] at hw
        repeat (first | refine byW ?_ | (refine byV ?_; intro w hw))
        refine lStoreE (k := k) (i := 1) (r := enc x) ?_ (hx := by show Value.pointer _ = _; rw [show (((k + 1 : Nat) : Int) - 1).toNat = k by omega])
        intro w hw
        have hw : Wd Γ' (.blk b3 (.cells #[.string H.Name, .slice p1 k1 l1, .slice p2 k2 l2, .slice q' m' d', .slice none 0 0, .slice none 0 0] 30) :: .own (.slice q' m' d') 84 3 (((Z.map enc).set (k + 1) (enc y)).set k (enc x)) :: .blk bh (.cells (enc x).toArray 84) :: .blk b2 (.cells #[.string ⟨#[]⟩, .slice none 0 0, .slice none 0 0, .slice none 0 0, .slice none 0 0, .slice none 0 0] 30) :: .blk b1 (hwC H a1 n1 c1 a2 n2 c2 a3 n3 c3 a4 n4 c4 a5 n5 c5) :: .own (.slice p2 k2 l2) 87 5 (C2.map cC) :: .own (.slice p1 k1 l1) 69 4 ((isort (ltC cCore) H.Cores).map enc) :: S) w := hw
        rw [← List.map_set, ← List.map_set] at hw
        have hw : Wd Γ' (.own (.slice q' m' d') 84 3 (((Z.set (k + 1) y).set k x).map enc) :: .blk b3 (.cells #[.string H.Name, .slice p1 k1 l1, .slice p2 k2 l2, .slice q' m' d', .slice none 0 0, .slice none 0 0] 30) :: .blk b2 (.cells #[.string ⟨#[]⟩, .slice none 0 0, .slice none 0 0, .slice none 0 0, .slice none 0 0, .slice none 0 0] 30) :: .blk b1 (hwC H a1 n1 c1 a2 n2 c2 a3 n3 c3 a4 n4 c4 a5 n5 c5) :: .own (.slice p2 k2 l2) 87 5 (C2.map cC) :: .own (.slice p1 k1 l1) 69 4 ((isort (ltC cCore) H.Cores).map enc) :: S) w := (hw.ds [2]).ps [1]
        repeat (first | refine byW ?_ | (refine byV ?_; intro w hw))
        exact ⟨k, by omega, k, _, rfl, by omega, by simp; omega, hC, ⟨rfl, rfl, rfl, rfl, by show Value.int .i64 (((k + 1 : Nat) : Int) - 1) = _; rw [e1], trivial⟩, hw⟩
      · have h2 : (ltC cLink) x y = false := by first | (rw [lt_LinkT]; simpa using h2) | simpa using h2
        rw [bubC_stop hx hy h2] at hC
        repeat (first | refine byW ?_ | (refine byV ?_; intro w hw))
        exact ⟨μ - 1, by omega, i + 1, q', m', d', Z, by omega, by omega, by rw [← hC]; exact hNext, ⟨rfl, rfl, rfl, rfl, trivial⟩, hw⟩
  have hin : n3 = i := by have := of_decide_eq_false h; omega
  clear h
  rw [hin, Nat.sub_self, List.drop_of_length_le (by rw [List.length_map]; omega), List.append_nil] at hB
  have hB : isort (ltC cLink) (H.Links.map canon) = L := hB
  rw [← hB] at hw
  clear hB hμ hin hCl
  obtain ⟨⟨p3, k3, l3⟩, hv⟩ : ∃ t : Option Addr × Nat × Nat, t = (q, m, d) := ⟨_, rfl⟩
  have hv : Value.slice q m d = Value.slice p3 k3 l3 := by cases hv; rfl
  rw [hv] at hw
  clear hv hm
  repeat (first | refine byW ?_ | (refine byV ?_; intro w hw))
  have hw : Wd Γ' (.own (.slice none 0 0) 72 5 ([]) :: .blk b3 (.cells #[.string H.Name, .slice p1 k1 l1, .slice p2 k2 l2, .slice p3 k3 l3, .slice none 0 0, .slice none 0 0] 30) :: .blk b2 (.cells #[.string ⟨#[]⟩, .slice none 0 0, .slice none 0 0, .slice none 0 0, .slice none 0 0, .slice none 0 0] 30) :: .blk b1 (hwC H a1 n1 c1 a2 n2 c2 a3 n3 c3 a4 n4 c4 a5 n5 c5) :: .own (.slice p3 k3 l3) 84 3 ((isort (ltC cLink) (H.Links.map canon)).map enc) :: .own (.slice p2 k2 l2) 87 5 (C2.map cC) :: .own (.slice p1 k1 l1) 69 4 ((isort (ltC cCore) H.Cores).map enc) :: S) w := Wd.addNil (hw.ps [3, 3, 3])
  repeat (first | refine byW ?_ | (refine byV ?_; intro w hw))
  refine lApp (i := 0) (rows2 := H.Mems.map enc) ?_ ((r4.mono g2).rd hw) (h1 := encs_one _) (hm := by simp; omega)
  intro v' w hw
  obtain ⟨q, m, d, rfl, hm, -, -⟩ := hw.own_shape (i := 0) rfl
  simp at hm
  repeat (first | refine byW ?_ | (refine byV ?_; intro w hw))
  refine lStore ?_
  intro w hw
  have hw : Wd Γ' (.own (.slice q m d) 72 5 (H.Mems.map enc) :: .blk b3 (.cells #[.string H.Name, .slice p1 k1 l1, .slice p2 k2 l2, .slice p3 k3 l3, .slice q m d, .slice none 0 0] 30) :: .blk b2 (.cells #[.string ⟨#[]⟩, .slice none 0 0, .slice none 0 0, .slice none 0 0, .slice none 0 0, .slice none 0 0] 30) :: .blk b1 (hwC H a1 n1 c1 a2 n2 c2 a3 n3 c3 a4 n4 c4 a5 n5 c5) :: .own (.slice p3 k3 l3) 84 3 ((isort (ltC cLink) (H.Links.map canon)).map enc) :: .own (.slice p2 k2 l2) 87 5 (C2.map cC) :: .own (.slice p1 k1 l1) 69 4 ((isort (ltC cCore) H.Cores).map enc) :: S) w := hw
  repeat (first | refine byW ?_ | (refine byV ?_; intro w hw))
  refine W_loop (fun μ ρ w => ∃ (i : Nat) (Y : List MemT), 1 ≤ i ∧ (m ≤ i + μ) ∧ Y.length = m ∧ isort (ltC cMem) H.Mems = isF (ltC cMem) (m - i) i Y ∧ Has ρ [(1, .pointer (some ⟨b1, 0, none⟩)), (2, .pointer (some ⟨b2, 0, none⟩)), (3, .pointer (some ⟨b3, 0, none⟩)), (15, .int .i64 i)] ∧ Wd Γ' (.own (.slice q m d) 72 5 (Y.map enc) :: .blk b3 (.cells #[.string H.Name, .slice p1 k1 l1, .slice p2 k2 l2, .slice p3 k3 l3, .slice q m d, .slice none 0 0] 30) :: .blk b2 (.cells #[.string ⟨#[]⟩, .slice none 0 0, .slice none 0 0, .slice none 0 0, .slice none 0 0, .slice none 0 0] 30) :: .blk b1 (hwC H a1 n1 c1 a2 n2 c2 a3 n3 c3 a4 n4 c4 a5 n5 c5) :: .own (.slice p3 k3 l3) 84 3 ((isort (ltC cLink) (H.Links.map canon)).map enc) :: .own (.slice p2 k2 l2) 87 5 (C2.map cC) :: .own (.slice p1 k1 l1) 69 4 ((isort (ltC cCore) H.Cores).map enc) :: S) w) m ⟨1, H.Mems, by omega, by omega, hm.symm, by unfold isort; rw [← hm], ⟨rfl, rfl, rfl, rfl, trivial⟩, hw⟩ ?_
  clear hw
  rintro μ ρ w ⟨i, Y, hi, hμ, hY, hB, hρ, hw⟩
  rw [hρ.eq]
  clear hρ
  repeat (first | refine byW ?_ | (refine byV ?_; intro w hw))
  refine W_cond rfl (fun h => ?_) (fun h => ?_)
  · have him : i < m := by have := of_decide_eq_true h; omega
    clear h
    have hB2 : isort (ltC cMem) H.Mems = isF (ltC cMem) (m - (i + 1)) (i + 1) (bubC (ltC cMem) i Y) := by
      rw [hB, show m - i = (m - (i + 1)) + 1 by omega]; rfl
    repeat (first | refine byW ?_ | (refine byV ?_; intro w hw))
    refine W_loop (fun μ2 ρ w => ∃ (k : Nat) (Z : List MemT), μ2 = k ∧ k ≤ i ∧ Z.length = m ∧ bubC (ltC cMem) i Y = bubC (ltC cMem) k Z ∧ Has ρ [(1, .pointer (some ⟨b1, 0, none⟩)), (2, .pointer (some ⟨b2, 0, none⟩)), (3, .pointer (some ⟨b3, 0, none⟩)), (15, .int .i64 i), (16, .int .i64 k)] ∧ Wd Γ' (.own (.slice q m d) 72 5 (Z.map enc) :: .blk b3 (.cells #[.string H.Name, .slice p1 k1 l1, .slice p2 k2 l2, .slice p3 k3 l3, .slice q m d, .slice none 0 0] 30) :: .blk b2 (.cells #[.string ⟨#[]⟩, .slice none 0 0, .slice none 0 0, .slice none 0 0, .slice none 0 0, .slice none 0 0] 30) :: .blk b1 (hwC H a1 n1 c1 a2 n2 c2 a3 n3 c3 a4 n4 c4 a5 n5 c5) :: .own (.slice p3 k3 l3) 84 3 ((isort (ltC cLink) (H.Links.map canon)).map enc) :: .own (.slice p2 k2 l2) 87 5 (C2.map cC) :: .own (.slice p1 k1 l1) 69 4 ((isort (ltC cCore) H.Cores).map enc) :: S) w) i ⟨i, Y, rfl, Nat.le_refl _, hY, rfl, ⟨rfl, rfl, rfl, rfl, rfl, trivial⟩, hw⟩ ?_
    clear hw
    rintro μ2 ρ w ⟨k, Z, rfl, hk, hZ, hC, hρ, hw⟩
    rw [hρ.eq]
    clear hρ
    refine W_seq ?_
    refine W_seq ?_
    cases μ2 with
    | zero =>
      refine W_quiet (by kernel_rfl) (by kernel_rfl) hw ?_
      iterate 3 (first | refine Q_nil ?_ | (apply Q_plain; first | (apply Q_go; first | refine qP ?_ | refine qPg ?_) | refine qY ?_) | (apply Q_guarded; first | (apply Q_go; first | refine qPG ?_ | refine qPgG ?_) | refine qG ?_))
      iterate 14 (refine qG (v := .bool true) ?_ (hy := fun h => by have h2 : true = false := h.symm.trans rfl; cases h2))
      refine qY (v := .bool false) ?_ (hy := fun w hw => y_pickF rfl rfl)
      refine Q_nil ?_
      clear hw
      intro w hw
      refine W_cond rfl (fun h => by cases h) (fun _ => ?_)
      repeat (first | refine byW ?_ | (refine byV ?_; intro w hw))
      have hC : bubC (ltC cMem) i Y = Z := hC
      exact ⟨μ - 1, by omega, i + 1, Z, by omega, by omega, hZ, by rw [hB2, hC], ⟨rfl, rfl, rfl, rfl, trivial⟩, hw⟩
    | succ k =>
      obtain ⟨x, hx⟩ := get_lt (l := Z) (k := k + 1) (by omega)
      obtain ⟨y, hy⟩ := get_lt (l := Z) (k := k) (by omega)
      have e1 : (((k + 1 : Nat) : Int) - 1) = (k : Int) := by omega
      have hx' : Z[((k + 1 : Nat) : Int).toNat]? = some x := hx
      have hy' : Z[(((k + 1 : Nat) : Int) - 1).toNat]? = some y := by rw [e1]; exact hy
      refine W_quiet (by kernel_rfl) (by kernel_rfl) hw ?_
      iterate 1 (first | refine Q_nil ?_ | (apply Q_plain; first | (apply Q_go; first | refine qP ?_ | refine qPg ?_) | refine qY ?_) | (apply Q_guarded; first | (apply Q_go; first | refine qPG ?_ | refine qPgG ?_) | refine qG ?_))
      refine qT (b := decide ((0 : Int) < ((k + 1 : Nat) : Int))) (decide_eq_true (by omega)) ?_
      repeat (first | refine Q_nil ?_ | (apply Q_plain; first | (apply Q_go; first | refine qP ?_ | refine qPg ?_) | refine qY ?_) | (apply Q_guarded; first | (apply Q_go; first | refine qPG ?_ | refine qPgG ?_) | refine qG ?_))
      clear hw
      intro w hw
      refine W_cond rfl (fun h2 => ?_) (fun h2 => ?_)
      · have h2 : (ltC cMem) x y = true := by first | (rw [lt_MemT]; simpa using h2) | simpa using h2
        have hst := bubC_step hx hy h2
        rw [hst] at hC
        clear hst
        repeat (first | refine byW ?_ | (refine byV ?_; intro w hw))
        refine lAlloc ?_
        intro bh w hw
        refine lStore ?_
        intro w hw
        have hw : Wd Γ' ([.blk b3 (.cells #[.string H.Name, .slice p1 k1 l1, .slice p2 k2 l2, .slice p3 k3 l3, .slice q m d, .slice none 0 0] 30)] ++ (.own (.slice q m d) 72 5 (Z.map enc) :: .blk bh (.cells (enc x).toArray 72) :: .blk b2 (.cells #[.string ⟨#[]⟩, .slice none 0 0, .slice none 0 0, .slice none 0 0, .slice none 0 0, .slice none 0 0] 30) :: .blk b1 (hwC H a1 n1 c1 a2 n2 c2 a3 n3 c3 a4 n4 c4 a5 n5 c5) :: .own (.slice p3 k3 l3) 84 3 ((isort (ltC cLink) (H.Links.map canon)).map enc) :: .own (.slice p2 k2 l2) 87 5 (C2.map cC) :: .own (.slice p1 k1 l1) 69 4 ((isort (ltC cCore) H.Cores).map enc) :: S)) w := hw.ps [1, 2]
        repeat (first | refine byW ?_ | (refine byV ?_; intro w hw))
        refine W_mix1 [.blk b3 (.cells #[.string H.Name, .slice p1 k1 l1, .slice p2 k2 l2, .slice p3 k3 l3, .slice q m d, .slice none 0 0] 30)] (.own (.slice q m d) 72 5 (Z.map enc) :: .blk bh (.cells (enc x).toArray 72) :: .blk b2 (.cells #[.string ⟨#[]⟩, .slice none 0 0, .slice none 0 0, .slice none 0 0, .slice none 0 0, .slice none 0 0] 30) :: .blk b1 (hwC H a1 n1 c1 a2 n2 c2 a3 n3 c3 a4 n4 c4 a5 n5 c5) :: .own (.slice p3 k3 l3) 84 3 ((isort (ltC cLink) (H.Links.map canon)).map enc) :: .own (.slice p2 k2 l2) 87 5 (C2.map cC) :: .own (.slice p1 k1 l1) 69 4 ((isort (ltC cCore) H.Cores).map enc) :: S) [[],[],[],[],[],[],[],[],[],[],[0]] [[],[],[],[],[],[],[],[0],[0],[0],[0]] hw ?_
        repeat (first | refine mY ?_ | refine mP ?_ | refine mPg ?_)
        refine mStoreE (j := 0) (k := k + 1) (r := enc y) ?_
        refine mEnd fun w g hw => ?_
        have hw : Wd Γ' (([.blk b3 (.cells #[.string H.Name, .slice p1 k1 l1, .slice p2 k2 l2, .slice p3 k3 l3, .slice q m d, .slice none 0 0] 30)] ++ (.own (.slice q m d) 72 5 ((Z.map enc).set (k + 1) (enc y)) :: .blk bh (.cells (enc x).toArray 72) :: .blk b2 (.cells #[.string ⟨#[]⟩, .slice none 0 0, .slice none 0 0, .slice none 0 0, .slice none 0 0, .slice none 0 0] 30) :: .blk b1 (hwC H a1 n1 c1 a2 n2 c2 a3 n3 c3 a4 n4 c4 a5 n5 c5) :: .own (.slice p3 k3 l3) 84 3 ((isort (ltC cLink) (H.Links.map canon)).map enc) :: .own (.slice p2 k2 l2) 87 5 (C2.map cC) :: .own (.slice p1 k1 l1) 69 4 ((isort (ltC cCore) H.Cores).map enc) :: S)) ++ []) w := hw
        rw [List.append_nil] at hw
        repeat (first | refine byW ?_ | (refine byV ?_; intro w hw))
        refine lStoreE (k := k) (i := 1) (r := enc x) ?_ (hx := by show Value.pointer _ = _; rw [show (((k + 1 : Nat) : Int) - 1).toNat = k by omega])
        intro w hw
        have hw : Wd Γ' (.blk b3 (.cells #[.string H.Name, .slice p1 k1 l1, .slice p2 k2 l2, .slice p3 k3 l3, .slice q m d, .slice none 0 0] 30) :: .own (.slice q m d) 72 5 (((Z.map enc).set (k + 1) (enc y)).set k (enc x)) :: .blk bh (.cells (enc x).toArray 72) :: .blk b2 (.cells #[.string ⟨#[]⟩, .slice none 0 0, .slice none 0 0, .slice none 0 0, .slice none 0 0, .slice none 0 0] 30) :: .blk b1 (hwC H a1 n1 c1 a2 n2 c2 a3 n3 c3 a4 n4 c4 a5 n5 c5) :: .own (.slice p3 k3 l3) 84 3 ((isort (ltC cLink) (H.Links.map canon)).map enc) :: .own (.slice p2 k2 l2) 87 5 (C2.map cC) :: .own (.slice p1 k1 l1) 69 4 ((isort (ltC cCore) H.Cores).map enc) :: S) w := hw
        rw [← List.map_set, ← List.map_set] at hw
        have hw : Wd Γ' (.own (.slice q m d) 72 5 (((Z.set (k + 1) y).set k x).map enc) :: .blk b3 (.cells #[.string H.Name, .slice p1 k1 l1, .slice p2 k2 l2, .slice p3 k3 l3, .slice q m d, .slice none 0 0] 30) :: .blk b2 (.cells #[.string ⟨#[]⟩, .slice none 0 0, .slice none 0 0, .slice none 0 0, .slice none 0 0, .slice none 0 0] 30) :: .blk b1 (hwC H a1 n1 c1 a2 n2 c2 a3 n3 c3 a4 n4 c4 a5 n5 c5) :: .own (.slice p3 k3 l3) 84 3 ((isort (ltC cLink) (H.Links.map canon)).map enc) :: .own (.slice p2 k2 l2) 87 5 (C2.map cC) :: .own (.slice p1 k1 l1) 69 4 ((isort (ltC cCore) H.Cores).map enc) :: S) w := (hw.ds [2]).ps [1]
        repeat (first | refine byW ?_ | (refine byV ?_; intro w hw))
        exact ⟨k, by omega, k, _, rfl, by omega, by simp; omega, hC, ⟨rfl, rfl, rfl, rfl, by show Value.int .i64 (((k + 1 : Nat) : Int) - 1) = _; rw [e1], trivial⟩, hw⟩
      · have h2 : (ltC cMem) x y = false := by first | (rw [lt_MemT]; simpa using h2) | simpa using h2
        rw [bubC_stop hx hy h2] at hC
        repeat (first | refine byW ?_ | (refine byV ?_; intro w hw))
        exact ⟨μ - 1, by omega, i + 1, Z, by omega, by omega, hZ, by rw [hB2, hC], ⟨rfl, rfl, rfl, rfl, trivial⟩, hw⟩
  have him : ¬ i < m := by have := of_decide_eq_false h; omega
  clear h
  rw [show m - i = 0 by omega] at hB
  have hB : isort (ltC cMem) H.Mems = Y := hB
  rw [← hB] at hw
  clear hB hY hμ hi him
  obtain ⟨⟨p4, k4, l4⟩, hv⟩ : ∃ t : Option Addr × Nat × Nat, t = (q, m, d) := ⟨_, rfl⟩
  have hv : Value.slice q m d = Value.slice p4 k4 l4 := by cases hv; rfl
  rw [hv] at hw
  clear hv hm
  repeat (first | refine byW ?_ | (refine byV ?_; intro w hw))
  have hw : Wd Γ' (.own (.slice none 0 0) 49 5 ([]) :: .blk b3 (.cells #[.string H.Name, .slice p1 k1 l1, .slice p2 k2 l2, .slice p3 k3 l3, .slice p4 k4 l4, .slice none 0 0] 30) :: .blk b2 (.cells #[.string ⟨#[]⟩, .slice none 0 0, .slice none 0 0, .slice none 0 0, .slice none 0 0, .slice none 0 0] 30) :: .blk b1 (hwC H a1 n1 c1 a2 n2 c2 a3 n3 c3 a4 n4 c4 a5 n5 c5) :: .own (.slice p4 k4 l4) 72 5 ((isort (ltC cMem) H.Mems).map enc) :: .own (.slice p3 k3 l3) 84 3 ((isort (ltC cLink) (H.Links.map canon)).map enc) :: .own (.slice p2 k2 l2) 87 5 (C2.map cC) :: .own (.slice p1 k1 l1) 69 4 ((isort (ltC cCore) H.Cores).map enc) :: S) w := Wd.addNil (hw.ps [3, 3, 3])
  repeat (first | refine byW ?_ | (refine byV ?_; intro w hw))
  refine lApp (i := 0) (rows2 := H.Devs.map enc) ?_ ((r5.mono g2).rd hw) (h1 := encs_one _) (hm := by simp; omega)
  intro v' w hw
  obtain ⟨q, m, d, rfl, hm, -, -⟩ := hw.own_shape (i := 0) rfl
  simp at hm
  repeat (first | refine byW ?_ | (refine byV ?_; intro w hw))
  refine lStore ?_
  intro w hw
  have hw : Wd Γ' (.own (.slice q m d) 49 5 (H.Devs.map enc) :: .blk b3 (.cells #[.string H.Name, .slice p1 k1 l1, .slice p2 k2 l2, .slice p3 k3 l3, .slice p4 k4 l4, .slice q m d] 30) :: .blk b2 (.cells #[.string ⟨#[]⟩, .slice none 0 0, .slice none 0 0, .slice none 0 0, .slice none 0 0, .slice none 0 0] 30) :: .blk b1 (hwC H a1 n1 c1 a2 n2 c2 a3 n3 c3 a4 n4 c4 a5 n5 c5) :: .own (.slice p4 k4 l4) 72 5 ((isort (ltC cMem) H.Mems).map enc) :: .own (.slice p3 k3 l3) 84 3 ((isort (ltC cLink) (H.Links.map canon)).map enc) :: .own (.slice p2 k2 l2) 87 5 (C2.map cC) :: .own (.slice p1 k1 l1) 69 4 ((isort (ltC cCore) H.Cores).map enc) :: S) w := hw
  repeat (first | refine byW ?_ | (refine byV ?_; intro w hw))
  refine W_loop (fun μ ρ w => ∃ (i : Nat) (Y : List DevT), 1 ≤ i ∧ (m ≤ i + μ) ∧ Y.length = m ∧ isort (ltC cDev) H.Devs = isF (ltC cDev) (m - i) i Y ∧ Has ρ [(1, .pointer (some ⟨b1, 0, none⟩)), (2, .pointer (some ⟨b2, 0, none⟩)), (3, .pointer (some ⟨b3, 0, none⟩)), (18, .int .i64 i)] ∧ Wd Γ' (.own (.slice q m d) 49 5 (Y.map enc) :: .blk b3 (.cells #[.string H.Name, .slice p1 k1 l1, .slice p2 k2 l2, .slice p3 k3 l3, .slice p4 k4 l4, .slice q m d] 30) :: .blk b2 (.cells #[.string ⟨#[]⟩, .slice none 0 0, .slice none 0 0, .slice none 0 0, .slice none 0 0, .slice none 0 0] 30) :: .blk b1 (hwC H a1 n1 c1 a2 n2 c2 a3 n3 c3 a4 n4 c4 a5 n5 c5) :: .own (.slice p4 k4 l4) 72 5 ((isort (ltC cMem) H.Mems).map enc) :: .own (.slice p3 k3 l3) 84 3 ((isort (ltC cLink) (H.Links.map canon)).map enc) :: .own (.slice p2 k2 l2) 87 5 (C2.map cC) :: .own (.slice p1 k1 l1) 69 4 ((isort (ltC cCore) H.Cores).map enc) :: S) w) m ⟨1, H.Devs, by omega, by omega, hm.symm, by unfold isort; rw [← hm], ⟨rfl, rfl, rfl, rfl, trivial⟩, hw⟩ ?_
  clear hw
  rintro μ ρ w ⟨i, Y, hi, hμ, hY, hB, hρ, hw⟩
  rw [hρ.eq]
  clear hρ
  repeat (first | refine byW ?_ | (refine byV ?_; intro w hw))
  refine W_cond rfl (fun h => ?_) (fun h => ?_)
  · have him : i < m := by have := of_decide_eq_true h; omega
    clear h
    have hB2 : isort (ltC cDev) H.Devs = isF (ltC cDev) (m - (i + 1)) (i + 1) (bubC (ltC cDev) i Y) := by
      rw [hB, show m - i = (m - (i + 1)) + 1 by omega]; rfl
    repeat (first | refine byW ?_ | (refine byV ?_; intro w hw))
    refine W_loop (fun μ2 ρ w => ∃ (k : Nat) (Z : List DevT), μ2 = k ∧ k ≤ i ∧ Z.length = m ∧ bubC (ltC cDev) i Y = bubC (ltC cDev) k Z ∧ Has ρ [(1, .pointer (some ⟨b1, 0, none⟩)), (2, .pointer (some ⟨b2, 0, none⟩)), (3, .pointer (some ⟨b3, 0, none⟩)), (18, .int .i64 i), (19, .int .i64 k)] ∧ Wd Γ' (.own (.slice q m d) 49 5 (Z.map enc) :: .blk b3 (.cells #[.string H.Name, .slice p1 k1 l1, .slice p2 k2 l2, .slice p3 k3 l3, .slice p4 k4 l4, .slice q m d] 30) :: .blk b2 (.cells #[.string ⟨#[]⟩, .slice none 0 0, .slice none 0 0, .slice none 0 0, .slice none 0 0, .slice none 0 0] 30) :: .blk b1 (hwC H a1 n1 c1 a2 n2 c2 a3 n3 c3 a4 n4 c4 a5 n5 c5) :: .own (.slice p4 k4 l4) 72 5 ((isort (ltC cMem) H.Mems).map enc) :: .own (.slice p3 k3 l3) 84 3 ((isort (ltC cLink) (H.Links.map canon)).map enc) :: .own (.slice p2 k2 l2) 87 5 (C2.map cC) :: .own (.slice p1 k1 l1) 69 4 ((isort (ltC cCore) H.Cores).map enc) :: S) w) i ⟨i, Y, rfl, Nat.le_refl _, hY, rfl, ⟨rfl, rfl, rfl, rfl, rfl, trivial⟩, hw⟩ ?_
    clear hw
    rintro μ2 ρ w ⟨k, Z, rfl, hk, hZ, hC, hρ, hw⟩
    rw [hρ.eq]
    clear hρ
    refine W_seq ?_
    refine W_seq ?_
    cases μ2 with
    | zero =>
      refine W_quiet (by kernel_rfl) (by kernel_rfl) hw ?_
      iterate 3 (first | refine Q_nil ?_ | (apply Q_plain; first | (apply Q_go; first | refine qP ?_ | refine qPg ?_) | refine qY ?_) | (apply Q_guarded; first | (apply Q_go; first | refine qPG ?_ | refine qPgG ?_) | refine qG ?_))
      iterate 14 (refine qG (v := .bool true) ?_ (hy := fun h => by have h2 : true = false := h.symm.trans rfl; cases h2))
      refine qY (v := .bool false) ?_ (hy := fun w hw => y_pickF rfl rfl)
      refine Q_nil ?_
      clear hw
      intro w hw
      refine W_cond rfl (fun h => by cases h) (fun _ => ?_)
      repeat (first | refine byW ?_ | (refine byV ?_; intro w hw))
      have hC : bubC (ltC cDev) i Y = Z := hC
      exact ⟨μ - 1, by omega, i + 1, Z, by omega, by omega, hZ, by rw [hB2, hC], ⟨rfl, rfl, rfl, rfl, trivial⟩, hw⟩
    | succ k =>
      obtain ⟨x, hx⟩ := get_lt (l := Z) (k := k + 1) (by omega)
      obtain ⟨y, hy⟩ := get_lt (l := Z) (k := k) (by omega)
      have e1 : (((k + 1 : Nat) : Int) - 1) = (k : Int) := by omega
      have hx' : Z[((k + 1 : Nat) : Int).toNat]? = some x := hx
      have hy' : Z[(((k + 1 : Nat) : Int) - 1).toNat]? = some y := by rw [e1]; exact hy
      refine W_quiet (by kernel_rfl) (by kernel_rfl) hw ?_
      iterate 1 (first | refine Q_nil ?_ | (apply Q_plain; first | (apply Q_go; first | refine qP ?_ | refine qPg ?_) | refine qY ?_) | (apply Q_guarded; first | (apply Q_go; first | refine qPG ?_ | refine qPgG ?_) | refine qG ?_))
      refine qT (b := decide ((0 : Int) < ((k + 1 : Nat) : Int))) (decide_eq_true (by omega)) ?_
      repeat (first | refine Q_nil ?_ | (apply Q_plain; first | (apply Q_go; first | refine qP ?_ | refine qPg ?_) | refine qY ?_) | (apply Q_guarded; first | (apply Q_go; first | refine qPG ?_ | refine qPgG ?_) | refine qG ?_))
      clear hw
      intro w hw
      refine W_cond rfl (fun h2 => ?_) (fun h2 => ?_)
      · have h2 : (ltC cDev) x y = true := by first | (rw [lt_DevT]; simpa using h2) | simpa using h2
        have hst := bubC_step hx hy h2
        rw [hst] at hC
        clear hst
        repeat (first | refine byW ?_ | (refine byV ?_; intro w hw))
        refine lAlloc ?_
        intro bh w hw
        refine lStore ?_
        intro w hw
        have hw : Wd Γ' ([.blk b3 (.cells #[.string H.Name, .slice p1 k1 l1, .slice p2 k2 l2, .slice p3 k3 l3, .slice p4 k4 l4, .slice q m d] 30)] ++ (.own (.slice q m d) 49 5 (Z.map enc) :: .blk bh (.cells (enc x).toArray 49) :: .blk b2 (.cells #[.string ⟨#[]⟩, .slice none 0 0, .slice none 0 0, .slice none 0 0, .slice none 0 0, .slice none 0 0] 30) :: .blk b1 (hwC H a1 n1 c1 a2 n2 c2 a3 n3 c3 a4 n4 c4 a5 n5 c5) :: .own (.slice p4 k4 l4) 72 5 ((isort (ltC cMem) H.Mems).map enc) :: .own (.slice p3 k3 l3) 84 3 ((isort (ltC cLink) (H.Links.map canon)).map enc) :: .own (.slice p2 k2 l2) 87 5 (C2.map cC) :: .own (.slice p1 k1 l1) 69 4 ((isort (ltC cCore) H.Cores).map enc) :: S)) w := hw.ps [1, 2]
        repeat (first | refine byW ?_ | (refine byV ?_; intro w hw))
        refine W_mix1 [.blk b3 (.cells #[.string H.Name, .slice p1 k1 l1, .slice p2 k2 l2, .slice p3 k3 l3, .slice p4 k4 l4, .slice q m d] 30)] (.own (.slice q m d) 49 5 (Z.map enc) :: .blk bh (.cells (enc x).toArray 49) :: .blk b2 (.cells #[.string ⟨#[]⟩, .slice none 0 0, .slice none 0 0, .slice none 0 0, .slice none 0 0, .slice none 0 0] 30) :: .blk b1 (hwC H a1 n1 c1 a2 n2 c2 a3 n3 c3 a4 n4 c4 a5 n5 c5) :: .own (.slice p4 k4 l4) 72 5 ((isort (ltC cMem) H.Mems).map enc) :: .own (.slice p3 k3 l3) 84 3 ((isort (ltC cLink) (H.Links.map canon)).map enc) :: .own (.slice p2 k2 l2) 87 5 (C2.map cC) :: .own (.slice p1 k1 l1) 69 4 ((isort (ltC cCore) H.Cores).map enc) :: S) [[],[],[],[],[],[],[],[],[],[],[0]] [[],[],[],[],[],[],[],[0],[0],[0],[0]] hw ?_
        repeat (first | refine mY ?_ | refine mP ?_ | refine mPg ?_)
        refine mStoreE (j := 0) (k := k + 1) (r := enc y) ?_
        refine mEnd fun w g hw => ?_
        have hw : Wd Γ' (([.blk b3 (.cells #[.string H.Name, .slice p1 k1 l1, .slice p2 k2 l2, .slice p3 k3 l3, .slice p4 k4 l4, .slice q m d] 30)] ++ (.own (.slice q m d) 49 5 ((Z.map enc).set (k + 1) (enc y)) :: .blk bh (.cells (enc x).toArray 49) :: .blk b2 (.cells #[.string ⟨#[]⟩, .slice none 0 0, .slice none 0 0, .slice none 0 0, .slice none 0 0, .slice none 0 0] 30) :: .blk b1 (hwC H a1 n1 c1 a2 n2 c2 a3 n3 c3 a4 n4 c4 a5 n5 c5) :: .own (.slice p4 k4 l4) 72 5 ((isort (ltC cMem) H.Mems).map enc) :: .own (.slice p3 k3 l3) 84 3 ((isort (ltC cLink) (H.Links.map canon)).map enc) :: .own (.slice p2 k2 l2) 87 5 (C2.map cC) :: .own (.slice p1 k1 l1) 69 4 ((isort (ltC cCore) H.Cores).map enc) :: S)) ++ []) w := hw
        rw [List.append_nil] at hw
        repeat (first | refine byW ?_ | (refine byV ?_; intro w hw))
        refine lStoreE (k := k) (i := 1) (r := enc x) ?_ (hx := by show Value.pointer _ = _; rw [show (((k + 1 : Nat) : Int) - 1).toNat = k by omega])
        intro w hw
        have hw : Wd Γ' (.blk b3 (.cells #[.string H.Name, .slice p1 k1 l1, .slice p2 k2 l2, .slice p3 k3 l3, .slice p4 k4 l4, .slice q m d] 30) :: .own (.slice q m d) 49 5 (((Z.map enc).set (k + 1) (enc y)).set k (enc x)) :: .blk bh (.cells (enc x).toArray 49) :: .blk b2 (.cells #[.string ⟨#[]⟩, .slice none 0 0, .slice none 0 0, .slice none 0 0, .slice none 0 0, .slice none 0 0] 30) :: .blk b1 (hwC H a1 n1 c1 a2 n2 c2 a3 n3 c3 a4 n4 c4 a5 n5 c5) :: .own (.slice p4 k4 l4) 72 5 ((isort (ltC cMem) H.Mems).map enc) :: .own (.slice p3 k3 l3) 84 3 ((isort (ltC cLink) (H.Links.map canon)).map enc) :: .own (.slice p2 k2 l2) 87 5 (C2.map cC) :: .own (.slice p1 k1 l1) 69 4 ((isort (ltC cCore) H.Cores).map enc) :: S) w := hw
        rw [← List.map_set, ← List.map_set] at hw
        have hw : Wd Γ' (.own (.slice q m d) 49 5 (((Z.set (k + 1) y).set k x).map enc) :: .blk b3 (.cells #[.string H.Name, .slice p1 k1 l1, .slice p2 k2 l2, .slice p3 k3 l3, .slice p4 k4 l4, .slice q m d] 30) :: .blk b2 (.cells #[.string ⟨#[]⟩, .slice none 0 0, .slice none 0 0, .slice none 0 0, .slice none 0 0, .slice none 0 0] 30) :: .blk b1 (hwC H a1 n1 c1 a2 n2 c2 a3 n3 c3 a4 n4 c4 a5 n5 c5) :: .own (.slice p4 k4 l4) 72 5 ((isort (ltC cMem) H.Mems).map enc) :: .own (.slice p3 k3 l3) 84 3 ((isort (ltC cLink) (H.Links.map canon)).map enc) :: .own (.slice p2 k2 l2) 87 5 (C2.map cC) :: .own (.slice p1 k1 l1) 69 4 ((isort (ltC cCore) H.Cores).map enc) :: S) w := (hw.ds [2]).ps [1]
        repeat (first | refine byW ?_ | (refine byV ?_; intro w hw))
        exact ⟨k, by omega, k, _, rfl, by omega, by simp; omega, hC, ⟨rfl, rfl, rfl, rfl, by show Value.int .i64 (((k + 1 : Nat) : Int) - 1) = _; rw [e1], trivial⟩, hw⟩
      · have h2 : (ltC cDev) x y = false := by first | (rw [lt_DevT]; simpa using h2) | simpa using h2
        rw [bubC_stop hx hy h2] at hC
        repeat (first | refine byW ?_ | (refine byV ?_; intro w hw))
        exact ⟨μ - 1, by omega, i + 1, Z, by omega, by omega, hZ, by rw [hB2, hC], ⟨rfl, rfl, rfl, rfl, trivial⟩, hw⟩
  have him : ¬ i < m := by have := of_decide_eq_false h; omega
  clear h
  rw [show m - i = 0 by omega] at hB
  have hB : isort (ltC cDev) H.Devs = Y := hB
  rw [← hB] at hw
  clear hB hY hμ hi him
  obtain ⟨⟨p5, k5, l5⟩, hv⟩ : ∃ t : Option Addr × Nat × Nat, t = (q, m, d) := ⟨_, rfl⟩
  have hv : Value.slice q m d = Value.slice p5 k5 l5 := by cases hv; rfl
  rw [hv] at hw
  clear hv hm
  repeat (first | refine byW ?_ | (refine byV ?_; intro w hw))
  refine lStore ?_
  intro w hw
  repeat (first | refine byW ?_ | (refine byV ?_; intro w hw))
  have hw : Wd Γ' (.own (.slice p5 k5 l5) 49 5 ((isort (ltC cDev) H.Devs).map enc) :: .blk b3 (.cells #[.string H.Name, .slice p1 k1 l1, .slice p2 k2 l2, .slice p3 k3 l3, .slice p4 k4 l4, .slice p5 k5 l5] 30) :: .blk b2 (.cells #[.string H.Name, .slice p1 k1 l1, .slice p2 k2 l2, .slice p3 k3 l3, .slice p4 k4 l4, .slice p5 k5 l5] 30) :: .blk b1 (hwC H a1 n1 c1 a2 n2 c2 a3 n3 c3 a4 n4 c4 a5 n5 c5) :: .own (.slice p4 k4 l4) 72 5 ((isort (ltC cMem) H.Mems).map enc) :: .own (.slice p3 k3 l3) 84 3 ((isort (ltC cLink) (H.Links.map canon)).map enc) :: .own (.slice p2 k2 l2) 87 5 (C2.map cC) :: .own (.slice p1 k1 l1) 69 4 ((isort (ltC cCore) H.Cores).map enc) :: S) w := hw
  have hsd : Wd Γ' (.own (.slice p1 k1 l1) 69 4 ((isort (ltC cCore) H.Cores).map enc) :: .own (.slice p2 k2 l2) 87 5 (C2.map cC) :: .own (.slice p3 k3 l3) 84 3 ((isort (ltC cLink) (H.Links.map canon)).map enc) :: .own (.slice p4 k4 l4) 72 5 ((isort (ltC cMem) H.Mems).map enc) :: .own (.slice p5 k5 l5) 49 5 ((isort (ltC cDev) H.Devs).map enc) :: S) w := (hw.ds [1, 1, 1]).ps [1, 2, 3, 4]
  exact ⟨[.agg #[.string H.Name, .slice p1 k1 l1, .slice p2 k2 l2, .slice p3 k3 l3, .slice p4 k4 l4, .slice p5 k5 l5]], ⟨resC (i := 2) hw rfl rfl rfl, trivial⟩, Γ', _, g2, rfl, _, _, _, _, _, C2, hB2, hCo, rfl, hsd⟩
end Go.Proofs.YtbngpfbjjklnbaaGreatDoor
end
/- The reference's Matrix, walked (printed by gen_j3.py). -/
section
open Go Mk
namespace Go.Proofs.YtbngpfbjjklnbaaGreatDoor
set_option maxHeartbeats 32000000
attribute [local irreducible] Calls
attribute [local irreducible] matL
def initM (i k : Int) : Mx := fun a b => if a < i then (if a = b then 0 else -1) else if a = i ∧ b < k then -1 else 0
theorem valid_endsR {H : HwT} (h : validS H = 0) {l : LinkT} (hl : l ∈ H.Links) : l.A ≠ l.B := by
  obtain ⟨-, h2, h3, -⟩ := valid_all h
  unfold coresRB at h3
  simp only [Bool.and_eq_true] at h3
  have := List.all_eq_true.1 h3.1.2.2 l hl
  unfold linkRB at this
  simp only [Bool.and_eq_true, decide_eq_true_eq] at this
  exact this.1.2
theorem initM_row {i k : Int} : matL (updM (initM i k) i k (-1)) = matL (initM i (k + 1)) := matL_congr fun a b _ _ => by
  unfold updM initM
  by_cases e : a = i ∧ b = k
  · rw [if_pos e, if_neg (by omega), if_pos (by omega)]
  · rw [if_neg e]
    by_cases e1 : a < i
    · rw [if_pos e1, if_pos e1]
    · rw [if_neg e1, if_neg e1]
      by_cases e2 : a = i ∧ b < k
      · rw [if_pos e2, if_pos (by omega)]
      · rw [if_neg e2, if_neg (by omega)]
theorem initM_diag {i : Int} : matL (updM (initM i 64) i i 0) = matL (initM (i + 1) 0) := matL_congr fun a b ha hb => by
  unfold nIn at ha hb
  unfold updM initM
  by_cases e : a = i ∧ b = i
  · rw [if_pos e, if_pos (show a < i + 1 by omega), if_pos (show a = b by omega)]
  · rw [if_neg e]
    by_cases e1 : a < i
    · rw [if_pos e1, if_pos (show a < i + 1 by omega)]
    · rw [if_neg e1]
      by_cases e2 : a = i
      · rw [if_pos (show a = i ∧ b < 64 by omega), if_pos (show a < i + 1 by omega), if_neg (show ¬ a = b by omega)]
      · rw [if_neg (show ¬ (a = i ∧ b < 64) by omega), if_neg (show ¬ a < i + 1 by omega), if_neg (show ¬ (a = i + 1 ∧ b < 0) by omega)]
theorem initM_start : matL (fun _ _ => 0) = matL (initM 0 0) := matL_congr fun a b ha hb => by
  unfold nIn at ha hb
  unfold initM
  rw [if_neg (by omega), if_neg (by omega)]
theorem initM_end : matL (initM 64 0) = matL (linkD []) := matL_congr fun a b ha hb => by
  unfold nIn at ha hb
  unfold initM linkD
  rw [if_pos (by omega)]; rfl
/-- All distances. -/
noncomputable def dstM (H : HwT) : Mx := fun a b => dstI (nbrL H.Links) a b
set_option maxRecDepth 8000 in
theorem Matrix_any {Γ : Gho} {u : Value} {H : HwT} [hh : HwR Γ u H] (hv : validS H = 0) {S : List Res} {w : World} (hw : Wd Γ S w) :
    Calls Tryz.prog 15 #[u] w fun e w' => e = .returned (.agg (matL (dstM H)).toArray) ∧ Wd Γ S w' := by
  obtain ⟨a1, n1, c1, a2, n2, c2, a3, n3, c3, a4, n4, c4, a5, n5, c5, cs, rfl, hcs, hok, hsz, r1, r2, r3, r4, r5⟩ := hh.h
  obtain ⟨hn3, hm3, hx3⟩ := rep_facts r3
  simp only [List.length_map] at hn3
  have hLk := valid_links hv
  have hLM : LinkM H.Links (linkD H.Links) := linkD_ok _ rfl (fun l hl => ⟨valid_endsR hv hl, (lats_ok hLk l hl).1⟩) (valid_keys hv)
  refine calls_of_WC Tryz.func15 rfl rfl ?_
  repeat (first | refine byW ?_ | (refine byV ?_; intro w hw))
  refine lBox ?_
  intro b1 w hw
  refine lAlloc ?_
  intro b2 w hw
  rw [matL_zero] at hw
  have hw : Wd Γ (.blk b2 (.cells (matL (fun _ _ => 0)).toArray 42) :: .blk b1 (hwC H a1 n1 c1 a2 n2 c2 a3 n3 c3 a4 n4 c4 a5 n5 c5) :: S) w := hw
  repeat (first | refine byW ?_ | (refine byV ?_; intro w hw))
  refine lAlloc ?_
  intro b3 w hw
  rw [matL_zero] at hw
  have hw : Wd Γ (.blk b3 (.cells (matL (fun _ _ => 0)).toArray 42) :: .blk b2 (.cells (matL (fun _ _ => 0)).toArray 42) :: .blk b1 (hwC H a1 n1 c1 a2 n2 c2 a3 n3 c3 a4 n4 c4 a5 n5 c5) :: S) w := hw
  rw [initM_start] at hw
  repeat (first | refine byW ?_ | (refine byV ?_; intro w hw))
  have hBW : Wd Γ (.blk b3 (.cells (matL (initM 0 0)).toArray 42) :: .blk b2 (.cells (matL (fun _ _ => 0)).toArray 42) :: .blk b1 (hwC H a1 n1 c1 a2 n2 c2 a3 n3 c3 a4 n4 c4 a5 n5 c5) :: S) w := by rw [initM_start]; exact hw
  clear hw
  refine W_loop (fun μ ρ w => ∃ i : Nat, μ + i = 64 ∧ Has ρ [(1, .pointer (some ⟨b1, 0, none⟩)), (2, .pointer (some ⟨b2, 0, none⟩)), (3, .pointer (some ⟨b3, 0, none⟩)), (4, .int .i64 i)] ∧ Wd Γ (.blk b3 (.cells (matL (initM i 0)).toArray 42) :: .blk b2 (.cells (matL (fun _ _ => 0)).toArray 42) :: .blk b1 (hwC H a1 n1 c1 a2 n2 c2 a3 n3 c3 a4 n4 c4 a5 n5 c5) :: S) w) 64 ⟨0, by omega, ⟨rfl, rfl, rfl, rfl, trivial⟩, hBW⟩ ?_
  clear hBW
  rintro μ ρ w ⟨i, hi, hρ, hw⟩
  rw [hρ.eq]
  clear hρ
  repeat (first | refine byW ?_ | (refine byV ?_; intro w hw))
  refine W_cond rfl (fun h => ?_) (fun h => ?_)
  · have hin : i < 64 := by have := of_decide_eq_true h; omega
    clear h
    have hiI : nIn (i : Int) := by unfold nIn; omega
    repeat (first | refine byW ?_ | (refine byV ?_; intro w hw))
    refine W_loop (fun μ2 ρ w => ∃ k : Nat, μ2 + k = 64 ∧ Has ρ [(1, .pointer (some ⟨b1, 0, none⟩)), (2, .pointer (some ⟨b2, 0, none⟩)), (3, .pointer (some ⟨b3, 0, none⟩)), (4, .int .i64 i), (5, .int .i64 k)] ∧ Wd Γ (.blk b3 (.cells (matL (initM i k)).toArray 42) :: .blk b2 (.cells (matL (fun _ _ => 0)).toArray 42) :: .blk b1 (hwC H a1 n1 c1 a2 n2 c2 a3 n3 c3 a4 n4 c4 a5 n5 c5) :: S) w) 64 ⟨0, by omega, ⟨rfl, rfl, rfl, rfl, rfl, trivial⟩, hw⟩ ?_
    clear hw
    rintro μ2 ρ w ⟨k, hk, hρ, hw⟩
    rw [hρ.eq]
    clear hρ
    repeat (first | refine byW ?_ | (refine byV ?_; intro w hw))
    refine W_cond rfl (fun h => ?_) (fun h => ?_)
    · have hkn : k < 64 := by have := of_decide_eq_true h; omega
      clear h
      have hkI : nIn (k : Int) := by unfold nIn; omega
      repeat (first | refine byW ?_ | (refine byV ?_; intro w hw))
      refine lStore (i := 0) (o := 0 + (i : Int).toNat * 64 + (k : Int).toNat * 1) (ho := by rw [List.size_toArray, matL_len]; omega) ?_
      intro w hw
      have hw : Wd Γ (.blk b3 (.cells (putCells (matL (initM i k)).toArray (0 + (i : Int).toNat * 64 + (k : Int).toNat * 1) [.int .i64 (-1)]) 42) :: .blk b2 (.cells (matL (fun _ _ => 0)).toArray 42) :: .blk b1 (hwC H a1 n1 c1 a2 n2 c2 a3 n3 c3 a4 n4 c4 a5 n5 c5) :: S) w := hw
      rw [putM _ hiI hkI, initM_row] at hw
      repeat (first | refine byW ?_ | (refine byV ?_; intro w hw))
      exact ⟨μ2 - 1, by omega, k + 1, by omega, ⟨rfl, rfl, rfl, rfl, rfl, trivial⟩, hw⟩
    · have hkn : k = 64 := by have := of_decide_eq_false h; omega
      subst hkn
      clear h
      have hw : Wd Γ (.blk b3 (.cells (matL (initM i 64)).toArray 42) :: .blk b2 (.cells (matL (fun _ _ => 0)).toArray 42) :: .blk b1 (hwC H a1 n1 c1 a2 n2 c2 a3 n3 c3 a4 n4 c4 a5 n5 c5) :: S) w := hw
      repeat (first | refine byW ?_ | (refine byV ?_; intro w hw))
      refine lStore (i := 0) (o := 0 + (i : Int).toNat * 64 + (i : Int).toNat * 1) (ho := by rw [List.size_toArray, matL_len]; omega) ?_
      intro w hw
      have hw : Wd Γ (.blk b3 (.cells (putCells (matL (initM i 64)).toArray (0 + (i : Int).toNat * 64 + (i : Int).toNat * 1) [.int .i64 0]) 42) :: .blk b2 (.cells (matL (fun _ _ => 0)).toArray 42) :: .blk b1 (hwC H a1 n1 c1 a2 n2 c2 a3 n3 c3 a4 n4 c4 a5 n5 c5) :: S) w := hw
      rw [putM _ hiI hiI, initM_diag] at hw
      repeat (first | refine byW ?_ | (refine byV ?_; intro w hw))
      exact ⟨μ - 1, by omega, i + 1, by omega, ⟨rfl, rfl, rfl, rfl, trivial⟩, hw⟩
  have hin : i = 64 := by have := of_decide_eq_false h; omega
  subst hin
  clear h hi
  have hw : Wd Γ (.blk b3 (.cells (matL (initM 64 0)).toArray 42) :: .blk b2 (.cells (matL (fun _ _ => 0)).toArray 42) :: .blk b1 (hwC H a1 n1 c1 a2 n2 c2 a3 n3 c3 a4 n4 c4 a5 n5 c5) :: S) w := hw
  rw [initM_end, show ([] : List LinkT) = H.Links.take 0 from rfl] at hw
  repeat (first | refine byW ?_ | (refine byV ?_; intro w hw))
  refine W_loop (fun μ ρ w => ∃ k : Nat, μ + k = n3 ∧ Has ρ [(1, .pointer (some ⟨b1, 0, none⟩)), (2, .pointer (some ⟨b2, 0, none⟩)), (3, .pointer (some ⟨b3, 0, none⟩)), (6, .int .i64 k)] ∧ Wd Γ (.blk b3 (.cells (matL (linkD (H.Links.take k))).toArray 42) :: .blk b2 (.cells (matL (fun _ _ => 0)).toArray 42) :: .blk b1 (hwC H a1 n1 c1 a2 n2 c2 a3 n3 c3 a4 n4 c4 a5 n5 c5) :: S) w) n3 ⟨0, by omega, ⟨rfl, rfl, rfl, rfl, trivial⟩, hw⟩ ?_
  clear hw
  rintro μ ρ w ⟨k, hk, hρ, hw⟩
  rw [hρ.eq]
  clear hρ
  repeat (first | refine byW ?_ | (refine byV ?_; intro w hw))
  refine W_cond rfl (fun h => ?_) (fun h => ?_)
  · have hkn : k < n3 := by have := of_decide_eq_true h; omega
    clear h
    obtain ⟨l, hl⟩ := get_lt (l := H.Links) (k := k) (by omega)
    obtain ⟨hA0, hA1, hB0, hB1, -⟩ := hLk.2 l (List.mem_of_getElem? hl)
    have hAI : nIn l.A := ⟨hA0, hA1⟩
    have hBI : nIn l.B := ⟨hB0, hB1⟩
    have hsn := linkD_snoc hl
    generalize linkD (H.Links.take k) = D at *
    repeat (first | refine byW ?_ | (refine byV ?_; intro w hw))
    refine lAlloc ?_
    intro b7 w hw
    refine lStore ?_
    intro w hw
    have hw : Wd Γ ([.blk b7 (.cells (enc l).toArray 84)] ++ (.blk b3 (.cells (matL (D)).toArray 42) :: .blk b2 (.cells (matL (fun _ _ => 0)).toArray 42) :: .blk b1 (hwC H a1 n1 c1 a2 n2 c2 a3 n3 c3 a4 n4 c4 a5 n5 c5) :: S)) w := hw
    repeat (first | refine byW ?_ | (refine byV ?_; intro w hw))
    refine W_mix1 [.blk b7 (.cells (enc l).toArray 84)] _ [[],[],[],[],[],[],[],[],[0]] [[],[],[],[],[],[],[],[],[0]] hw ?_
    repeat (first | refine mY ?_ | refine mP ?_ | refine mPg ?_)
    refine mStoreC (o := 0 + l.A.toNat * 64 + l.B.toNat * 1) (ho := by rw [List.size_toArray, matL_len]; omega) ?_
    refine mEnd0 ?_
    clear hw
    intro w hw
    have hw : Wd Γ ([.blk b7 (.cells (enc l).toArray 84)] ++ ((.blk b3 (.cells (putCells (matL D).toArray (0 + l.A.toNat * 64 + l.B.toNat * 1) [.int .i64 l.Latency]) 42) :: .blk b2 (.cells (matL (fun _ _ => 0)).toArray 42) :: .blk b1 (hwC H a1 n1 c1 a2 n2 c2 a3 n3 c3 a4 n4 c4 a5 n5 c5) :: S) ++ [])) w := hw
    rw [putM _ hAI hBI, List.append_nil] at hw
    repeat (first | refine byW ?_ | (refine byV ?_; intro w hw))
    refine W_mix1 [.blk b7 (.cells (enc l).toArray 84)] _ [[],[],[],[],[],[],[],[],[0]] [[],[],[],[],[],[],[],[],[0]] hw ?_
    repeat (first | refine mY ?_ | refine mP ?_ | refine mPg ?_)
    refine mStoreC (o := 0 + l.B.toNat * 64 + l.A.toNat * 1) (ho := by rw [List.size_toArray, matL_len]; omega) ?_
    refine mEnd0 ?_
    clear hw
    intro w hw
    have hw : Wd Γ ([.blk b7 (.cells (enc l).toArray 84)] ++ ((.blk b3 (.cells (putCells (matL (updM D l.A l.B l.Latency)).toArray (0 + l.B.toNat * 64 + l.A.toNat * 1) [.int .i64 l.Latency]) 42) :: .blk b2 (.cells (matL (fun _ _ => 0)).toArray 42) :: .blk b1 (hwC H a1 n1 c1 a2 n2 c2 a3 n3 c3 a4 n4 c4 a5 n5 c5) :: S) ++ [])) w := hw
    rw [putM _ hBI hAI, List.append_nil] at hw
    have hw : Wd Γ (.blk b3 (.cells (matL (linkStep D l)).toArray 42) :: .blk b2 (.cells (matL (fun _ _ => 0)).toArray 42) :: .blk b1 (hwC H a1 n1 c1 a2 n2 c2 a3 n3 c3 a4 n4 c4 a5 n5 c5) :: S) w := hw.drop
    rw [hsn] at hw
    repeat (first | refine byW ?_ | (refine byV ?_; intro w hw))
    exact ⟨μ - 1, by omega, k + 1, by omega, ⟨rfl, rfl, rfl, rfl, trivial⟩, hw⟩
  have hkn : ¬ k < n3 := by have := of_decide_eq_false h; omega
  rw [List.take_of_length_le (by omega)] at hw
  clear h hkn hk
  have hF0 : FW (linkD H.Links) (linkD H.Links) 0 0 0 := fun a b ha hb => by
    unfold nIn at ha hb
    rw [if_neg (by omega)]
    exact OkM.zero hLM.neg ha hb
  repeat (first | refine byW ?_ | (refine byV ?_; intro w hw))
  refine W_loop (fun μ ρ w => ∃ (m : Nat) (D : Mx), μ + m = 64 ∧ FW (linkD H.Links) D m 0 0 ∧ Has ρ [(2, .pointer (some ⟨b2, 0, none⟩)), (3, .pointer (some ⟨b3, 0, none⟩)), (8, .int .i64 m)] ∧ Wd Γ (.blk b3 (.cells (matL (D)).toArray 42) :: .blk b2 (.cells (matL (fun _ _ => 0)).toArray 42) :: .blk b1 (hwC H a1 n1 c1 a2 n2 c2 a3 n3 c3 a4 n4 c4 a5 n5 c5) :: S) w) 64 ⟨0, _, by omega, hF0, ⟨rfl, rfl, rfl, trivial⟩, hw⟩ ?_
  clear hw hF0
  rintro μ ρ w ⟨m, D, hm, hF, hρ, hw⟩
  rw [hρ.eq]
  clear hρ
  repeat (first | refine byW ?_ | (refine byV ?_; intro w hw))
  refine W_cond rfl (fun h => ?_) (fun h => ?_)
  · have hmn : m < 64 := by have := of_decide_eq_true h; omega
    clear h
    have hmI : nIn (m : Int) := by unfold nIn; omega
    repeat (first | refine byW ?_ | (refine byV ?_; intro w hw))
    refine W_loop (fun μ2 ρ w => ∃ (i : Nat) (D : Mx), μ2 + i = 64 ∧ FW (linkD H.Links) D m i 0 ∧ Has ρ [(2, .pointer (some ⟨b2, 0, none⟩)), (3, .pointer (some ⟨b3, 0, none⟩)), (8, .int .i64 m), (9, .int .i64 i)] ∧ Wd Γ (.blk b3 (.cells (matL (D)).toArray 42) :: .blk b2 (.cells (matL (fun _ _ => 0)).toArray 42) :: .blk b1 (hwC H a1 n1 c1 a2 n2 c2 a3 n3 c3 a4 n4 c4 a5 n5 c5) :: S) w) 64 ⟨0, D, by omega, hF, ⟨rfl, rfl, rfl, rfl, trivial⟩, hw⟩ ?_
    clear hw hF
    rintro μ2 ρ w ⟨i, D, hi, hF, hρ, hw⟩
    rw [hρ.eq]
    clear hρ
    repeat (first | refine byW ?_ | (refine byV ?_; intro w hw))
    refine W_cond rfl (fun h => ?_) (fun h => ?_)
    · have hin : i < 64 := by have := of_decide_eq_true h; omega
      clear h
      have hiI : nIn (i : Int) := by unfold nIn; omega
      repeat (first | refine byW ?_ | (refine byV ?_; intro w hw))
      refine W_loop (fun μ3 ρ w => ∃ (k : Nat) (D : Mx), μ3 + k = 64 ∧ FW (linkD H.Links) D m i k ∧ Has ρ [(2, .pointer (some ⟨b2, 0, none⟩)), (3, .pointer (some ⟨b3, 0, none⟩)), (8, .int .i64 m), (9, .int .i64 i), (10, .int .i64 k)] ∧ Wd Γ (.blk b3 (.cells (matL (D)).toArray 42) :: .blk b2 (.cells (matL (fun _ _ => 0)).toArray 42) :: .blk b1 (hwC H a1 n1 c1 a2 n2 c2 a3 n3 c3 a4 n4 c4 a5 n5 c5) :: S) w) 64 ⟨0, D, by omega, hF, ⟨rfl, rfl, rfl, rfl, rfl, trivial⟩, hw⟩ ?_
      clear hw hF
      rintro μ3 ρ w ⟨k, D, hk, hF, hρ, hw⟩
      rw [hρ.eq]
      clear hρ
      repeat (first | refine byW ?_ | (refine byV ?_; intro w hw))
      refine W_cond rfl (fun h => ?_) (fun h => ?_)
      · have hkn : k < 64 := by have := of_decide_eq_true h; omega
        clear h
        have hkI : nIn (k : Int) := by unfold nIn; omega
        have g1 := hF.bound hLM hLk hiI hmI
        have g2 := hF.bound hLM hLk hmI hkI
        have g3 := hF.bound hLM hLk hiI hkI
        have hnx := hF.next hmI hiI hkI
        have q1 := getM D hiI hmI
        have q2 := getM D hmI hkI
        have q3 := getM D hiI hkI
        repeat (first | refine byW ?_ | (refine byV ?_; intro w hw))
        refine W_quiet (by kernel_rfl) (by kernel_rfl) hw ?_
        repeat (first | refine Q_nil ?_ | (apply Q_plain; first | (apply Q_go; first | refine qP ?_ | refine qPg ?_) | refine qY ?_) | (apply Q_guarded; first | (apply Q_go; first | refine qPG ?_ | refine qPgG ?_) | refine qG ?_))
        refine qY (v := .int .i64 (D i m)) ?_ (hy := fun w hw => y_l1b (i := 0) hw rfl rfl q1)
        repeat (first | refine Q_nil ?_ | (apply Q_plain; first | (apply Q_go; first | refine qP ?_ | refine qPg ?_) | refine qY ?_) | (apply Q_guarded; first | (apply Q_go; first | refine qPG ?_ | refine qPgG ?_) | refine qG ?_))
        refine qG (v := .int .i64 (D m k)) ?_ (hy := fun hc w hw => y_l1b (i := 0) hw (gvT hc rfl) rfl q2)
        repeat (first | refine Q_nil ?_ | (apply Q_plain; first | (apply Q_go; first | refine qP ?_ | refine qPg ?_) | refine qY ?_) | (apply Q_guarded; first | (apply Q_go; first | refine qPG ?_ | refine qPgG ?_) | refine qG ?_))
        refine qG (v := .int .i64 (D i k)) ?_ (hy := fun hc w hw => y_l1b (i := 0) hw (gvT hc rfl) rfl q3)
        repeat (first | refine Q_nil ?_ | (apply Q_plain; first | (apply Q_go; first | refine qP ?_ | refine qPg ?_) | refine qY ?_) | (apply Q_guarded; first | (apply Q_go; first | refine qPG ?_ | refine qPgG ?_) | refine qG ?_))
        refine qG (v := .int .i64 (D i m)) ?_ (hy := fun hc w hw => y_l1b (i := 0) hw (gvT hc rfl) rfl q1)
        repeat (first | refine Q_nil ?_ | (apply Q_plain; first | (apply Q_go; first | refine qP ?_ | refine qPg ?_) | refine qY ?_) | (apply Q_guarded; first | (apply Q_go; first | refine qPG ?_ | refine qPgG ?_) | refine qG ?_))
        refine qG (v := .int .i64 (D m k)) ?_ (hy := fun hc w hw => y_l1b (i := 0) hw (gvT hc rfl) rfl q2)
        repeat (first | refine Q_nil ?_ | (apply Q_plain; first | (apply Q_go; first | refine qP ?_ | refine qPg ?_) | refine qY ?_) | (apply Q_guarded; first | (apply Q_go; first | refine qPG ?_ | refine qPgG ?_) | refine qG ?_))
        refine qG (v := .int .i64 (D i k)) ?_ (hy := fun hc w hw => y_l1b (i := 0) hw (gvT hc rfl) rfl q3)
        repeat (first | refine Q_nil ?_ | (apply Q_plain; first | (apply Q_go; first | refine qP ?_ | refine qPg ?_) | refine qY ?_) | (apply Q_guarded; first | (apply Q_go; first | refine qPG ?_ | refine qPgG ?_) | refine qG ?_))
        intro w hw
        refine W_cond rfl (fun h => ?_) (fun h => ?_)
        · have h : relaxB D m i k = true := h
          rw [if_pos h] at hnx
          repeat (first | refine byW ?_ | (refine byV ?_; intro w hw))
          refine W_mix1 [] (.blk b3 (.cells (matL (D)).toArray 42) :: .blk b2 (.cells (matL (fun _ _ => 0)).toArray 42) :: .blk b1 (hwC H a1 n1 c1 a2 n2 c2 a3 n3 c3 a4 n4 c4 a5 n5 c5) :: S) [[],[],[],[],[],[],[],[],[],[],[],[],[],[],[],[0]] [[],[],[],[],[],[],[0],[],[],[],[],[0],[],[],[],[0]] hw ?_
          repeat (first | refine mY ?_ | refine mP ?_ | refine mPg ?_)
          refine mY (v := .int .i64 (D i m)) ?_ (hy := fun Y w g hw => y_l1b (i := 0) hw rfl rfl q1)
          repeat (first | refine mY ?_ | refine mP ?_ | refine mPg ?_)
          refine mY (v := .int .i64 (D m k)) ?_ (hy := fun Y w g hw => y_l1b (i := 0) hw rfl rfl q2)
          repeat (first | refine mY ?_ | refine mP ?_ | refine mPg ?_)
          refine mStoreC (o := 0 + (i : Int).toNat * 64 + (k : Int).toNat * 1) (ho := by rw [List.size_toArray, matL_len]; omega) ?_
          refine mEnd0 ?_
          clear hw
          intro w hw
          have hw : Wd Γ ((.blk b3 (.cells (putCells (matL D).toArray (0 + (i : Int).toNat * 64 + (k : Int).toNat * 1) [.int .i64 (D i m + D m k)]) 42) :: .blk b2 (.cells (matL (fun _ _ => 0)).toArray 42) :: .blk b1 (hwC H a1 n1 c1 a2 n2 c2 a3 n3 c3 a4 n4 c4 a5 n5 c5) :: S) ++ []) w := hw
          rw [putM _ hiI hkI, List.append_nil] at hw
          repeat (first | refine byW ?_ | (refine byV ?_; intro w hw))
          exact ⟨μ3 - 1, by omega, k + 1, _, by omega, hnx, ⟨rfl, rfl, rfl, rfl, rfl, trivial⟩, hw⟩
        · have h : relaxB D m i k = false := h
          rw [if_neg (by rw [h]; simp)] at hnx
          repeat (first | refine byW ?_ | (refine byV ?_; intro w hw))
          exact ⟨μ3 - 1, by omega, k + 1, D, by omega, hnx, ⟨rfl, rfl, rfl, rfl, rfl, trivial⟩, hw⟩
      · have hkn : k = 64 := by have := of_decide_eq_false h; omega
        subst hkn
        have hF : FW (linkD H.Links) D m i 64 := hF
        repeat (first | refine byW ?_ | (refine byV ?_; intro w hw))
        exact ⟨μ2 - 1, by omega, i + 1, D, by omega, hF.row, ⟨rfl, rfl, rfl, rfl, trivial⟩, hw⟩
    · have hin : i = 64 := by have := of_decide_eq_false h; omega
      subst hin
      have hF : FW (linkD H.Links) D m 64 0 := hF
      repeat (first | refine byW ?_ | (refine byV ?_; intro w hw))
      exact ⟨μ - 1, by omega, m + 1, D, by omega, hF.phase, ⟨rfl, rfl, rfl, trivial⟩, hw⟩
  have hmn : m = 64 := by have := of_decide_eq_false h; omega
  subst hmn
  have hfin : matL D = matL (dstM H) := matL_congr fun a b ha hb => by
    have h1 := hF a b ha hb
    unfold nIn at ha hb
    rw [if_neg (by omega)] at h1
    exact (OkM.dst hLM hLk ha h1).symm
  rw [hfin] at hw
  generalize dstM H = DM at *
  clear h
  repeat (first | refine byW ?_ | (refine byV ?_; intro w hw))
  refine lY (v := .agg (matL DM).toArray) ?_ (hy := y_lwb (i := 0) hw rfl rfl (by simp [matL_len]))
  refine lStore (i := 1) (vs := matL DM) ?_ (hl := matL_len DM) (h1 := by rw [List.all_eq_true]; exact matL_one DM) (ho := by simp [matL_len]) (hv := by simp [Value.cells])
  intro w hw
  have hw : Wd Γ (.blk b3 (.cells (matL (DM)).toArray 42) :: .blk b2 (.cells (putCells (matL (fun _ _ => 0)).toArray 0 (matL DM)) 42) :: .blk b1 (hwC H a1 n1 c1 a2 n2 c2 a3 n3 c3 a4 n4 c4 a5 n5 c5) :: S) w := hw
  rw [show putCells (matL (fun _ _ => 0)).toArray 0 (matL DM) = (matL DM).toArray from by unfold putCells; simp [matL_len]] at hw
  repeat (first | refine byW ?_ | (refine byV ?_; intro w hw))
  exact ⟨[.agg (matL DM).toArray], ⟨resC (i := 1) hw rfl rfl (by simp [matL_len]), trivial⟩, rfl, hw.ds [0, 0, 0]⟩
end Go.Proofs.YtbngpfbjjklnbaaGreatDoor
end
/- Chapter 07: what Interrupts answers, in the words of the laws (no program in sight). -/
section
open Go Mk
namespace Go.Proofs.YtbngpfbjjklnbaaGreatDoor
set_option maxHeartbeats 16000000
/-! ### the lists -/
theorem bsortI_perm (l : List Int) : (bsort ltI l).Perm l := by rw [bsort_eq]; exact (isort_spec ltZ_lt3 l).1
theorem bsortI_sorted {l : List Int} (h : l.Nodup) : (bsort ltI l).Pairwise (· < ·) := by
  have h1 := (isort_spec ltZ_lt3 l).2
  rw [← bsort_eq] at h1
  have h2 : (bsort ltI l).Nodup := (bsortI_perm l).nodup_iff.2 h
  refine (h1.and h2).imp fun {a b} hab => ?_
  have := hab.1
  unfold ltZ at this
  have h3 : ¬ b < a := of_decide_eq_false this
  have h4 := hab.2
  omega
theorem coreIds_nodup {H : HwT} (hv : validS H = 0) : (H.Cores.map (·.ID)).Nodup := by
  have hu := (valid_iff.1 hv).u
  unfold uniqueB at hu
  simp only [Bool.and_eq_true, decide_eq_true_eq] at hu
  exact hu.2.1.1.1.1.1
theorem irqs_nodup {H : HwT} (hv : validS H = 0) : (H.Devs.map (·.IRQ)).Nodup := by
  have hu := (valid_iff.1 hv).u
  unfold uniqueB at hu
  simp only [Bool.and_eq_true, decide_eq_true_eq] at hu
  first | exact hu.2.1.2 | exact hu.2.1.1.2 | exact hu.2.1.1.1.2 | exact hu.2.2
/-- The devices in order are the normalized ones. -/
theorem devs_norm {H : HwT} (hv : validS H = 0) {ys : List DevT} (hp : ys.Perm H.Devs) (hs : ys.Pairwise fun a b => a.IRQ ≤ b.IRQ) : (normS H).Devs = ys := by
  obtain ⟨h1, h2⟩ := isort_spec cDev_lt3 H.Devs
  refine sorted_uniq (lt := ltC cDev) (fun x hx y hy e1 e2 => ?_) (hs.imp fun {a b} h => ?_) h2 (h1.trans hp.symm)
  · rw [lt_DevT] at e1 e2
    have g1 := of_decide_eq_false e1
    have g2 := of_decide_eq_false e2
    exact nodup_key (irqs_nodup hv) x (hp.mem_iff.1 hx) y (hp.mem_iff.1 hy) (by omega)
  · rw [lt_DevT]; exact decide_eq_false (by omega)
theorem norm_sz {H : HwT} (h : HwSz H) : HwSz (normS H) := by
  obtain ⟨h1, h2, h3, h4⟩ := h
  refine ⟨h1, fun c hc => ?_, fun c hc => h3 c ((isort_spec cMem_lt3 _).1.mem_iff.1 hc), fun c hc => h4 c ((isort_spec cDev_lt3 _).1.mem_iff.1 hc)⟩
  have hc2 := (isort_spec cCacheT_lt3 _).1.mem_iff.1 hc
  obtain ⟨x, hx, rfl⟩ := List.mem_map.1 hc2
  exact h2 x hx
/-! ### an array of 32 numbers -/
/-! ### routes -/
structure RtOk (H : HwT) (LS : List Int) (cap : Nat) (cs : List CoreT) (ys : List DevT) (x : List Int) : Prop where
  val : validS H = 0
  csub : ∀ c ∈ cs, c ∈ H.Cores
  ids : cs.map (·.ID) = LS
  srt : LS.Pairwise (· < ·)
  dev : ∀ d ∈ ys, d ∈ H.Devs
  len : x.length = ys.length
  best : Best cs.length cap (aF (costsA H cs ys)) x
section
variable {H : HwT} {LS : List Int} {cap : Nat} {cs : List CoreT} {ys : List DevT} {x : List Int}
def rtsL (cs : List CoreT) (ys : List DevT) (x : List Int) : List (Int × Int) := (ys.zip x).map fun p => (p.1.IRQ, (cs.getD p.2.toNat default).ID)
theorem rtsL_len (h : x.length = ys.length) : (rtsL cs ys x).length = ys.length := by unfold rtsL; rw [List.length_map, List.length_zip]; omega
/-- A live core: its ID is in range, it is found, its node is in range. -/
theorem RtOk.core (h : RtOk H LS cap cs ys x) {k : Nat} {c : CoreT} (hc : cs[k]? = some c) : LS[k]? = some c.ID ∧ findC H.Cores c.ID = (c, true) ∧ (0 ≤ c.ID ∧ c.ID < 32) ∧ nIn c.Node ∧ coreN H c.ID = c.Node := by
  have hm := h.csub c (List.mem_of_getElem? hc)
  have hf : findC H.Cores c.ID = (c, true) := by
    have h1 := find_of_id (List.mem_map_of_mem (f := (·.ID)) hm)
    obtain ⟨h2, h3⟩ := findC_in h1
    have h4 := nodup_key (coreIds_nodup h.val) _ h2 _ hm h3
    exact Prod.ext h4 h1
  refine ⟨by rw [← h.ids, List.getElem?_map, hc]; rfl, hf, ?_, core_node h.val hm, by unfold coreN; rw [hf]⟩
  have hr := (valid_iff.1 h.val).r
  unfold coresRB at hr
  simp only [Bool.and_eq_true, List.all_eq_true] at hr
  have := hr.1 c hm
  unfold coreRB at this
  simp at this
  omega
theorem RtOk.at (h : RtOk H LS cap cs ys x) {i : Nat} {d : DevT} (hd : ys[i]? = some d) : ∃ (k : Nat) (c : CoreT), x[i]? = some (k : Int) ∧ atI x i = k ∧ cs[k]? = some c ∧ (rtsL cs ys x)[i]? = some (d.IRQ, c.ID) := by
  have hi := (List.getElem?_eq_some_iff.1 hd).1
  have hxl : i < x.length := by rw [h.len]; exact hi
  obtain ⟨v, hxi⟩ := get_lt (l := x) (k := i) hxl
  have hr := h.best.full.rng _ (List.mem_of_getElem? hxi)
  obtain ⟨k, hk⟩ : ∃ k : Nat, v = k := ⟨v.toNat, by omega⟩
  subst hk
  obtain ⟨c, hc⟩ := get_lt (l := cs) (k := k) (by omega)
  refine ⟨k, c, hxi, by unfold atI; rw [List.getD_eq_getElem?_getD, hxi]; rfl, hc, ?_⟩
  unfold rtsL
  rw [List.getElem?_map, zip_get hd hxi]
  show some (d.IRQ, (cs.getD ((k : Int).toNat) default).ID) = _
  rw [show ((k : Int)).toNat = k from rfl, List.getD_eq_getElem?_getD, hc]; rfl
/-- The distance in the reference's matrix is the cost. -/
theorem RtOk.dist (h : RtOk H LS cap cs ys x) {i k : Nat} {d : DevT} {c : CoreT} (hd : ys[i]? = some d) (hc : cs[k]? = some c) : nIn d.Node ∧ dstM H d.Node c.Node = aF (costsA H cs ys) i k ∧ 0 ≤ aF (costsA H cs ys) i k ∧ aF (costsA H cs ys) i k ≤ 63000000 := by
  have hdm := h.dev d (List.mem_of_getElem? hd)
  obtain ⟨h1, h2, h3⟩ := dev_cost h.val hdm (h.csub c (List.mem_of_getElem? hc))
  rw [costsA_at hd hc]
  exact ⟨(dev_rng h.val hdm).1, by rw [h3]; rfl, h1, h2⟩
end
theorem gen_le {H : HwT} {nodes sh first irq : Int} (g : Gen H nodes sh first irq) : HwLe H := by
  obtain ⟨h0, h1, h2, h3, h4, h5⟩ := counts_le (gen_counts g)
  refine ⟨by omega, by omega, by omega, by omega, by omega, fun x hx => ?_⟩
  obtain ⟨k, T, hT, hk, hc⟩ := g.ca
  rw [hc] at hx
  obtain ⟨p, hp, rfl⟩ := List.mem_map.1 hx
  have := (cacheK_cores (cacheK hT hk hp)).length_le
  rw [gen_ids g] at this
  omega
end Go.Proofs.YtbngpfbjjklnbaaGreatDoor
end
/- Chapter 07: AffinityRoom, walked (expanded by mac.py from src/A35.t). -/
section
open Go Mk
namespace Go.Proofs.YtbngpfbjjklnbaaGreatDoor
set_option maxHeartbeats 64000000
attribute [local irreducible] Calls
attribute [local irreducible] matL
set_option maxRecDepth 8000 in
theorem AffinityRoom_any {Γ : Gho} [hBr : BrG Γ] {S : List Res} {w : World} {a ap : Option Addr} {m c np cp : Nat} {L PK : List Int} (hr : RepS Γ (.slice a m c) 1 (intRows L)) (hp : RepS Γ (.slice ap np cp) 1 (intRows PK)) (hw : Wd Γ S w) :
    Calls Tryz.prog 4 #[.slice a m c, .slice ap np cp] w fun e w' => ∃ Γ', Γ.le Γ' ∧ e = .returned (.bool true) ∧ Wd Γ' S w' := by
  obtain ⟨hnp, hncp, hccp⟩ := rep_facts hp
  obtain ⟨hnr, hncr, hccr⟩ := rep_facts hr
  have hnp : np = PK.length := by simpa [intRows] using hnp
  have hnr : m = L.length := by simpa [intRows] using hnr
  refine calls_of_W Tryz.func4 rfl rfl ?_
  repeat (first | refine byW ?_ | (refine byV ?_; intro w hw))
  refine W_cond rfl (fun h => ?_) (fun h => ?_)
  · repeat (first | refine byW ?_ | (refine byV ?_; intro w hw))
    exact ⟨_, rfl, Γ, .refl _, rfl, hw⟩
  have hLs : ¬ (200 < (m : Int) ∨ 40 < (np : Int)) := by simpa using h
  clear h
  repeat (first | refine byW ?_ | (refine byV ?_; intro w hw))
  refine lCall ((Hardware_any hr hw).mono fun r w hq => ?_)
  clear hw
  obtain ⟨Γ1, H, u, nodes, sh, first, irq, hle1, rfl, hG, ho⟩ := hq
  refine ⟨_, rfl, ?_⟩
  have hv := gen_valid hG
  have hSz := gen_sz hG
  have hWd := gen_wide hG
  have hnc := hG.nc
  have hnm := hG.nm'
  have hp1 := hp.mono hle1
  have hBr1 : BrG Γ1 := hBr.mono hle1
  obtain ⟨Γ2, hle2, hR, hw⟩ := ho.freeze (gen_sz hG)
  clear ho hr
  obtain ⟨a1, n1, c1, a2, n2, c2, a3, n3, c3, a4, n4, c4, a5, n5, c5, cs', rfl, hcs, hok, hsz, r1, r2, r3, r4, r5⟩ := hR.h
  obtain ⟨hn1, hnc1, hcc1⟩ := rep_facts r1
  obtain ⟨hn4, hnc4, hcc4⟩ := rep_facts r4
  simp only [List.length_map] at hn1 hn4
  repeat (first | refine byW ?_ | (refine byV ?_; intro w hw))
  refine lAlloc ?_
  intro b5 w hw
  refine lStore ?_
  intro w hw
  have hw : Wd Γ2 (.blk b5 (hwC H a1 n1 c1 a2 n2 c2 a3 n3 c3 a4 n4 c4 a5 n5 c5) :: S) w := hw
  repeat (first | refine byW ?_ | (refine byV ?_; intro w hw))
  refine lCall ((IDs_any (xs := H.Cores) (nm := H.Name) (RepS.rdS r1) (by omega) hw).mono fun e w hq => ?_)
  clear hw
  obtain ⟨vi, rfl, hw⟩ := hq
  refine ⟨_, rfl, ?_⟩
  obtain ⟨ai, ni, ci, rfl, hni, hnci, hcci⟩ := hw.own_shape (i := 0) rfl
  have hni : ni = H.Cores.length := by simpa [intRows] using hni
  obtain ⟨Γ3, hle3, q1, hw1⟩ := hw.freeze
  clear hw
  have hw := hw1
  clear hw1
  repeat (first | refine byW ?_ | (refine byV ?_; intro w hw))
  refine lCall ((Subset_any q1 ((hp1.mono hle2).mono hle3) (by simp; omega) (by omega) hw).mono fun e w hq => ?_)
  clear hw
  obtain ⟨vl, rfl, hw⟩ := hq
  refine ⟨_, rfl, ?_⟩
  obtain ⟨rest, hrest⟩ := subF_perm PK PK.length 0 (H.Cores.map (·.ID))
  have hlvl : (subF PK PK.length 0 (H.Cores.map (·.ID))).length ≤ 40 := Nat.le_trans (subF_len _ _ _ _) (by omega)
  generalize subF PK PK.length 0 (H.Cores.map (·.ID)) = LV at *
  obtain ⟨al, nl, cl, rfl, hnl, hncl, hccl⟩ := hw.own_shape (i := 0) rfl
  have hnl : nl = LV.length := by simpa [intRows] using hnl
  obtain ⟨Γ4, hle4, rl, hw1⟩ := hw.freeze
  clear hw
  have hw : Wd Γ4 (.blk b5 (hwC H a1 n1 c1 a2 n2 c2 a3 n3 c3 a4 n4 c4 a5 n5 c5) :: S) w := hw1
  clear hw1
  have hR4 := hR.mono (hle3.trans hle4)
  haveI hBr4 : BrG Γ4 := hBr1.mono (hle2.trans (hle3.trans hle4))
  have r4 := r4.mono (hle3.trans hle4)
  have hle : Γ.le Γ4 := hle1.trans (hle2.trans (hle3.trans hle4))
  have hlive := live_ok hv hrest
  clear hle1 hle2 hle3 hle4 hBr1 hp1 q1 hBr
  repeat (first | refine byW ?_ | (refine byV ?_; intro w hw))
  refine lCall ((SortInts_any (RepS.rdS rl) (by omega) hw).mono fun e w hq => ?_)
  clear hw
  obtain ⟨vs, rfl, hw⟩ := hq
  refine ⟨_, rfl, ?_⟩
  have hidn : (H.Cores.map (·.ID)).Nodup := coreIds_nodup hv
  have hLVn : LV.Nodup := (List.nodup_append.1 (hrest.nodup_iff.2 hidn)).1
  have hLSs := bsortI_sorted hLVn
  have hLSp := bsortI_perm LV
  generalize bsort ltI LV = LS at *
  obtain ⟨al2, nl2, cl2, rfl, hnl2, -, -⟩ := hw.own_shape (i := 0) rfl
  have hnl2 : nl2 = LS.length := by simpa [intRows] using hnl2
  have hLSl : LS.length ≤ 40 := by rw [hLSp.length_eq]; exact hlvl
  have hrest : (LS ++ rest).Perm (H.Cores.map (·.ID)) := (hLSp.append_right rest).trans hrest
  have hlive := live_ok hv hrest
  obtain ⟨Γ5, hle5, rl, hw1⟩ := hw.freeze
  clear hw
  have hw := hw1
  clear hw1
  have hR5 := hR4.mono hle5
  haveI hBr5 : BrG Γ5 := hBr4.mono hle5
  have hle : Γ.le Γ5 := hle.trans hle5
  clear hLVn hLSp hnl hlvl hle5
  have hnd' := hG.nd'
  obtain ⟨hn5, hnc5, hcc5⟩ := rep_facts r5
  simp only [List.length_map] at hn5
  repeat (first | refine byW ?_ | (refine byV ?_; intro w hw))
  refine W_cond rfl (fun h => ?_) (fun h => ?_)
  · have h : nl2 = 0 := by have := of_decide_eq_true h; omega
    repeat (first | refine byW ?_ | (refine byV ?_; intro w hw))
    exact ⟨_, rfl, Γ5, hle, rfl, hw.drop⟩
  have hl0 : ¬ nl2 = 0 := by have := of_decide_eq_false h; omega
  clear h
  have hne : ¬ LS = [] := fun e => hl0 (by rw [hnl2, e]; rfl)
  rw [if_neg hne] at hlive
  have hlc := live_cores hv hrest rfl
  obtain ⟨hcl, hcm, hci, hca⟩ := hlc
  have hsorted : sortZ LS = LS := sortZ_eq hLSs (.refl _)
  rw [hsorted] at hcl hcm hci hca hlive
  obtain ⟨cs, hcs⟩ : ∃ cs, cs = LS.map fun id => (findC H.Cores id).1 := ⟨_, rfl⟩
  rw [← hcs] at hlive hcl hcm hci hca
  have hl64 : (liveS H LS).1.length ≤ 64 := by rw [hlive]; simp only; omega
  have hcsub : ∀ c ∈ (liveS H LS).1, c ∈ H.Cores := by rw [hlive]; exact hcm
  repeat (first | refine byW ?_ | (refine byV ?_; intro w hw))
  obtain ⟨cap, hcapE, hcap1, hcap4, hcapn⟩ : ∃ cap : Nat, (if (1 : Int) < (n5 : Int) then (n5 : Int) else 1) = cap ∧ 1 ≤ cap ∧ cap ≤ 4 ∧ n5 ≤ cap := ⟨if 1 < n5 then n5 else 1, by split <;> split <;> omega, by split <;> omega, by split <;> omega, by split <;> omega⟩
  rw [hcapE]
  refine lCall ((interruptsW (hh := hR5) rl (by omega) hl64 (by omega) hcsub hw).mono fun e w hq => ?_)
  clear hw
  obtain ⟨Γ6, v10, rs, tot, code, hle6, rfl, hpost, hw⟩ := hq
  refine ⟨_, rfl, ?_⟩
  obtain ⟨ar, nr, cr, rfl, hnr', -, -⟩ := hw.own_shape (i := 0) rfl
  simp only [List.length_map] at hnr'
  obtain ⟨Γ7, hle7, rr, hw1⟩ := hw.freeze
  clear hw
  have hw := hw1
  clear hw1
  have hR7 := hR5.mono (hle6.trans hle7)
  haveI hBr7 : BrG Γ7 := hBr5.mono (hle6.trans hle7)
  have hle : Γ.le Γ7 := hle.trans (hle6.trans hle7)
  have rl := rl.mono (hle6.trans hle7)
  clear hle6 hle7 hR5 hBr5 hBr4 hR4
  have hfit : cap * nl2 ≥ n5 := Nat.le_trans hcapn (Nat.le_mul_of_pos_right cap (by omega))
  obtain ⟨ys, x, hyp, hys, hxl, hbest, rfl, rfl, rfl⟩ : ∃ (ys : List DevT) (x : List Int), ys.Perm H.Devs ∧ (ys.Pairwise fun a b => a.IRQ ≤ b.IRQ) ∧ x.length = ys.length ∧ Best cs.length cap (aF (costsA H cs ys)) x ∧ rs = rtsL cs ys x ∧ tot = costA (aF (costsA H cs ys)) x ∧ code = 0 := by
    unfold IntPost at hpost
    rw [hlive] at hpost
    rw [if_neg (fun e => e rfl), if_neg (by omega), if_neg (by
      simp only
      rw [hcl, ← hnl2, ← hn5]
      have : ¬ ((cap * nl2 : Nat) : Int) < (n5 : Int) := by omega
      push_cast at this
      exact this)] at hpost
    exact hpost
  have hRt : RtOk H LS cap cs ys x := ⟨hv, hcm, hci, hLSs, fun d hd => hyp.mem_iff.1 hd, hxl, hbest⟩
  clear hpost hci hca hcs
  rw [rtsL_len hxl] at hnr'
  have hyl : ys.length = n5 := by rw [hyp.length_eq, hn5]
  have hDn := devs_norm hv hyp hys
  repeat (first | refine byW ?_ | (refine byV ?_; intro w hw))
  refine lCall ((RNormalize_any (hh := hR7) (gen_le hG) hw).mono fun e w hq => ?_)
  clear hw
  obtain ⟨Γ8, u8, hle8, rfl, ho⟩ := hq
  refine ⟨_, rfl, ?_⟩
  obtain ⟨Γ9, hle9, hN, hw⟩ := ho.freeze (norm_sz hSz)
  clear ho
  obtain ⟨b1', m1', d1', b2', m2', d2', b3', m3', d3', b4', m4', d4', b5', m5', d5', cs'', rfl, -, -, -, -, -, -, -, rN⟩ := hN.h
  rw [hDn] at rN
  have hle89 := hle8.trans hle9
  have hR9 := hR7.mono hle89
  haveI hBr9 : BrG Γ9 := hBr7.mono hle89
  have rr := rr.mono hle89
  have rl := rl.mono hle89
  have hle : Γ.le Γ9 := hle.trans hle89
  clear hle8 hle9 hle89 hR7 hBr7 hN
  obtain ⟨hnN, hncN, -⟩ := rep_facts rN
  simp only [List.length_map] at hnN
  repeat (first | refine byW ?_ | (refine byV ?_; intro w hw))
  refine lY (v := .slice b5' m5' d5') ?_ (hy := y_fldS (Tryz.underlying30) rfl rfl (by kernel_rfl) rfl)
  repeat (first | refine byW ?_ | (refine byV ?_; intro w hw))
  refine W_cond rfl (fun h => ?_) (fun h => ?_)
  · exfalso
    have hnn : nr = m5' := by omega
    rw [hnn] at h
    simp at h
  clear h
  repeat (first | refine byW ?_ | (refine byV ?_; intro w hw))
  refine lCall ((Matrix_any (hh := hR9) hv hw).mono fun e w hq => ?_)
  clear hw
  obtain ⟨rfl, hw⟩ := hq
  refine ⟨_, rfl, ?_⟩
  repeat (first | refine byW ?_ | (refine byV ?_; intro w hw))
  refine lAlloc ?_
  intro b14 w hw
  rw [matL_zero] at hw
  have hw : Wd Γ9 (.blk b14 (.cells (matL (fun _ _ => 0)).toArray 42) :: .blk b5 (hwC H a1 n1 c1 a2 n2 c2 a3 n3 c3 a4 n4 c4 a5 n5 c5) :: S) w := hw
  refine lStore (i := 0) (vs := matL (dstM H)) ?_ (hl := matL_len _) (h1 := by rw [List.all_eq_true]; exact matL_one _) (ho := by simp [matL_len]) (hv := by simp [Value.cells])
  intro w hw
  have hw : Wd Γ9 (.blk b14 (.cells (putCells (matL (fun _ _ => 0)).toArray 0 (matL (dstM H))) 42) :: .blk b5 (hwC H a1 n1 c1 a2 n2 c2 a3 n3 c3 a4 n4 c4 a5 n5 c5) :: S) w := hw
  rw [show putCells (matL (fun _ _ => 0)).toArray 0 (matL (dstM H)) = (matL (dstM H)).toArray from by unfold putCells; simp [matL_len]] at hw
  obtain ⟨Γ10, hle10, hD, hw1⟩ := hw.freezeB
  clear hw
  have hw := hw1
  clear hw1
  have hR10 := hR9.mono hle10
  haveI hBr10 : BrG Γ10 := hBr9.mono hle10
  have rr := rr.mono hle10
  have rl := rl.mono hle10
  have rN := rN.mono hle10
  have hle : Γ.le Γ10 := hle.trans hle10
  clear hle10 hR9 hBr9
  have hnf : ∀ (k : Nat) (c : CoreT), cs[k]? = some c → PG Tryz.prog Γ10 17 [.agg #[.string H.Name, .slice a1 n1 c1, .slice a2 n2 c2, .slice a3 n3 c3, .slice a4 n4 c4, .slice a5 n5 c5], .int .i64 c.ID] (.int .i64 c.Node) := fun k c hc => by
    obtain ⟨h1, h2, h3, h4, h5⟩ := hRt.core hc
    have := pg_NodeOf (hh := hR10) (x := c.ID) (by rw [h2])
    rwa [h5] at this
  have hnr5 : nr = n5 := by omega
  repeat (first | refine byW ?_ | (refine byV ?_; intro w hw))
  refine W_loop (fun μ ρ w => ∃ (i : Nat), μ + i = nr ∧ Has ρ [(5, .pointer (some ⟨b5, 0, none⟩)), (6, .slice al2 nl2 cl2), (7, .int .i64 cap), (8, .slice ar nr cr), (9, .int .i64 (costA (aF (costsA H cs ys)) x)), (11, .slice b5' m5' d5'), (12, .pointer (some ⟨b14, 0, none⟩)), (13, .int .i64 i)] ∧ Wd Γ10 (.blk b5 (hwC H a1 n1 c1 a2 n2 c2 a3 n3 c3 a4 n4 c4 a5 n5 c5) :: S) w) nr ⟨0, by omega, ⟨rfl, rfl, rfl, rfl, rfl, rfl, rfl, rfl, trivial⟩, hw⟩ ?_
  clear hw
  rintro μ ρ w ⟨i, hμ, hρ, hw⟩
  rw [hρ.eq]
  clear hρ
  repeat (first | refine byW ?_ | (refine byV ?_; intro w hw))
  refine W_cond rfl (fun h => ?_) (fun h => ?_)
  · have hin : i < nr := by have := of_decide_eq_true h; omega
    clear h
    obtain ⟨d, hd⟩ := get_lt (l := ys) (k := i) (by omega)
    obtain ⟨k, c, hxk, hxa, hc, hrt⟩ := hRt.at hd
    obtain ⟨cz, hcz⟩ := get_lt (l := cs) (k := 0) (by omega)
    obtain ⟨hLz, hfcz, hcIDz, hcNz, hcnz⟩ := hRt.core hcz
    repeat (first | refine byW ?_ | (refine byV ?_; intro w hw))
    refine W_loop (fun μ2 ρ w => ∃ (j b : Nat) (cb : CoreT), μ2 + j = nl2 ∧ b < j ∧ cs[b]? = some cb ∧ (∀ q, q < j → aF (costsA H cs ys) i b ≤ aF (costsA H cs ys) i q) ∧ (∀ q, q < b → aF (costsA H cs ys) i b < aF (costsA H cs ys) i q) ∧ Has ρ [(5, .pointer (some ⟨b5, 0, none⟩)), (6, .slice al2 nl2 cl2), (7, .int .i64 cap), (8, .slice ar nr cr), (9, .int .i64 (costA (aF (costsA H cs ys)) x)), (11, .slice b5' m5' d5'), (12, .pointer (some ⟨b14, 0, none⟩)), (13, .int .i64 i), (14, .int .i64 cb.ID), (15, .int .i64 j)] ∧ Wd Γ10 (.blk b5 (hwC H a1 n1 c1 a2 n2 c2 a3 n3 c3 a4 n4 c4 a5 n5 c5) :: S) w) (nl2 - 1) ⟨1, 0, cz, by omega, by omega, hcz, fun q hq => by rw [show q = 0 by omega]; exact Int.le_refl _, fun q hq => by omega, ⟨rfl, rfl, rfl, rfl, rfl, rfl, rfl, rfl, rfl, rfl, trivial⟩, hw⟩ ?_
    clear hw
    rintro μ2 ρ w ⟨j, b, cb, hμ2, hbj, hcb, hall, hbel, hρ, hw⟩
    rw [hρ.eq]
    clear hρ
    repeat (first | refine byW ?_ | (refine byV ?_; intro w hw))
    refine W_cond rfl (fun h => ?_) (fun h => ?_)
    · have hjn : j < nl2 := by have := of_decide_eq_true h; omega
      clear h
      obtain ⟨cj, hcj⟩ := get_lt (l := cs) (k := j) (by omega)
      obtain ⟨hLj, hfcj, hcIDj, hcNj, hcnj⟩ := hRt.core hcj
      obtain ⟨hLb, hfcb, hcIDb, hcNb, hcnb⟩ := hRt.core hcb
      obtain ⟨hdN, hddj, hdj0, hdj1⟩ := hRt.dist hd hcj
      obtain ⟨-, hddb, hdb0, hdb1⟩ := hRt.dist hd hcb
      haveI pnj : PG Tryz.prog Γ10 17 [.agg #[.string H.Name, .slice a1 n1 c1, .slice a2 n2 c2, .slice a3 n3 c3, .slice a4 n4 c4, .slice a5 n5 c5], .int .i64 cj.ID] (.int .i64 cj.Node) := hnf j cj hcj
      haveI pnb : PG Tryz.prog Γ10 17 [.agg #[.string H.Name, .slice a1 n1 c1, .slice a2 n2 c2, .slice a3 n3 c3, .slice a4 n4 c4, .slice a5 n5 c5], .int .i64 cb.ID] (.int .i64 cb.Node) := hnf b cb hcb
      have hnn1 : 0 ≤ d.Node ∧ d.Node < 64 := hdN
      have hnn2 : 0 ≤ cj.Node ∧ cj.Node < 64 := hcNj
      have hnn3 : 0 ≤ cb.Node ∧ cb.Node < 64 := hcNb
      have hg1 : (matL (dstM H)).toArray[0 + d.Node.toNat * 64 + cj.Node.toNat * 1]? = some (.int .i64 (aF (costsA H cs ys) i j)) := by rw [← hddj]; exact getM _ hdN hcNj
      have hg2 : (matL (dstM H)).toArray[0 + d.Node.toNat * 64 + cb.Node.toNat * 1]? = some (.int .i64 (aF (costsA H cs ys) i b)) := by rw [← hddb]; exact getM _ hdN hcNb
      repeat (first | refine byW ?_ | (refine byV ?_; intro w hw))
      refine W_quiet (by kernel_rfl) (by kernel_rfl) hw ?_
      repeat (first | refine Q_nil ?_ | (apply Q_plain; first | (apply Q_go; first | refine qP ?_ | refine qPg ?_) | refine qY ?_) | (apply Q_guarded; first | (apply Q_go; first | refine qPG ?_ | refine qPgG ?_) | refine qG ?_))
      refine qY (v := .int .i64 (aF (costsA H cs ys) i j)) ?_ (hy := fun w hw => y_l1m (hB := hD) hw rfl hg1)
      repeat (first | refine Q_nil ?_ | (apply Q_plain; first | (apply Q_go; first | refine qP ?_ | refine qPg ?_) | refine qY ?_) | (apply Q_guarded; first | (apply Q_go; first | refine qPG ?_ | refine qPgG ?_) | refine qG ?_))
      refine qY (v := .int .i64 (aF (costsA H cs ys) i b)) ?_ (hy := fun w hw => y_l1m (hB := hD) hw rfl hg2)
      repeat (first | refine Q_nil ?_ | (apply Q_plain; first | (apply Q_go; first | refine qP ?_ | refine qPg ?_) | refine qY ?_) | (apply Q_guarded; first | (apply Q_go; first | refine qPG ?_ | refine qPgG ?_) | refine qG ?_))
      intro w hw
      refine W_cond rfl (fun h => ?_) (fun h => ?_)
      · have h := of_decide_eq_true h
        repeat (first | refine byW ?_ | (refine byV ?_; intro w hw))
        refine ⟨nl2 - j - 1, by omega, j + 1, j, cj, by omega, by omega, hcj, fun q hq => ?_, fun q hq => ?_, ⟨rfl, rfl, rfl, rfl, rfl, rfl, rfl, rfl, rfl, rfl, trivial⟩, hw⟩
        · by_cases e : q = j
          · subst e; exact Int.le_refl _
          · have := hall q (by omega); omega
        · have := hall q (by omega); omega
      · have h := of_decide_eq_false h
        repeat (first | refine byW ?_ | (refine byV ?_; intro w hw))
        refine ⟨nl2 - j - 1, by omega, j + 1, b, cb, by omega, by omega, hcb, fun q hq => ?_, hbel, ⟨rfl, rfl, rfl, rfl, rfl, rfl, rfl, rfl, rfl, rfl, trivial⟩, hw⟩
        by_cases e : q = j
        · subst e; omega
        · exact hall q (by omega)
    have hjn : nl2 ≤ j := by have := of_decide_eq_false h; omega
    clear h
    have hkn : k < cs.length := (List.getElem?_eq_some_iff.1 hc).1
    have hbk : b = k := by
      obtain ⟨m1, m2⟩ := hRt.best.move (i := i) (k := b) (by omega) (by omega) (.inr (by omega))
      rw [hxa] at m1 m2
      have m3 := hall k (by omega)
      have m4 := m2 (by omega)
      by_cases e : k < b
      · have := hbel k e; omega
      · omega
    subst hbk
    obtain rfl : c = cb := by rw [hc] at hcb; exact Option.some.inj hcb
    repeat (first | refine byW ?_ | (refine byV ?_; intro w hw))
    refine W_cond rfl (fun h => ?_) (fun h => ?_)
    · exfalso
      simp at h
    clear h
    repeat (first | refine byW ?_ | (refine byV ?_; intro w hw))
    exact ⟨nr - i - 1, by omega, i + 1, by omega, ⟨rfl, rfl, rfl, rfl, rfl, rfl, rfl, rfl, trivial⟩, hw⟩
  clear h
  repeat (first | refine byW ?_ | (refine byV ?_; intro w hw))
  refine W_loop (fun μ ρ w => ∃ (q : Nat) (Γ' : Gho) (xw : List Int), μ = q ∧ q < cap ∧ Γ10.le Γ' ∧ xw.length = ys.length ∧ Best cs.length (q + 1) (aF (costsA H cs ys)) xw ∧ Has ρ [(5, .pointer (some ⟨b5, 0, none⟩)), (6, .slice al2 nl2 cl2), (11, .slice b5' m5' d5'), (16, .int .i64 (costA (aF (costsA H cs ys)) xw)), (17, .int .i64 q)] ∧ Wd Γ' (.blk b5 (hwC H a1 n1 c1 a2 n2 c2 a3 n3 c3 a4 n4 c4 a5 n5 c5) :: S) w) (cap - 1) ⟨cap - 1, Γ10, x, rfl, by omega, .refl _, hxl, by rw [show cap - 1 + 1 = cap by omega]; exact hbest, ⟨rfl, rfl, rfl, rfl, by show Value.int .i64 ((cap : Int) - 1) = _; rw [show ((cap : Int) - 1) = ((cap - 1 : Nat) : Int) by omega], trivial⟩, hw⟩ ?_
  clear hw
  rintro μ ρ w ⟨q, Γ', xw, rfl, hqc, hle2, hxwl, hbw, hρ, hw⟩
  rw [hρ.eq]
  clear hρ
  haveI hBr' : BrG Γ' := hBr10.mono hle2
  have hR' := hR10.mono hle2
  have rl' := rl.mono hle2
  have hleq : Γ.le Γ' := hle.trans hle2
  have hmul : IntKind.i64.wrap ((μ : Int) * (nl2 : Int)) = ((μ * nl2 : Nat) : Int) := by
    have h1 : μ * nl2 ≤ 4 * 40 := Nat.mul_le_mul (by omega) (by omega)
    push_cast at *
    exact wrap_i64 (by have := Int.natCast_nonneg (μ * nl2); push_cast at this; omega) (by omega)
  repeat (first | refine byW ?_ | (refine byV ?_; intro w hw))
  refine W_cond rfl (fun h => ?_) (fun h => ?_)
  · have hq1 : 1 ≤ μ := by have := of_decide_eq_true h; omega
    clear h
    repeat (first | refine byW ?_ | (refine byV ?_; intro w hw))
    refine lCall ((interruptsW (hh := hR') rl' (by omega) hl64 (by omega) hcsub hw).mono fun e w hq => ?_)
    clear hw
    obtain ⟨Γ2, v18, rs2, tot2, code2, hle3, rfl, hpost, hw⟩ := hq
    refine ⟨_, rfl, ?_⟩
    have hw := hw.drop
    haveI hBr2 : BrG Γ2 := hBr'.mono hle3
    unfold IntPost at hpost
    rw [hlive] at hpost
    rw [if_neg (fun e => e rfl), if_neg (by omega)] at hpost
    simp only at hpost
    by_cases hcs2 : ((μ * nl2 : Nat) : Int) < (n5 : Int)
    · rw [if_pos (by rw [hcl, ← hnl2, ← hn5]; push_cast at hcs2; exact hcs2)] at hpost
      obtain ⟨-, rfl, rfl⟩ := hpost
      repeat (first | refine byW ?_ | (refine byV ?_; intro w hw))
      refine W_cond_true rfl ?_
      have hb1 : decide (IntKind.i64.wrap ((μ : Int) * (nl2 : Int)) < (m5' : Int)) = true := decide_eq_true (by rw [hmul]; omega)
      repeat (first | (first | refine W_seq ?_ | refine W_block ?_ | refine W_region ?_ | refine W_skip ?_ | refine W_ret ?_ | refine W_exit ?_) | ((first | apply L_bin | apply L_notop); first | (refine lT ?_ ?_; (first | exact rfl | exact decide_eq_true rfl | exact hb1 | exact hb2 | exact hb3 | exact hb4 | (focus (simp; done)))) | (refine lF ?_ ?_; (first | exact rfl | exact decide_eq_true rfl | exact hb1 | exact hb2 | exact hb3 | exact hb4 | (focus (simp; done))))) | (first | refine L_nil ?_ | (apply L_plain; first | (apply L_go; first | refine lP ?_ | (refine lPg ?_; intro w hw)) | (apply L_mf; refine lMakeFunc ?_) | refine lY ?_) | (apply L_guarded; first | refine lGT ?_ (hct := rfl) | refine lGF ?_ (hct := rfl) | (apply L_go; first | refine lPG ?_ | (refine lPgG ?_; intro w hw)) | refine lG ?_)) | (refine lAlloc ?_; intro _ w hw) | (refine lBox ?_; intro _ w hw) | (refine lStore ?_; intro w hw))
      exact ⟨_, rfl, Γ2, hleq.trans hle3, ret_b rfl (by simp; push_cast at hcs2; omega), hw.drop⟩
    · rw [if_neg (by rw [hcl, ← hnl2, ← hn5]; push_cast at hcs2; exact hcs2)] at hpost
      obtain ⟨ys2, x2, hyp2, hys2, hx2l, hb2, -, rfl, rfl⟩ := hpost
      obtain rfl : ys2 = ys := by rw [← devs_norm hv hyp2 hys2, hDn]
      have hmore := hb2.more hbw (by omega) (by omega)
      repeat (first | refine byW ?_ | (refine byV ?_; intro w hw))
      refine W_cond_false rfl ?_
      repeat (first | refine byW ?_ | (refine byV ?_; intro w hw))
      refine W_cond rfl (fun h => ?_) (fun h => ?_)
      · exfalso
        have := of_decide_eq_true h
        omega
      clear h
      repeat (first | refine byW ?_ | (refine byV ?_; intro w hw))
      exact ⟨μ - 1, by omega, μ - 1, Γ2, x2, rfl, by omega, hle2.trans hle3, hx2l, by rw [show μ - 1 + 1 = μ by omega]; exact hb2, ⟨rfl, rfl, rfl, rfl, by show Value.int .i64 ((μ : Int) - 1) = _; rw [show ((μ : Int) - 1) = ((μ - 1 : Nat) : Int) by omega], trivial⟩, hw⟩
  clear h
  repeat (first | refine byW ?_ | (refine byV ?_; intro w hw))
  exact ⟨_, rfl, Γ', hleq, rfl, hw.drop⟩
end Go.Proofs.YtbngpfbjjklnbaaGreatDoor
end
