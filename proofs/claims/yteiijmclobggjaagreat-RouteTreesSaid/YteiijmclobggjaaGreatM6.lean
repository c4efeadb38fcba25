/- Texts of this proof, one behind another. -/
import Derived.Test.YteiijmclobggjaaGreatM5
import Derived.Test.YteiijmclobggjaaGreatM3
set_option linter.unusedVariables false
set_option linter.unusedSimpArgs false
/- The reference's Plan, walked (printed by gen_j9.py). -/
section
open Go Mk
namespace Go.Proofs.YteiijmclobggjaaGreat
set_option maxHeartbeats 64000000
attribute [local irreducible] Calls matL
theorem pg_Matrix {Γ : Gho} {u : Value} {H : HwT} [hh : HwR Γ u H] (hv : validS H = 0) : PG Tryz.prog Γ 37 [u] (.agg (matL (dstM H)).toArray) := ⟨fun S w hw => Matrix_any hv hw⟩
theorem core_id {H : HwT} (hv : validS H = 0) {x : Int} (h : (findC H.Cores x).2 = true) : 0 ≤ x ∧ x < 32 := by
  obtain ⟨h1, h2⟩ := findC_mem h
  obtain ⟨-, -, h3, -⟩ := valid_all hv
  unfold coresRB at h3
  simp only [Bool.and_eq_true] at h3
  have := List.all_eq_true.1 h3.1.1 _ h1
  simp [coreRB] at this
  omega
theorem plC_congr {u1 u2 u3 u4 u5 u6 : Value} {D : Mx} {cost : Int} {P Q : Int → Int} (h : ∀ x, 0 ≤ x → x < 32 → P x = Q x) : plC u1 u2 u3 u4 u5 u6 D cost P = plC u1 u2 u3 u4 u5 u6 D cost Q := by
  unfold plC
  congr 8
  unfold parL
  refine List.map_congr_left fun n hn => ?_
  have : n < 32 := by simpa using hn
  rw [h n (by omega) (by omega)]
def iniP (c : Int) : Int → Int := fun x => if x < c then -1 else 0
theorem iniP_succ {c : Int} : updI (iniP c) c (-1) = iniP (c + 1) := by
  funext x
  unfold updI iniP
  by_cases e : c = x
  · rw [if_pos e, if_pos (by omega)]
  · rw [if_neg e]
    by_cases g : x < c
    · rw [if_pos g, if_pos (by omega)]
    · rw [if_neg g, if_neg (by omega)]
theorem parF_snoc {H : HwT} {r : Int} {ms : List Int} {k : Nat} {y : Int} (h : ms[k]? = some y) : updI (parF H r ms (ms.take k)) y (fwdS H r ms y) = parF H r ms (ms.take (k + 1)) := by
  funext x
  unfold updI parF
  rw [take_succ_of h]
  by_cases e : y = x
  · subst e; rw [if_pos rfl, if_pos (by simp)]
  · rw [if_neg e]
    by_cases g : x ∈ ms.take k
    · rw [if_pos g, if_pos (by simp [g])]
    · rw [if_neg g, if_neg (by simp [g]; exact fun h => e h.symm)]
/-- A plan's children are those that the program finds. -/
theorem plOk_of {H : HwT} {r cost : Int} {ms : List Int} (hv : validS H = 0) (hc : 0 ≤ cost ∧ cost ≤ 1000000) (hf : ∀ a ∈ ms, (findC H.Cores a).2 = true) (hr : r ∉ ms) (hn : ms.Nodup) : PlOk H cost (parF H r ms ms) (chP H r ms) where
  v := hv
  c := hc
  k x hx := kids_perm hr hn (fun a ha => core_id hv (hf a ha)) (fun a ha => coreN_rng hv (hf a ha)) hx
  f x d hd := ⟨by have := core_id hv (hf d (chP_mem hd)); omega, hf d (chP_mem hd)⟩
theorem RPlan_G {Γ : Gho} {u v : Value} {H : HwT} [hhw : HwR Γ u H] [hwd : WideH H] {ms : List Int} [hr : SlC Γ v 1 (intRows ms)] [hsh : ShortL ms] (r cost : Int) {S : List Res} {w : World} (hw : Wd Γ S w) :
    Calls Tryz.prog 12 #[u, .int .i64 r, v, .int .i64 cost] w fun e w' => ∃ Γ' vo, Γ.le Γ' ∧ e = .returned (.tuple #[.agg #[.int .i64 (planS H r ms cost).1, vo], .int .i64 (planErr H r ms cost)]) ∧ Wd Γ' (.own vo 60 2 ((planS H r ms cost).2.map plV) :: S) w' := by
  have hhw' := hhw
  obtain ⟨a1, n1, c1, a2, n2, c2, a3, n3, c3, a4, n4, c4, a5, n5, c5, cs, rfl, -⟩ := hhw.h
  have hrs := hr.h
  obtain ⟨am, nm, cm, rfl, hnm, hnmc, hcm⟩ := hr.h.shape
  simp only [intRows, List.length_map] at hnm
  have hms := hsh.h
  refine calls_of_WC Tryz.func12 rfl rfl ?_
  repeat (first | refine byW ?_ | (refine byV ?_; intro w hw))
  refine lBox ?_
  intro b4 w hw
  refine lAlloc ?_
  intro b8 w hw
  have hw : Wd Γ (.blk b8 (.cells #[.int .i64 0, .slice none 0 0] 32) :: .blk b4 (hwC H a1 n1 c1 a2 n2 c2 a3 n3 c3 a4 n4 c4 a5 n5 c5) :: S) w := hw
  unfold planS
  have hE : ∀ {e : Int} {w : World}, planErr H r ms cost = e → e ≠ 0 → Wd Γ (.blk b8 (.cells #[.int .i64 0, .slice none 0 0] 32) :: .blk b4 (hwC H a1 n1 c1 a2 n2 c2 a3 n3 c3 a4 n4 c4 a5 n5 c5) :: S) w → ∃ Γ' vo, Γ.le Γ' ∧ Ending.returned (.tuple #[.agg #[.int .i64 0, .slice none 0 0], .int .i64 e]) = .returned (.tuple #[.agg #[.int .i64 (if planErr H r ms cost = 0 then (r, planE H r ms cost) else (0, [])).1, vo], .int .i64 (planErr H r ms cost)]) ∧ Wd Γ' (.own vo 60 2 ((if planErr H r ms cost = 0 then (r, planE H r ms cost) else (0, [])).2.map plV) :: S) w := fun {e w} he hne hw => by
    rw [he, if_neg hne]
    exact ⟨Γ, _, .refl _, rfl, Wd.addNil (hw.ds [0, 0])⟩
  repeat (first | refine byW ?_ | (refine byV ?_; intro w hw))
  refine W_cond rfl (fun h => ?_) (fun h => ?_)
  · have h : ¬ validS H = 0 := by simpa using h
    have he : planErr H r ms cost = validS H := by unfold planErr; rw [if_pos h]
    repeat (first | refine byW ?_ | (refine byV ?_; intro w hw))
    refine lStore ?_
    intro w hw
    have hw : Wd Γ (.blk b8 (.cells #[.int .i64 0, .slice none 0 0] 32) :: .blk b4 (hwC H a1 n1 c1 a2 n2 c2 a3 n3 c3 a4 n4 c4 a5 n5 c5) :: S) w := hw
    repeat (first | refine byW ?_ | (refine byV ?_; intro w hw))
    exact ⟨[_, _], ⟨resC (i := 0) hw rfl rfl rfl, rfl, trivial⟩, hE he (by omega) hw⟩
  have hv : validS H = 0 := by simpa using h
  clear h
  have h57 : ∀ x, x ∈ r :: ms → (findC H.Cores x).2 = false → planErr H r ms cost = 57 := fun x hx h => by
    have hm : memErr H r ms = 57 := by
      unfold memErr
      rw [if_pos]
      rw [List.all_eq_false]
      exact ⟨x, hx, by rw [h]; simp⟩
    unfold planErr
    rw [if_neg (by omega), if_pos (by omega), hm]
  repeat (first | refine byW ?_ | (refine byV ?_; intro w hw))
  refine W_cond rfl (fun h => ?_) (fun h => ?_)
  · have h : decide (coreAt H.Cores r < 0) = true := h
    rw [coreAt_lt, Bool.not_eq_true'] at h
    have he := h57 r (by simp) h
    repeat (first | refine byW ?_ | (refine byV ?_; intro w hw))
    refine lStore ?_
    intro w hw
    have hw : Wd Γ (.blk b8 (.cells #[.int .i64 0, .slice none 0 0] 32) :: .blk b4 (hwC H a1 n1 c1 a2 n2 c2 a3 n3 c3 a4 n4 c4 a5 n5 c5) :: S) w := hw
    repeat (first | refine byW ?_ | (refine byV ?_; intro w hw))
    exact ⟨[_, _], ⟨resC (i := 0) hw rfl rfl rfl, rfl, trivial⟩, hE he (by omega) hw⟩
  have hknr : (findC H.Cores r).2 = true := by
    have h : decide (coreAt H.Cores r < 0) = false := h
    rw [coreAt_lt, Bool.not_eq_false'] at h; exact h
  clear h
  repeat (first | refine byW ?_ | (refine byV ?_; intro w hw))
  refine W_loop (fun μ ρ w => ∃ k : Nat, μ + k = nm ∧ Has ρ [(1, .int .i64 r), (2, .slice am nm cm), (3, .int .i64 cost), (4, .pointer (some ⟨b4, 0, none⟩)), (8, .pointer (some ⟨b8, 0, none⟩)), (11, .int .i64 k)] ∧ (∀ a ∈ ms.take k, (findC H.Cores a).2 = true) ∧ Wd Γ (.blk b8 (.cells #[.int .i64 0, .slice none 0 0] 32) :: .blk b4 (hwC H a1 n1 c1 a2 n2 c2 a3 n3 c3 a4 n4 c4 a5 n5 c5) :: S) w) nm ⟨0, by omega, ⟨rfl, rfl, rfl, rfl, rfl, rfl, trivial⟩, by simp, hw⟩ ?_
  clear hw
  rintro μ ρ w ⟨k, hk, hρ, hall, hw⟩
  rw [hρ.eq]
  clear hρ
  repeat (first | refine byW ?_ | (refine byV ?_; intro w hw))
  refine W_cond rfl (fun h => ?_) (fun h => ?_)
  · have hkn : k < nm := by have := of_decide_eq_true h; omega
    clear h
    obtain ⟨x, hx⟩ := get_lt (l := ms) (k := k) (by omega)
    repeat (first | refine byW ?_ | (refine byV ?_; intro w hw))
    refine W_quiet (by kernel_rfl) (by kernel_rfl) hw ?_
    repeat (first | refine Q_nil ?_ | (apply Q_plain; first | (apply Q_go; first | refine qP ?_ | refine qPg ?_) | refine qY ?_) | (apply Q_guarded; first | (apply Q_go; first | refine qPG ?_ | refine qPgG ?_) | refine qG ?_))
    intro w hw
    refine W_cond rfl (fun h => ?_) (fun h => ?_)
    · have h : decide (coreAt H.Cores x < 0) = true := h
      rw [coreAt_lt, Bool.not_eq_true'] at h
      have he := h57 x (List.mem_cons_of_mem _ (List.mem_of_getElem? hx)) h
      repeat (first | refine byW ?_ | (refine byV ?_; intro w hw))
      refine lStore ?_
      intro w hw
      have hw : Wd Γ (.blk b8 (.cells #[.int .i64 0, .slice none 0 0] 32) :: .blk b4 (hwC H a1 n1 c1 a2 n2 c2 a3 n3 c3 a4 n4 c4 a5 n5 c5) :: S) w := hw
      repeat (first | refine byW ?_ | (refine byV ?_; intro w hw))
      exact ⟨[_, _], ⟨resC (i := 0) hw rfl rfl rfl, rfl, trivial⟩, hE he (by omega) hw⟩
    · have h : decide (coreAt H.Cores x < 0) = false := h
      rw [coreAt_lt, Bool.not_eq_false'] at h
      repeat (first | refine byW ?_ | (refine byV ?_; intro w hw))
      refine ⟨μ - 1, by omega, k + 1, by omega, ⟨rfl, rfl, rfl, rfl, rfl, rfl, trivial⟩, fun a ha => ?_, hw⟩
      rw [take_succ_of hx] at ha
      rcases List.mem_append.1 ha with ha | ha
      · exact hall a ha
      · rw [List.mem_singleton] at ha; rw [ha]; exact h
  have hkn : ¬ k < nm := by have := of_decide_eq_false h; omega
  rw [List.take_of_length_le (by omega)] at hall
  clear h hkn hk h57
  rename_i hknm
  have h56 : ¬ (r :: ms).Nodup → planErr H r ms cost = 56 := fun h => by
    have hm : memErr H r ms = 56 := by
      unfold memErr
      rw [if_neg, if_pos (decP_f h)]
      rw [Bool.not_eq_false, List.all_eq_true]
      intro a ha
      rcases List.mem_cons.1 ha with rfl | ha
      · exact hknr
      · exact hall a ha
    unfold planErr
    rw [if_neg (by omega), if_pos (by omega), hm]
  repeat (first | refine byW ?_ | (refine byV ?_; intro w hw))
  refine W_loop (fun μ ρ w => ∃ k : Nat, μ + k = nm ∧ Has ρ [(1, .int .i64 r), (2, .slice am nm cm), (3, .int .i64 cost), (4, .pointer (some ⟨b4, 0, none⟩)), (8, .pointer (some ⟨b8, 0, none⟩)), (12, .int .i64 k)] ∧ (ms.take k).Nodup ∧ r ∉ ms.take k ∧ Wd Γ (.blk b8 (.cells #[.int .i64 0, .slice none 0 0] 32) :: .blk b4 (hwC H a1 n1 c1 a2 n2 c2 a3 n3 c3 a4 n4 c4 a5 n5 c5) :: S) w) nm ⟨0, by omega, ⟨rfl, rfl, rfl, rfl, rfl, rfl, trivial⟩, by simp, by simp, hw⟩ ?_
  clear hw
  rintro μ ρ w ⟨k, hk, hρ, hnd, hrn, hw⟩
  rw [hρ.eq]
  clear hρ
  repeat (first | refine byW ?_ | (refine byV ?_; intro w hw))
  refine W_cond rfl (fun h => ?_) (fun h => ?_)
  · have hkn : k < nm := by have := of_decide_eq_true h; omega
    clear h
    obtain ⟨x, hx⟩ := get_lt (l := ms) (k := k) (by omega)
    repeat (first | refine byW ?_ | (refine byV ?_; intro w hw))
    refine W_loop (fun μ2 ρ w => ∃ j : Nat, μ2 + j = k ∧ Has ρ [(1, .int .i64 r), (2, .slice am nm cm), (3, .int .i64 cost), (4, .pointer (some ⟨b4, 0, none⟩)), (8, .pointer (some ⟨b8, 0, none⟩)), (12, .int .i64 k), (13, .int .i64 j)] ∧ x ∉ ms.take j ∧ Wd Γ (.blk b8 (.cells #[.int .i64 0, .slice none 0 0] 32) :: .blk b4 (hwC H a1 n1 c1 a2 n2 c2 a3 n3 c3 a4 n4 c4 a5 n5 c5) :: S) w) k ⟨0, by omega, ⟨rfl, rfl, rfl, rfl, rfl, rfl, rfl, trivial⟩, by simp, hw⟩ ?_
    clear hw
    rintro μ2 ρ w ⟨j, hj, hρ, hxn, hw⟩
    rw [hρ.eq]
    clear hρ
    repeat (first | refine byW ?_ | (refine byV ?_; intro w hw))
    refine W_cond rfl (fun h => ?_) (fun h => ?_)
    · have hjk : j < k := by have := of_decide_eq_true h; omega
      clear h
      obtain ⟨y, hy⟩ := get_lt (l := ms) (k := j) (by omega)
      repeat (first | refine byW ?_ | (refine byV ?_; intro w hw))
      refine W_quiet (by kernel_rfl) (by kernel_rfl) hw ?_
      repeat (first | refine Q_nil ?_ | (apply Q_plain; first | (apply Q_go; first | refine qP ?_ | refine qPg ?_) | refine qY ?_) | (apply Q_guarded; first | (apply Q_go; first | refine qPG ?_ | refine qPgG ?_) | refine qG ?_))
      intro w hw
      refine W_cond rfl (fun h => ?_) (fun h => ?_)
      · have h : x = y := of_decide_eq_true h
        have he := h56 fun hN => by
          rw [List.nodup_cons] at hN
          subst h
          have := nodup_get hN.2 hy hx
          omega
        repeat (first | refine byW ?_ | (refine byV ?_; intro w hw))
        refine lStore ?_
        intro w hw
        have hw : Wd Γ (.blk b8 (.cells #[.int .i64 0, .slice none 0 0] 32) :: .blk b4 (hwC H a1 n1 c1 a2 n2 c2 a3 n3 c3 a4 n4 c4 a5 n5 c5) :: S) w := hw
        repeat (first | refine byW ?_ | (refine byV ?_; intro w hw))
        exact ⟨[_, _], ⟨resC (i := 0) hw rfl rfl rfl, rfl, trivial⟩, hE he (by omega) hw⟩
      · have h : ¬ x = y := of_decide_eq_false h
        repeat (first | refine byW ?_ | (refine byV ?_; intro w hw))
        refine ⟨μ2 - 1, by omega, j + 1, by omega, ⟨rfl, rfl, rfl, rfl, rfl, rfl, rfl, trivial⟩, fun ha => ?_, hw⟩
        rw [take_succ_of hy] at ha
        rcases List.mem_append.1 ha with ha | ha
        · exact hxn ha
        · exact h (List.mem_singleton.1 ha)
    have hjk : j = k := by have := of_decide_eq_false h; omega
    subst hjk
    clear h hj
    repeat (first | refine byW ?_ | (refine byV ?_; intro w hw))
    refine W_cond rfl (fun h => ?_) (fun h => ?_)
    · have h : x = r := of_decide_eq_true h
      have he := h56 fun hN => by
        rw [List.nodup_cons] at hN
        exact hN.1 (by rw [← h]; exact List.mem_of_getElem? hx)
      repeat (first | refine byW ?_ | (refine byV ?_; intro w hw))
      refine lStore ?_
      intro w hw
      have hw : Wd Γ (.blk b8 (.cells #[.int .i64 0, .slice none 0 0] 32) :: .blk b4 (hwC H a1 n1 c1 a2 n2 c2 a3 n3 c3 a4 n4 c4 a5 n5 c5) :: S) w := hw
      repeat (first | refine byW ?_ | (refine byV ?_; intro w hw))
      exact ⟨[_, _], ⟨resC (i := 0) hw rfl rfl rfl, rfl, trivial⟩, hE he (by omega) hw⟩
    · have h : ¬ x = r := of_decide_eq_false h
      repeat (first | refine byW ?_ | (refine byV ?_; intro w hw))
      refine ⟨μ - 1, by omega, j + 1, by omega, ⟨rfl, rfl, rfl, rfl, rfl, rfl, trivial⟩, nodup_take1 hnd hx hxn, fun ha => ?_, hw⟩
      rw [take_succ_of hx] at ha
      rcases List.mem_append.1 ha with ha | ha
      · exact hrn ha
      · exact h (List.mem_singleton.1 ha).symm
  have hkn : ¬ k < nm := by have := of_decide_eq_false h; omega
  rw [List.take_of_length_le (by omega)] at hnd hrn
  clear h hkn hk h56
  have hme : memErr H r ms = 0 := by
    unfold memErr
    rw [if_neg, if_neg]
    · rw [decP_t (List.nodup_cons.2 ⟨hrn, hnd⟩)]; simp
    · rw [Bool.not_eq_false, List.all_eq_true]
      intro a ha
      rcases List.mem_cons.1 ha with rfl | ha
      · exact hknr
      · exact hall a ha
  repeat (first | refine byW ?_ | (refine byV ?_; intro w hw))
  refine W_cond rfl (fun h => ?_) (fun h => ?_)
  · have h : (decide (cost < 0) || decide (cost > 1000000)) = true := h
    have he : planErr H r ms cost = 6 := by unfold planErr; rw [if_neg (by omega), if_neg (by omega), if_pos (by simp at h; omega)]
    repeat (first | refine byW ?_ | (refine byV ?_; intro w hw))
    refine lStore ?_
    intro w hw
    have hw : Wd Γ (.blk b8 (.cells #[.int .i64 0, .slice none 0 0] 32) :: .blk b4 (hwC H a1 n1 c1 a2 n2 c2 a3 n3 c3 a4 n4 c4 a5 n5 c5) :: S) w := hw
    repeat (first | refine byW ?_ | (refine byV ?_; intro w hw))
    exact ⟨[_, _], ⟨resC (i := 0) hw rfl rfl rfl, rfl, trivial⟩, hE he (by omega) hw⟩
  have h : (decide (cost < 0) || decide (cost > 1000000)) = false := h
  have hc : 0 ≤ cost ∧ cost ≤ 1000000 := by simp at h; omega
  have he0 : planErr H r ms cost = 0 := by unfold planErr; rw [if_neg (by omega), if_neg (by omega), if_neg (by omega)]
  clear h hE
  rw [he0, if_pos rfl]
  have hpl := plOk_of (r := r) (cost := cost) hv hc hall hrn hnd
  haveI pM := pg_Matrix (hh := hhw') hv
  repeat (first | refine byW ?_ | (refine byV ?_; intro w hw))
  refine W_mixed (.blk b8 (.cells #[.int .i64 0, .slice none 0 0] 32) :: .blk b4 (hwC H a1 n1 c1 a2 n2 c2 a3 n3 c3 a4 n4 c4 a5 n5 c5) :: S) [fun _ => []] [[],[],[],[],[],[0],[0]] [[],[],[],[],[],[0],[0]] [[88, 14]] (by show Wd Γ ((.blk b8 (.cells #[.int .i64 0, .slice none 0 0] 32) :: .blk b4 (hwC H a1 n1 c1 a2 n2 c2 a3 n3 c3 a4 n4 c4 a5 n5 c5) :: S) ++ ([] ++ [])) w; rw [List.append_nil, List.append_nil]; exact hw) ?_
  refine mY ?_
  refine mY ?_
  refine mPg ?_
  refine mY ?_
  refine mY (v := .agg (plC (.string H.Name) (.slice a1 n1 c1) (.slice a2 n2 c2) (.slice a3 n3 c3) (.slice a4 n4 c4) (.slice a5 n5 c5) (dstM H) cost (fun _ => 0)).toArray) ?_ (hy := fun Y w g hw => y_build fill_plan)
  refine mBox ?_
  refine mAssG (fun v => [atP v fun bb => [.blk bb (.cells (plC (.string H.Name) (.slice a1 n1 c1) (.slice a2 n2 c2) (.slice a3 n3 c3) (.slice a4 n4 c4) (.slice a5 n5 c5) (dstM H) cost (fun _ => 0)).toArray 89)]]) ?_
  refine mEnd fun w g hw => ?_
  obtain ⟨bp, hb, hw⟩ := (Wd.mid hw).openAt
  have hb : g 14 = .pointer (some ⟨bp, 0, none⟩) := hb
  have hw : Wd Γ (.blk bp (.cells (plC (.string H.Name) (.slice a1 n1 c1) (.slice a2 n2 c2) (.slice a3 n3 c3) (.slice a4 n4 c4) (.slice a5 n5 c5) (dstM H) cost (iniP 0)).toArray 89) :: .blk b8 (.cells #[.int .i64 0, .slice none 0 0] 32) :: .blk b4 (hwC H a1 n1 c1 a2 n2 c2 a3 n3 c3 a4 n4 c4 a5 n5 c5) :: S) w := by
    rw [← plC_congr (P := fun _ => 0) (Q := iniP 0) (fun x h0 h1 => by unfold iniP; rw [if_neg (by omega)])]
    simpa using hw
  repeat (first | refine byW ?_ | (refine byV ?_; intro w hw))
  refine W_loop (fun μ ρ w => ∃ c : Nat, μ + c = 32 ∧ Has ρ [(1, .int .i64 r), (2, .slice am nm cm), (8, .pointer (some ⟨b8, 0, none⟩)), (14, .pointer (some ⟨bp, 0, none⟩)), (15, .int .i64 c)] ∧ Wd Γ (.blk bp (.cells (plC (.string H.Name) (.slice a1 n1 c1) (.slice a2 n2 c2) (.slice a3 n3 c3) (.slice a4 n4 c4) (.slice a5 n5 c5) (dstM H) cost (iniP c)).toArray 89) :: .blk b8 (.cells #[.int .i64 0, .slice none 0 0] 32) :: .blk b4 (hwC H a1 n1 c1 a2 n2 c2 a3 n3 c3 a4 n4 c4 a5 n5 c5) :: S) w) 32 ⟨0, by omega, ⟨rfl, rfl, rfl, hb, rfl, trivial⟩, hw⟩ ?_
  clear hw
  rintro μ ρ w ⟨c, hcn, hρ, hw⟩
  rw [hρ.eq]
  clear hρ
  repeat (first | refine byW ?_ | (refine byV ?_; intro w hw))
  refine W_cond rfl (fun h => ?_) (fun h => ?_)
  · have hcl : c < 32 := by have := of_decide_eq_true h; omega
    clear h
    repeat (first | refine byW ?_ | (refine byV ?_; intro w hw))
    refine lStore (i := 0) (o := 0 + 4103 + (c : Int).toNat * 1) (ho := by rw [List.size_toArray]; simp [plC, matL_len, parL_len]; omega) ?_
    intro w hw
    have hw : Wd Γ (.blk bp (.cells (putCells (plC (.string H.Name) (.slice a1 n1 c1) (.slice a2 n2 c2) (.slice a3 n3 c3) (.slice a4 n4 c4) (.slice a5 n5 c5) (dstM H) cost (iniP c)).toArray (0 + 4103 + (c : Int).toNat * 1) [.int .i64 (-1)]) 89) :: .blk b8 (.cells #[.int .i64 0, .slice none 0 0] 32) :: .blk b4 (hwC H a1 n1 c1 a2 n2 c2 a3 n3 c3 a4 n4 c4 a5 n5 c5) :: S) w := hw
    rw [plC_put (by omega), iniP_succ] at hw
    repeat (first | refine byW ?_ | (refine byV ?_; intro w hw))
    exact ⟨μ - 1, by omega, c + 1, by omega, ⟨rfl, rfl, rfl, rfl, rfl, trivial⟩, hw⟩
  have hcl : c = 32 := by have := of_decide_eq_false h; omega
  subst hcl
  clear h hcn
  have hw : Wd Γ (.blk bp (.cells (plC (.string H.Name) (.slice a1 n1 c1) (.slice a2 n2 c2) (.slice a3 n3 c3) (.slice a4 n4 c4) (.slice a5 n5 c5) (dstM H) cost (parF H r ms (ms.take 0))).toArray 89) :: .blk b8 (.cells #[.int .i64 0, .slice none 0 0] 32) :: .blk b4 (hwC H a1 n1 c1 a2 n2 c2 a3 n3 c3 a4 n4 c4 a5 n5 c5) :: S) w := by
    rw [← plC_congr (P := iniP (32 : Nat)) (Q := parF H r ms (ms.take 0)) (fun x h0 h1 => by unfold iniP parF; rw [if_pos (by omega), if_neg (by simp)])]
    exact hw
  repeat (first | refine byW ?_ | (refine byV ?_; intro w hw))
  refine W_loop (fun μ ρ w => ∃ k : Nat, μ + k = nm ∧ Has ρ [(1, .int .i64 r), (2, .slice am nm cm), (8, .pointer (some ⟨b8, 0, none⟩)), (14, .pointer (some ⟨bp, 0, none⟩)), (16, .int .i64 k)] ∧ Wd Γ (.blk bp (.cells (plC (.string H.Name) (.slice a1 n1 c1) (.slice a2 n2 c2) (.slice a3 n3 c3) (.slice a4 n4 c4) (.slice a5 n5 c5) (dstM H) cost (parF H r ms (ms.take k))).toArray 89) :: .blk b8 (.cells #[.int .i64 0, .slice none 0 0] 32) :: .blk b4 (hwC H a1 n1 c1 a2 n2 c2 a3 n3 c3 a4 n4 c4 a5 n5 c5) :: S) w) nm ⟨0, by omega, ⟨rfl, rfl, rfl, rfl, rfl, trivial⟩, hw⟩ ?_
  clear hw
  rintro μ ρ w ⟨k, hk, hρ, hw⟩
  rw [hρ.eq]
  clear hρ
  repeat (first | refine byW ?_ | (refine byV ?_; intro w hw))
  refine W_cond rfl (fun h => ?_) (fun h => ?_)
  · have hkn : k < nm := by have := of_decide_eq_true h; omega
    clear h
    obtain ⟨y, hy⟩ := get_lt (l := ms) (k := k) (by omega)
    have hym := List.mem_of_getElem? hy
    have hyr := core_id hv (hall y hym)
    repeat (first | refine byW ?_ | (refine byV ?_; intro w hw))
    refine W_mix1 (.blk b8 (.cells #[.int .i64 0, .slice none 0 0] 32) :: .blk b4 (hwC H a1 n1 c1 a2 n2 c2 a3 n3 c3 a4 n4 c4 a5 n5 c5) :: S) [.blk bp (.cells (plC (.string H.Name) (.slice a1 n1 c1) (.slice a2 n2 c2) (.slice a3 n3 c3) (.slice a4 n4 c4) (.slice a5 n5 c5) (dstM H) cost (parF H r ms (ms.take k))).toArray 89)] [[],[],[],[],[],[],[],[],[],[],[],[],[0],[],[],[],[0]] [[],[],[],[],[],[],[],[],[],[],[],[],[0],[],[],[],[0]] (hw.perm byPM) ?_
    repeat (first | refine mY ?_ | refine mP ?_ | refine mPg ?_)
    refine mCallSK (c := 0) (X := [.blk bp (.cells (plC (.string H.Name) (.slice a1 n1 c1) (.slice a2 n2 c2) (.slice a3 n3 c3) (.slice a4 n4 c4) (.slice a5 n5 c5) (dstM H) cost (parF H r ms (ms.take k))).toArray 89)]) [.blk bp (.cells (plC (.string H.Name) (.slice a1 n1 c1) (.slice a2 n2 c2) (.slice a3 n3 c3) (.slice a4 n4 c4) (.slice a5 n5 c5) (dstM H) cost (parF H r ms (ms.take k))).toArray 89)] (vs := [.pointer (some ⟨bp, 0, none⟩), .int .i64 r, .slice am nm cm, .int .i64 y]) (v := .int .i64 (fwdS H r ms y)) (fun R w hw => fwd_any (hhw := hhw') (hr := hr) hv hknr hall hym rfl (j := 0) rfl hw) ?_
    repeat (first | refine mY ?_ | refine mP ?_ | refine mPg ?_)
    refine mStoreC (o := 0 + 4103 + y.toNat * 1) (ho := by rw [List.size_toArray]; simp [plC, matL_len, parL_len]; omega) ?_
    refine mEnd0 ?_
    clear hw
    intro w hw
    have hw : Wd Γ ((.blk b8 (.cells #[.int .i64 0, .slice none 0 0] 32) :: .blk b4 (hwC H a1 n1 c1 a2 n2 c2 a3 n3 c3 a4 n4 c4 a5 n5 c5) :: S) ++ ([.blk bp (.cells (putCells (plC (.string H.Name) (.slice a1 n1 c1) (.slice a2 n2 c2) (.slice a3 n3 c3) (.slice a4 n4 c4) (.slice a5 n5 c5) (dstM H) cost (parF H r ms (ms.take k))).toArray (0 + 4103 + y.toNat * 1) [.int .i64 (fwdS H r ms y)]) 89)] ++ [])) w := hw
    have hw : Wd Γ (.blk bp (.cells (putCells (plC (.string H.Name) (.slice a1 n1 c1) (.slice a2 n2 c2) (.slice a3 n3 c3) (.slice a4 n4 c4) (.slice a5 n5 c5) (dstM H) cost (parF H r ms (ms.take k))).toArray (0 + 4103 + y.toNat * 1) [.int .i64 (fwdS H r ms y)]) 89) :: .blk b8 (.cells #[.int .i64 0, .slice none 0 0] 32) :: .blk b4 (hwC H a1 n1 c1 a2 n2 c2 a3 n3 c3 a4 n4 c4 a5 n5 c5) :: S) w := hw.perm byPM
    rw [plC_put hyr, parF_snoc hy] at hw
    repeat (first | refine byW ?_ | (refine byV ?_; intro w hw))
    exact ⟨μ - 1, by omega, k + 1, by omega, ⟨rfl, rfl, rfl, rfl, rfl, trivial⟩, hw⟩
  have hkn : ¬ k < nm := by have := of_decide_eq_false h; omega
  rw [List.take_of_length_le (by omega)] at hw
  clear h hkn hk
  obtain ⟨Γ', hle, hB, hw⟩ := hw.freezeB
  haveI hB := hB
  haveI hh2 := hhw'.mono hle
  clear hr hrs
  have hr0 := core_id hv hknr
  have hdep := chP_dep (H := H) hrn
  have hurg : ∀ {k : Nat} {x : Int}, Dep (chP H r ms) (k + 1) x → k + 1 ≤ 4 → (findC H.Cores x).2 = true → ∀ d ∈ chP H r ms x, PG Tryz.prog Γ' 71 [.pointer (some ⟨bp, 0, none⟩), .int .i64 x, .int .i64 d] (.int .i64 (tl (farI H) cost (chP H r ms) x d)) := fun {k x} hd hk hf d hm =>
    pg_urgent hpl hf (hpl.f _ _ hm).2 (hpl.bound (hpl.f _ _ hm).1 (hpl.f _ _ hm).2 (hd d hm) (by omega)) (pg_height hpl (hd d hm) (by omega) (hpl.f _ _ hm).1 (hpl.f _ _ hm).2)
  have hsl : ∀ x, x ≠ -1 → (srt (farI H) cost (chP H r ms) x).length ≤ 32 := fun x hx => by rw [(srt_perm x).length_eq]; exact hpl.len hx
  have hks : ∀ x, x ≠ -1 → tsort (tl (farI H) cost (chP H r ms) x) (kids (parF H r ms ms) x) = srt (farI H) cost (chP H r ms) x := fun x hx => tsort_of_perm (hpl.k x hx)
  repeat (first | refine byW ?_ | (refine byV ?_; intro w hw))
  refine lAlloc ?_
  intro bt w hw
  refine lStore ?_
  intro w hw
  have hw : Wd Γ' (.blk bt (.cells #[.int .i64 r, .slice none 0 0] 32) :: .blk b8 (.cells #[.int .i64 0, .slice none 0 0] 32) :: .blk b4 (hwC H a1 n1 c1 a2 n2 c2 a3 n3 c3 a4 n4 c4 a5 n5 c5) :: S) w := hw
  repeat (first | refine byW ?_ | (refine byV ?_; intro w hw))
  refine lCall ((children_any (t := tl (farI H) cost (chP H r ms) r) (x := r) (fun d hm => hurg (k := 2) hdep (by omega) hknr d ((hpl.k r (by omega)).mem_iff.1 hm)) hw).mono fun e w hq => ?_)
  clear hw
  obtain ⟨vl, rfl, hw⟩ := hq
  refine ⟨_, rfl, ?_⟩
  rw [hks r (by omega)] at hw
  have hLl := hsl r (by omega)
  have hLm : ∀ d ∈ srt (farI H) cost (chP H r ms) r, d ∈ chP H r ms r := fun d hm => (srt_perm _).mem_iff.1 hm
  have hpE : planE H r ms cost = (srt (farI H) cost (chP H r ms) r).map (fun t => (r, t)) ++ (srt (farI H) cost (chP H r ms) r).flatMap (fun f => (srt (farI H) cost (chP H r ms) f).map fun t => (f, t)) := by unfold planE; rw [List.flatMap_cons]
  rw [hpE]
  generalize srt (farI H) cost (chP H r ms) r = L at hw hLl hLm
  obtain ⟨al, nl, cl, rfl, hnl, hnlc, hcl⟩ := hw.own_shape (i := 0) rfl
  simp only [intRows, List.length_map] at hnl
  have hw : Wd Γ' ([.own (.slice al nl cl) 3 1 (intRows L)] ++ (.blk bt (.cells #[.int .i64 r, .slice none 0 0] 32) :: .own (.slice none 0 0) 60 2 ((((L.take 0).map fun t => (r, t)) : List Pl).map plV) :: .blk b8 (.cells #[.int .i64 0, .slice none 0 0] 32) :: .blk b4 (hwC H a1 n1 c1 a2 n2 c2 a3 n3 c3 a4 n4 c4 a5 n5 c5) :: S)) w := (Wd.addNil (E := 60) (sz := 2) hw).ps [2, 2]
  repeat (first | refine byW ?_ | (refine byV ?_; intro w hw))
  refine W_loop (fun μ ρ w => ∃ (k : Nat) (q : Option Addr) (m d : Nat), μ + k = nl ∧ Has ρ [(1, .int .i64 r), (8, .pointer (some ⟨b8, 0, none⟩)), (14, .pointer (some ⟨bp, 0, none⟩)), (17, .pointer (some ⟨bt, 0, none⟩)), (18, .slice al nl cl), (19, .int .i64 k)] ∧ Wd Γ' ([.own (.slice al nl cl) 3 1 (intRows L)] ++ (.blk bt (.cells #[.int .i64 r, .slice q m d] 32) :: .own (.slice q m d) 60 2 ((((L.take k).map fun t => (r, t)) : List Pl).map plV) :: .blk b8 (.cells #[.int .i64 0, .slice none 0 0] 32) :: .blk b4 (hwC H a1 n1 c1 a2 n2 c2 a3 n3 c3 a4 n4 c4 a5 n5 c5) :: S)) w) nl ⟨0, none, 0, 0, by omega, ⟨rfl, rfl, rfl, rfl, rfl, rfl, trivial⟩, hw⟩ ?_
  clear hw
  rintro μ ρ w ⟨k, q, m, d, hk, hρ, hw⟩
  have hm := own_len (i := 2) hw rfl
  simp only [List.length_map, List.length_take] at hm
  rw [hρ.eq]
  clear hρ
  repeat (first | refine byW ?_ | (refine byV ?_; intro w hw))
  refine W_cond rfl (fun h => ?_) (fun h => ?_)
  · have hkn : k < nl := by have := of_decide_eq_true h; omega
    clear h
    obtain ⟨y, hy⟩ := get_lt (l := L) (k := k) (by omega)
    have hes : ((L.take k).map fun t => ((r, t) : Pl)) ++ [(r, y)] = (L.take (k + 1)).map fun t => (r, t) := by rw [take_succ_of hy, List.map_append]; rfl
    generalize ((L.take k).map fun t => ((r, t) : Pl)) = es at hw hes
    repeat (first | refine byW ?_ | (refine byV ?_; intro w hw))
    refine W_mix2 [.own (.slice al nl cl) 3 1 (intRows L)] (.blk bt (.cells #[.int .i64 r, .slice q m d] 32) :: .own (.slice q m d) 60 2 (es.map plV) :: .blk b8 (.cells #[.int .i64 0, .slice none 0 0] 32) :: .blk b4 (hwC H a1 n1 c1 a2 n2 c2 a3 n3 c3 a4 n4 c4 a5 n5 c5) :: S) [[],[],[],[],[],[],[],[],[1],[0],[],[0]] [[],[0],[],[],[],[],[],[],[1],[0,1],[],[0]] [[140], [139]] hw ?_
    repeat (first | refine mY ?_ | refine mP ?_ | refine mPg ?_)
    refine mY (v := .agg (plV (r, y)).toArray) ?_ (hy := fun Y w g hw => y_build rfl)
    refine mBuild [plV (r, y)] ?_
    refine mApp (j := 1) ?_
    repeat (first | refine mY ?_ | refine mP ?_ | refine mPg ?_)
    refine mStoreV ?_
    refine mEnd fun w g hw => ?_
    have hw := Wd.dropEnd hw
    have hw : Wd Γ' ([.own (.slice al nl cl) 3 1 (intRows L)] ++ (.blk bt (.cells #[.int .i64 r, g 140] 32) :: .own (g 140) 60 2 (es.map plV ++ [plV (r, y)]) :: .blk b8 (.cells #[.int .i64 0, .slice none 0 0] 32) :: .blk b4 (hwC H a1 n1 c1 a2 n2 c2 a3 n3 c3 a4 n4 c4 a5 n5 c5) :: S)) w := hw
    generalize g 140 = gg at hw
    obtain ⟨q', m', d', rfl, hm', hmd', -⟩ := hw.own_shape (i := 2) rfl
    rw [show es.map plV ++ [plV (r, y)] = (es ++ [(r, y)]).map plV by simp] at hw
    rw [hes] at hw
    repeat (first | refine byW ?_ | (refine byV ?_; intro w hw))
    exact ⟨μ - 1, by omega, k + 1, q', m', d', by omega, ⟨rfl, rfl, rfl, rfl, rfl, rfl, trivial⟩, hw⟩
  have hkn : ¬ k < nl := by have := of_decide_eq_false h; omega
  rw [List.take_of_length_le (by omega)] at hw
  rw [Nat.min_eq_right (by omega)] at hm
  have hw : Wd Γ' ([.own (.slice al nl cl) 3 1 (intRows L)] ++ (.blk bt (.cells #[.int .i64 r, .slice q m d] 32) :: .own (.slice q m d) 60 2 (((L.map fun t => ((r, t) : Pl)) ++ (L.take 0).flatMap (fun f => (srt (farI H) cost (chP H r ms) f).map fun t => ((f, t) : Pl))).map plV) :: .blk b8 (.cells #[.int .i64 0, .slice none 0 0] 32) :: .blk b4 (hwC H a1 n1 c1 a2 n2 c2 a3 n3 c3 a4 n4 c4 a5 n5 c5) :: S)) w := by
    rw [List.take_zero, List.flatMap_nil, List.append_nil]; exact hw
  clear h hkn hk
  generalize (L.map fun t => ((r, t) : Pl)) = E0 at hw
  repeat (first | refine byW ?_ | (refine byV ?_; intro w hw))
  refine W_loop (fun μ ρ w => ∃ (i : Nat) (q : Option Addr) (m d : Nat), μ + i = nl ∧ m ≤ 32 + i * 32 ∧ Has ρ [(1, .int .i64 r), (8, .pointer (some ⟨b8, 0, none⟩)), (14, .pointer (some ⟨bp, 0, none⟩)), (17, .pointer (some ⟨bt, 0, none⟩)), (18, .slice al nl cl), (20, .int .i64 i)] ∧ Wd Γ' ([.own (.slice al nl cl) 3 1 (intRows L)] ++ (.blk bt (.cells #[.int .i64 r, .slice q m d] 32) :: .own (.slice q m d) 60 2 ((E0 ++ (L.take i).flatMap (fun f => (srt (farI H) cost (chP H r ms) f).map fun t => ((f, t) : Pl))).map plV) :: .blk b8 (.cells #[.int .i64 0, .slice none 0 0] 32) :: .blk b4 (hwC H a1 n1 c1 a2 n2 c2 a3 n3 c3 a4 n4 c4 a5 n5 c5) :: S)) w) nl ⟨0, q, m, d, by omega, by omega, ⟨rfl, rfl, rfl, rfl, rfl, rfl, trivial⟩, hw⟩ ?_
  clear hw hm
  rintro μ ρ w ⟨i, q, m, d, hi, hm, hρ, hw⟩
  rw [hρ.eq]
  clear hρ
  repeat (first | refine byW ?_ | (refine byV ?_; intro w hw))
  refine W_cond rfl (fun h => ?_) (fun h => ?_)
  · have hin : i < nl := by have := of_decide_eq_true h; omega
    clear h
    obtain ⟨f, hf⟩ := get_lt (l := L) (k := i) (by omega)
    have hfm := hLm f (List.mem_of_getElem? hf)
    have hfk := (hpl.f _ _ hfm).2
    have hf1 := (hpl.f _ _ hfm).1
    repeat (first | refine byW ?_ | (refine byV ?_; intro w hw))
    refine lCall ((children_any (t := tl (farI H) cost (chP H r ms) f) (x := f) (fun d hm => hurg (k := 1) (hdep f hfm) (by omega) hfk d ((hpl.k f hf1).mem_iff.1 hm)) hw).mono fun e w hq => ?_)
    clear hw
    obtain ⟨vm, rfl, hw⟩ := hq
    refine ⟨_, rfl, ?_⟩
    rw [hks f hf1] at hw
    have hMl := hsl f hf1
    have hend : E0 ++ (L.take (i + 1)).flatMap (fun f => (srt (farI H) cost (chP H r ms) f).map fun t => ((f, t) : Pl)) = E0 ++ (L.take i).flatMap (fun f => (srt (farI H) cost (chP H r ms) f).map fun t => ((f, t) : Pl)) ++ (srt (farI H) cost (chP H r ms) f).map fun t => ((f, t) : Pl) := by
      rw [take_succ_of hf, List.flatMap_append, List.append_assoc]; simp
    generalize E0 ++ (L.take i).flatMap (fun f => (srt (farI H) cost (chP H r ms) f).map fun t => ((f, t) : Pl)) = E1 at hw hend
    generalize srt (farI H) cost (chP H r ms) f = M at hw hMl hend
    obtain ⟨aM, nM, cM, rfl, hnM, hnMc, hcM⟩ := hw.own_shape (i := 0) rfl
    simp only [intRows, List.length_map] at hnM
    have hw : Wd Γ' ([.own (.slice al nl cl) 3 1 (intRows L), .own (.slice aM nM cM) 3 1 (intRows M)] ++ (.blk bt (.cells #[.int .i64 r, .slice q m d] 32) :: .own (.slice q m d) 60 2 ((E1 ++ (((M.take 0).map fun t => (f, t)) : List Pl)).map plV) :: .blk b8 (.cells #[.int .i64 0, .slice none 0 0] 32) :: .blk b4 (hwC H a1 n1 c1 a2 n2 c2 a3 n3 c3 a4 n4 c4 a5 n5 c5) :: S)) w := by
      rw [List.take_zero, List.map_nil, List.append_nil]; exact hw.ps [1]
    repeat (first | refine byW ?_ | (refine byV ?_; intro w hw))
    refine W_loop (fun μ2 ρ w => ∃ (j : Nat) (q : Option Addr) (m d : Nat), μ2 + j = nM ∧ m ≤ 32 + i * 32 + j ∧ Has ρ [(1, .int .i64 r), (8, .pointer (some ⟨b8, 0, none⟩)), (14, .pointer (some ⟨bp, 0, none⟩)), (17, .pointer (some ⟨bt, 0, none⟩)), (18, .slice al nl cl), (20, .int .i64 i), (21, .slice aM nM cM), (22, .int .i64 j)] ∧ Wd Γ' ([.own (.slice al nl cl) 3 1 (intRows L), .own (.slice aM nM cM) 3 1 (intRows M)] ++ (.blk bt (.cells #[.int .i64 r, .slice q m d] 32) :: .own (.slice q m d) 60 2 ((E1 ++ (((M.take j).map fun t => (f, t)) : List Pl)).map plV) :: .blk b8 (.cells #[.int .i64 0, .slice none 0 0] 32) :: .blk b4 (hwC H a1 n1 c1 a2 n2 c2 a3 n3 c3 a4 n4 c4 a5 n5 c5) :: S)) w) nM ⟨0, q, m, d, by omega, by omega, ⟨rfl, rfl, rfl, rfl, rfl, rfl, rfl, rfl, trivial⟩, hw⟩ ?_
    clear hw hm
    rintro μ2 ρ w ⟨j, q, m, d, hj, hm, hρ, hw⟩
    rw [hρ.eq]
    clear hρ
    have hml := own_len (i := 3) hw rfl
    repeat (first | refine byW ?_ | (refine byV ?_; intro w hw))
    refine W_cond rfl (fun h => ?_) (fun h => ?_)
    · have hjn : j < nM := by have := of_decide_eq_true h; omega
      clear h
      obtain ⟨y, hy⟩ := get_lt (l := M) (k := j) (by omega)
      have hes : (E1 ++ (M.take j).map fun t => ((f, t) : Pl)) ++ [(f, y)] = E1 ++ (M.take (j + 1)).map fun t => (f, t) := by rw [take_succ_of hy, List.map_append, List.append_assoc]; rfl
      generalize (E1 ++ (M.take j).map fun t => ((f, t) : Pl)) = es at hw hes hml
      simp only [List.length_map] at hml
      repeat (first | refine byW ?_ | (refine byV ?_; intro w hw))
      refine W_mix2 [.own (.slice al nl cl) 3 1 (intRows L), .own (.slice aM nM cM) 3 1 (intRows M)] (.blk bt (.cells #[.int .i64 r, .slice q m d] 32) :: .own (.slice q m d) 60 2 (es.map plV) :: .blk b8 (.cells #[.int .i64 0, .slice none 0 0] 32) :: .blk b4 (hwC H a1 n1 c1 a2 n2 c2 a3 n3 c3 a4 n4 c4 a5 n5 c5) :: S) [[],[],[],[],[],[],[],[],[],[],[],[1],[0],[],[0]] [[],[0],[],[],[],[],[],[],[],[],[],[1],[0,1],[],[0]] [[172], [171]] hw ?_
      repeat (first | refine mY ?_ | refine mP ?_ | refine mPg ?_)
      refine mY (v := .agg (plV (f, y)).toArray) ?_ (hy := fun Y w g hw => y_build rfl)
      refine mBuild [plV (f, y)] ?_
      refine mApp (j := 1) ?_
      repeat (first | refine mY ?_ | refine mP ?_ | refine mPg ?_)
      refine mStoreV ?_
      refine mEnd fun w g hw => ?_
      have hw := Wd.dropEnd hw
      have hw : Wd Γ' ([.own (.slice al nl cl) 3 1 (intRows L), .own (.slice aM nM cM) 3 1 (intRows M)] ++ (.blk bt (.cells #[.int .i64 r, g 172] 32) :: .own (g 172) 60 2 (es.map plV ++ [plV (f, y)]) :: .blk b8 (.cells #[.int .i64 0, .slice none 0 0] 32) :: .blk b4 (hwC H a1 n1 c1 a2 n2 c2 a3 n3 c3 a4 n4 c4 a5 n5 c5) :: S)) w := hw
      generalize g 172 = gg at hw
      obtain ⟨q', m', d', rfl, hm', hmd', -⟩ := hw.own_shape (i := 3) rfl
      rw [show es.map plV ++ [plV (f, y)] = (es ++ [(f, y)]).map plV by simp] at hw
      rw [hes] at hw
      have hm2 : m' ≤ 32 + i * 32 + (j + 1) := by rw [hm']; simp; omega
      repeat (first | refine byW ?_ | (refine byV ?_; intro w hw))
      exact ⟨μ2 - 1, by omega, j + 1, q', m', d', by omega, hm2, ⟨rfl, rfl, rfl, rfl, rfl, rfl, rfl, rfl, trivial⟩, hw⟩
    have hjn : ¬ j < nM := by have := of_decide_eq_false h; omega
    rw [List.take_of_length_le (by omega), ← hend] at hw
    have hw := hw.dropAt 1
    clear h
    repeat (first | refine byW ?_ | (refine byV ?_; intro w hw))
    exact ⟨μ - 1, by omega, i + 1, q, m, d, by omega, by omega, ⟨rfl, rfl, rfl, rfl, rfl, rfl, trivial⟩, hw⟩
  have hin : ¬ i < nl := by have := of_decide_eq_false h; omega
  rw [List.take_of_length_le (by omega)] at hw
  clear h
  generalize E0 ++ L.flatMap (fun f => (srt (farI H) cost (chP H r ms) f).map fun t => ((f, t) : Pl)) = EE at hw
  repeat (first | refine byW ?_ | (refine byV ?_; intro w hw))
  refine lStore ?_
  intro w hw
  have hw : Wd Γ' ([.own (.slice al nl cl) 3 1 (intRows L)] ++ (.blk bt (.cells #[.int .i64 r, .slice q m d] 32) :: .own (.slice q m d) 60 2 (EE.map plV) :: .blk b8 (.cells #[.int .i64 r, .slice q m d] 32) :: .blk b4 (hwC H a1 n1 c1 a2 n2 c2 a3 n3 c3 a4 n4 c4 a5 n5 c5) :: S)) w := hw
  repeat (first | refine byW ?_ | (refine byV ?_; intro w hw))
  exact ⟨[_, _], ⟨resC (i := 3) hw rfl rfl rfl, rfl, trivial⟩, Γ', _, hle, rfl, hw.ds [0, 0, 1, 1]⟩
end Go.Proofs.YteiijmclobggjaaGreat
end
/- The reference's Plan as a call; its Arrivals and Completion, walked (printed by gen_j10.py). -/
section
open Go Mk
namespace Go.Proofs.YteiijmclobggjaaGreat
set_option maxHeartbeats 64000000
attribute [local irreducible] Calls matL
theorem RPlan_any {Γ : Gho} {u v : Value} {H : HwT} [hhw : HwR Γ u H] [hwd : WideH H] {ms : List Int} [hr : SlC Γ v 1 (intRows ms)] [hsh : ShortL ms] (r cost : Int) {S : List Res} {w : World} (hw : Wd Γ S w) :
    Calls Tryz.prog 12 #[u, .int .i64 r, v, .int .i64 cost] w fun e w' => ∃ vo, e = .returned (.tuple #[.agg #[.int .i64 (planS H r ms cost).1, vo], .int .i64 (planErr H r ms cost)]) ∧ Wd Γ (.own vo 60 2 ((planS H r ms cost).2.map plV) :: S) w' := by
  haveI := hhw.mono (hpG_le hw)
  haveI : SlC (hpG Γ w) v 1 (intRows ms) := ⟨hr.h.mono (hpG_le hw)⟩
  refine (RPlan_G (Γ := hpG Γ w) r cost (hpG_wd hw)).mono ?_
  rintro e w' ⟨Γ', vo, hle, he, hw'⟩
  exact ⟨vo, he, wd_keptG (R := [_]) hw hle own_noimm hw'⟩
theorem W_cut2 {P : Program} {n : Nat} {a b : Code} {K : Fr → World → Prop} {Q : Exit → Fr → World → Prop} {ρ : Fr} {w : World} (I : Fr → World → Prop) (h1 : W P n a (Then (W P n b (Then I Q)) (Then I Q)) ρ w) (h2 : ∀ ρ w, I ρ w → K ρ w) : W P n a (Then (W P n b (Then K Q)) (Then K Q)) ρ w :=
  h1.mono fun e ρ w h => by
    cases e with
    | normal => exact W_cutT I h h2
    | _ => exact h
theorem cntF_zero {es : List Pl} {x : Int} : cntF es 0 x = 0 := by simp [cntF]
theorem cntF_same {es : List Pl} {m : Nat} {e e' : Pl} (h : es[m]? = some e) (he : e.1 = e'.1) : cntF es (m + 1) e'.1 = cntF es m e.1 + 1 := by
  unfold cntF
  rw [take_succ_of h, List.countP_append, ← he]
  simp
theorem cntF_new {es : List Pl} (ht : Together es) {m : Nat} {e e' : Pl} (h : es[m]? = some e) (h' : es[m + 1]? = some e') (he : e.1 ≠ e'.1) : cntF es (m + 1) e'.1 = 0 := by
  unfold cntF
  rw [List.countP_eq_zero]
  intro a ha
  obtain ⟨j, hj⟩ := List.getElem?_of_mem ha
  rw [List.getElem?_take] at hj
  split at hj
  · rename_i hjm
    intro hd
    have hd : a.1 = e'.1 := by simpa using hd
    have := ht j m (m + 1) a e' (by omega) (by omega) hj h' hd e h
    exact he (this.trans hd)
  · cases hj
theorem tree_inv {H : HwT} {r : Int} {es : List Pl} (h : treeErr H r es = 0) : validS H = 0 ∧ (findC H.Cores r).2 = true ∧ (∀ e ∈ es, (findC H.Cores e.1).2 = true ∧ (findC H.Cores e.2).2 = true) ∧ (r :: es.map (·.2)).Nodup ∧ ProtoP r es := by
  unfold treeErr at h
  by_cases e1 : validS H = 0
  · rw [if_pos e1] at h
    by_cases e2 : ((findC H.Cores r).2 && es.all (knownT H)) = true
    · rw [if_pos e2] at h
      by_cases e3 : (r :: es.map (·.2)).Nodup
      · rw [if_pos (decP_t e3)] at h
        by_cases e4 : ProtoP r es
        · rw [Bool.and_eq_true] at e2
          refine ⟨e1, e2.1, fun e he => ?_, e3, e4⟩
          have := List.all_eq_true.1 e2.2 e he
          unfold knownT at this
          simpa using this
        · rw [decP_f e4] at h; simp at h
      · rw [decP_f e3] at h; simp at h
    · rw [if_neg e2] at h; omega
  · rw [if_neg e1] at h; exact absurd h e1
theorem RArrivals_any {Γ : Gho} {u v : Value} {H : HwT} [hh : HwR Γ u H] [hwd : WideH H] {es : List Pl} [hr : SlC Γ v 2 (es.map plV)] [hsh : ShortL es] (r cost : Int) {S : List Res} {w : World} (hw : Wd Γ S w) :
    Calls Tryz.prog 14 #[u, .agg #[.int .i64 r, v], .int .i64 cost] w fun e w' => ∃ vo, e = .returned (.tuple #[vo, .int .i64 (arrS H r es cost).2]) ∧ Wd Γ (.own vo 3 1 (intRows (arrS H r es cost).1) :: S) w' := by
  have hh' := hh
  obtain ⟨a1, n1, c1, a2, n2, c2, a3, n3, c3, a4, n4, c4, a5, n5, c5, cs, rfl, -⟩ := hh.h
  have hrs := hr.h
  obtain ⟨am, nm, cm, rfl, hnm, hnmc, hcm⟩ := hr.h.shape
  simp only [List.length_map] at hnm
  have hms := hsh.h
  refine calls_of_W Tryz.func14 rfl rfl ?_
  repeat (first | refine byW ?_ | (refine byV ?_; intro w hw))
  refine lBox ?_
  intro b3 w hw
  refine lBox ?_
  intro b4 w hw
  have hw : Wd Γ (.blk b4 (.cells #[.int .i64 r, .slice am nm cm] 32) :: .blk b3 (hwC H a1 n1 c1 a2 n2 c2 a3 n3 c3 a4 n4 c4 a5 n5 c5) :: S) w := hw
  unfold arrS
  repeat (first | refine byW ?_ | (refine byV ?_; intro w hw))
  refine W_cond rfl (fun h => ?_) (fun h => ?_)
  · have h : ¬ treeErr H r es = 0 := by simpa using h
    rw [if_neg h]
    repeat (first | refine byW ?_ | (refine byV ?_; intro w hw))
    exact ⟨_, rfl, _, rfl, Wd.addNil (hw.ds [0, 0])⟩
  have h : treeErr H r es = 0 := by simpa using h
  rw [if_pos h]
  obtain ⟨hv, hkr, hke, hnd, hpr⟩ := tree_inv h
  have htg := proto_together hpr
  clear h
  repeat (first | refine byW ?_ | (refine byV ?_; intro w hw))
  refine W_cond rfl (fun h => ?_) (fun h => ?_)
  · have h : (decide (cost < 0) || decide (cost > 1000000)) = true := h
    rw [if_pos (by simp at h; omega)]
    repeat (first | refine byW ?_ | (refine byV ?_; intro w hw))
    exact ⟨_, rfl, _, rfl, Wd.addNil (hw.ds [0, 0])⟩
  have h : (decide (cost < 0) || decide (cost > 1000000)) = false := h
  have hc : 0 ≤ cost ∧ cost ≤ 1000000 := by simp at h; omega
  rw [if_neg (by omega)]
  clear h
  haveI pM := pg_Matrix (hh := hh') hv
  repeat (first | refine byW ?_ | (refine byV ?_; intro w hw))
  refine lAlloc ?_
  intro b9 w hw
  rw [matL_zero] at hw
  have hw : Wd Γ (.blk b9 (.cells (matL (fun _ _ => 0)).toArray 85) :: .blk b4 (.cells #[.int .i64 r, .slice am nm cm] 32) :: .blk b3 (hwC H a1 n1 c1 a2 n2 c2 a3 n3 c3 a4 n4 c4 a5 n5 c5) :: S) w := hw
  refine lStore (i := 0) (vs := matL (dstM H)) ?_ (hl := matL_len _) (h1 := by rw [List.all_eq_true]; exact matL_one _) (ho := by simp [matL_len]) (hv := by simp [Value.cells])
  intro w hw
  have hw : Wd Γ (.blk b9 (.cells (putCells (matL (fun _ _ => 0)).toArray 0 (matL (dstM H))) 85) :: .blk b4 (.cells #[.int .i64 r, .slice am nm cm] 32) :: .blk b3 (hwC H a1 n1 c1 a2 n2 c2 a3 n3 c3 a4 n4 c4 a5 n5 c5) :: S) w := hw
  rw [show putCells (matL (fun _ _ => 0)).toArray 0 (matL (dstM H)) = (matL (dstM H)).toArray from by unfold putCells; simp [matL_len]] at hw
  repeat (first | refine byW ?_ | (refine byV ?_; intro w hw))
  have hb0 : ∀ (j : Nat) (x : Int), j < 0 → (arr0 (farI H) cost es)[j]? = some x → 0 ≤ x ∧ x ≤ ((j : Int) + 1) * 1063000000 := fun j x h => by omega
  have hl0 : (arr0 (farI H) cost es).length = nm := by rw [arr0_len]; exact hnm.symm
  have hw : Wd Γ (.own (.slice none 0 0) 3 1 (intRows ((arr0 (farI H) cost es).take 0)) :: .blk b9 (.cells (matL (dstM H)).toArray 85) :: .blk b4 (.cells #[.int .i64 r, .slice am nm cm] 32) :: .blk b3 (hwC H a1 n1 c1 a2 n2 c2 a3 n3 c3 a4 n4 c4 a5 n5 c5) :: S) w := Wd.addNil hw
  refine W_loop (fun μ ρ w => ∃ (k : Nat) (q : Option Addr) (m d : Nat) (cv : Int), μ + k = nm ∧ 0 ≤ cv ∧ cv ≤ (k : Int) ∧ (∀ (j : Nat) (e : Pl), k = j + 1 → es[j]? = some e → cv = (cntF es j e.1 : Int) + 1) ∧ (∀ (j : Nat) (x : Int), j < k → (arr0 (farI H) cost es)[j]? = some x → 0 ≤ x ∧ x ≤ ((j : Int) + 1) * 1063000000) ∧ Has ρ [(2, .int .i64 cost), (3, .pointer (some ⟨b3, 0, none⟩)), (4, .pointer (some ⟨b4, 0, none⟩)), (9, .pointer (some ⟨b9, 0, none⟩)), (10, .slice q m d), (11, .int .i64 cv), (12, .int .i64 k)] ∧ Wd Γ (.own (.slice q m d) 3 1 (intRows ((arr0 (farI H) cost es).take k)) :: .blk b9 (.cells (matL (dstM H)).toArray 85) :: .blk b4 (.cells #[.int .i64 r, .slice am nm cm] 32) :: .blk b3 (hwC H a1 n1 c1 a2 n2 c2 a3 n3 c3 a4 n4 c4 a5 n5 c5) :: S) w) nm ⟨0, none, 0, 0, 0, by omega, by omega, by omega, fun j e h => by omega, hb0, ⟨rfl, rfl, rfl, rfl, rfl, rfl, rfl, trivial⟩, hw⟩ ?_
  clear hw hb0
  rintro μ ρ w ⟨k, q, m, d, cv, hk, hcv0, hcv1, hcnt, hbd, hρ, hw⟩
  have hm := own_len (i := 0) hw rfl
  simp only [intRows, List.length_map, List.length_take, hl0] at hm
  rw [hρ.eq]
  clear hρ
  repeat (first | refine byW ?_ | (refine byV ?_; intro w hw))
  refine W_cond rfl (fun h => ?_) (fun h => ?_)
  · have hkn : k < nm := by have := of_decide_eq_true h; omega
    clear h
    rw [Nat.min_eq_left (by omega)] at hm
    subst hm
    obtain ⟨e, he⟩ := get_lt (l := es) (k := m) (by omega)
    have hem := List.mem_of_getElem? he
    obtain ⟨hk1, hk2⟩ := hke e hem
    haveI pn1 := pg_NodeOf (hh := hh') hk1
    haveI pn2 := pg_NodeOf (hh := hh') hk2
    have hc1 := coreN_rng hv hk1
    have hc2 := coreN_rng hv hk2
    have hfar := far_le hv hk1 hk2
    have hgm := getM (dstM H) (a := coreN H e.1) (b := coreN H e.2) hc1 hc2
    have hcle : (cntF es m e.1 : Int) ≤ (m : Int) := by
      have : cntF es m e.1 ≤ (es.take m).length := List.countP_le_length
      rw [List.length_take] at this; omega
    have hmul : 0 ≤ ((cntF es m e.1 : Int) + 1) * cost ∧ ((cntF es m e.1 : Int) + 1) * cost ≤ 1000000000 := ⟨Int.mul_nonneg (by omega) hc.1, Int.le_trans (Int.mul_le_mul (b := cost) (d := 1000000) (show (cntF es m e.1 : Int) + 1 ≤ 1000 by omega) hc.2 hc.1 (by omega)) (by omega)⟩
    rw [List.nodup_cons] at hnd
    have hcase : (e.1 = r ∧ (arr0 (farI H) cost es)[m]? = some (0 + ((cntF es m e.1 : Int) + 1) * cost + farI H e.1 e.2)) ∨ (e.1 ≠ r ∧ ∃ (p : Nat) (x : Int), reachN es e.1 = p ∧ p < m ∧ (arr0 (farI H) cost es)[p]? = some x ∧ (arr0 (farI H) cost es)[m]? = some (x + ((cntF es m e.1 : Int) + 1) * cost + farI H e.1 e.2)) := by
      by_cases hr1 : e.1 = r
      · left
        refine ⟨hr1, ?_⟩
        rw [Int.zero_add]
        exact arr0_root he fun p hp h => hnd.1 (by rw [← hr1, ← h]; exact List.mem_map_of_mem hp)
      · right
        refine ⟨hr1, ?_⟩
        rcases List.mem_cons.1 (hpr m e he).1 with h | h
        · exact absurd h hr1
        · have h2 := reach_take.1 h
          rcases reachN_cases es e.1 with ⟨h3, -⟩ | ⟨p, y, h3, h4, h5, -⟩
          · omega
          · obtain ⟨x, hx⟩ := get_lt (l := arr0 (farI H) cost es) (k := p) (by omega)
            exact ⟨p, x, h3, by omega, hx, arr0_next he h4 (by omega) h5 hx hnd.2⟩
    have hnew : m = 0 ∨ (∃ e0, es[m - 1]? = some e0 ∧ e0.1 ≠ e.1) → (cntF es m e.1 : Int) + 1 = 1 := fun h => by
      rcases h with h | ⟨e0, h1, h2⟩
      · subst h; rw [cntF_zero]; rfl
      · have hm0 : m ≠ 0 := fun h0 => by subst h0; rw [Nat.zero_sub] at h1; rw [he] at h1; cases h1; exact h2 rfl
        have e1 : m = (m - 1) + 1 := by omega
        rw [e1, cntF_new htg h1 (by rw [← e1]; exact he) h2]; rfl
    have hold : ∀ e0, m ≠ 0 → es[m - 1]? = some e0 → e0.1 = e.1 → cv + 1 = (cntF es m e.1 : Int) + 1 := fun e0 hm0 h1 h2 => by
      have e1 : m = (m - 1) + 1 := by omega
      rw [hcnt (m - 1) e0 e1 h1]
      conv => rhs; rw [e1]
      rw [cntF_same h1 h2]
      omega
    repeat (first | refine byW ?_ | (refine byV ?_; intro w hw))
    refine lAlloc ?_
    intro b13 w hw
    refine lStore ?_
    intro w hw
    have hw : Wd Γ (.blk b13 (.cells #[.int .i64 e.1, .int .i64 e.2] 60) :: .own (.slice q m d) 3 1 (intRows ((arr0 (farI H) cost es).take m)) :: .blk b9 (.cells (matL (dstM H)).toArray 85) :: .blk b4 (.cells #[.int .i64 r, .slice am nm cm] 32) :: .blk b3 (hwC H a1 n1 c1 a2 n2 c2 a3 n3 c3 a4 n4 c4 a5 n5 c5) :: S) w := hw
    repeat (first | refine byW ?_ | (refine byV ?_; intro w hw))
    refine W_cut2 (fun ρ w => Has ρ [(2, .int .i64 cost), (3, .pointer (some ⟨b3, 0, none⟩)), (4, .pointer (some ⟨b4, 0, none⟩)), (9, .pointer (some ⟨b9, 0, none⟩)), (10, .slice q m d), (11, .int .i64 ((cntF es m e.1 : Int) + 1)), (12, .int .i64 m), (13, .pointer (some ⟨b13, 0, none⟩))] ∧ Wd Γ (.blk b13 (.cells #[.int .i64 e.1, .int .i64 e.2] 60) :: .own (.slice q m d) 3 1 (intRows ((arr0 (farI H) cost es).take m)) :: .blk b9 (.cells (matL (dstM H)).toArray 85) :: .blk b4 (.cells #[.int .i64 r, .slice am nm cm] 32) :: .blk b3 (hwC H a1 n1 c1 a2 n2 c2 a3 n3 c3 a4 n4 c4 a5 n5 c5) :: S) w) ?_ ?_
    · by_cases hm0 : m = 0
      · subst hm0
        have h1 := hnew (.inl rfl)
        refine W_quiet (by kernel_rfl) (by kernel_rfl) hw ?_
        iterate 3 (first | refine Q_nil ?_ | (apply Q_plain; first | (apply Q_go; first | refine qP ?_ | refine qPg ?_) | refine qY ?_) | (apply Q_guarded; first | (apply Q_go; first | refine qPG ?_ | refine qPgG ?_) | refine qG ?_))
        iterate 10 (refine qGF ?_ rfl)
        refine qY (v := .bool false) ?_ (hy := fun w hw => y_pickF rfl rfl)
        repeat (first | refine Q_nil ?_ | (apply Q_plain; first | (apply Q_go; first | refine qP ?_ | refine qPg ?_) | refine qY ?_) | (apply Q_guarded; first | (apply Q_go; first | refine qPG ?_ | refine qPgG ?_) | refine qG ?_))
        clear hw
        intro w hw
        refine W_cond rfl (fun h => ?_) (fun h => ?_)
        · repeat (first | refine byW ?_ | (refine byV ?_; intro w hw))
          exact ⟨⟨rfl, rfl, rfl, rfl, rfl, (by show Value.int .i64 1 = _; rw [h1]), rfl, rfl, trivial⟩, hw⟩
        · simp at h
      · obtain ⟨e0, he0⟩ := get_lt (l := es) (k := m - 1) (by omega)
        have he0' : es[((m : Int) - 1).toNat]? = some e0 := by rw [show ((m : Int) - 1).toNat = m - 1 by omega]; exact he0
        refine W_quiet (by kernel_rfl) (by kernel_rfl) hw ?_
        iterate 1 (first | refine Q_nil ?_ | (apply Q_plain; first | (apply Q_go; first | refine qP ?_ | refine qPg ?_) | refine qY ?_) | (apply Q_guarded; first | (apply Q_go; first | refine qPG ?_ | refine qPgG ?_) | refine qG ?_))
        refine qT (b := decide ((0 : Int) < (m : Int))) (decide_eq_true (by omega)) ?_
        repeat (first | refine Q_nil ?_ | (apply Q_plain; first | (apply Q_go; first | refine qP ?_ | refine qPg ?_) | refine qY ?_) | (apply Q_guarded; first | (apply Q_go; first | refine qPG ?_ | refine qPgG ?_) | refine qG ?_))
        clear hw
        intro w hw
        refine W_cond rfl (fun h => ?_) (fun h => ?_)
        · have h : e0.1 ≠ e.1 := by simp at h; omega
          have h1 := hnew (.inr ⟨e0, he0, h⟩)
          repeat (first | refine byW ?_ | (refine byV ?_; intro w hw))
          exact ⟨⟨rfl, rfl, rfl, rfl, rfl, (by show Value.int .i64 1 = _; rw [h1]), rfl, rfl, trivial⟩, hw⟩
        · have h : e0.1 = e.1 := by simp at h; omega
          have h1 := hold e0 hm0 he0 h
          repeat (first | refine byW ?_ | (refine byV ?_; intro w hw))
          exact ⟨⟨rfl, rfl, rfl, rfl, rfl, (by show Value.int .i64 (cv + 1) = _; rw [h1]), rfl, rfl, trivial⟩, hw⟩
    clear hw
    rintro ρ w ⟨hρ, hw⟩
    rw [hρ.eq]
    clear hρ
    clear hnew hold hcnt
    generalize hcn : (cntF es m e.1 : Int) + 1 = cn at *
    have hcn1 : 0 ≤ cn ∧ cn ≤ 1001 := by omega
    have hO : (intRows ((arr0 (farI H) cost es).take m)).length = m := by simp [intRows, hl0]; omega
    repeat (first | refine byW ?_ | (refine byV ?_; intro w hw))
    refine W_cutT (fun ρ w => ∃ st : Int, (arr0 (farI H) cost es)[m]? = some (st + cn * cost + farI H e.1 e.2) ∧ 0 ≤ st ∧ st ≤ (m : Int) * 1063000000 ∧ Has ρ [(2, .int .i64 cost), (3, .pointer (some ⟨b3, 0, none⟩)), (4, .pointer (some ⟨b4, 0, none⟩)), (9, .pointer (some ⟨b9, 0, none⟩)), (10, .slice q m d), (11, .int .i64 cn), (12, .int .i64 m), (13, .pointer (some ⟨b13, 0, none⟩)), (14, .int .i64 st)] ∧ Wd Γ (.blk b13 (.cells #[.int .i64 e.1, .int .i64 e.2] 60) :: .own (.slice q m d) 3 1 (intRows ((arr0 (farI H) cost es).take m)) :: .blk b9 (.cells (matL (dstM H)).toArray 85) :: .blk b4 (.cells #[.int .i64 r, .slice am nm cm] 32) :: .blk b3 (hwC H a1 n1 c1 a2 n2 c2 a3 n3 c3 a4 n4 c4 a5 n5 c5) :: S) w) ?_ ?_
    · refine W_cond rfl (fun h => ?_) (fun h => ?_)
      · have h : e.1 ≠ r := by simpa using h
        rcases hcase with ⟨h1, -⟩ | ⟨-, p, x, g1, g2, g3, g4⟩
        · exact absurd h1 h
        have hbx := hbd p x g2 g3
        haveI pr : PG Tryz.prog Γ 41 [.agg #[.int .i64 r, .slice am nm cm], .int .i64 e.1] (.int .i64 (p : Nat)) := by
          have := pg_reached (hr := hr) (v := .slice am nm cm) r e.1
          rwa [g1] at this
        have hx : ((arr0 (farI H) cost es).take m)[p]? = some x := by rw [List.getElem?_take, if_pos g2]; exact g3
        generalize (arr0 (farI H) cost es).take m = O at hw hx hO
        repeat (first | refine byW ?_ | (refine byV ?_; intro w hw))
        exact ⟨x, g4, hbx.1, by omega, ⟨rfl, rfl, rfl, rfl, rfl, rfl, rfl, rfl, rfl, trivial⟩, hw⟩
      · have h : e.1 = r := by simpa using h
        rcases hcase with ⟨-, h1⟩ | ⟨h1, -⟩
        · repeat (first | refine byW ?_ | (refine byV ?_; intro w hw))
          exact ⟨0, h1, by omega, by omega, ⟨rfl, rfl, rfl, rfl, rfl, rfl, rfl, rfl, rfl, trivial⟩, hw⟩
        · exact absurd h h1
    clear hw hcase
    rintro ρ w ⟨st, hst, hst0, hst1, hρ, hw⟩
    rw [hρ.eq]
    clear hρ
    have hsn : (arr0 (farI H) cost es).take (m + 1) = (arr0 (farI H) cost es).take m ++ [st + cn * cost + farI H e.1 e.2] := take_succ_of hst
    have hbd2 : ∀ (j : Nat) (x : Int), j < m + 1 → (arr0 (farI H) cost es)[j]? = some x → 0 ≤ x ∧ x ≤ ((j : Int) + 1) * 1063000000 := fun j x hj hx => by
      by_cases ej : j = m
      · subst ej
        rw [hst] at hx; cases hx
        omega
      · exact hbd j x (by omega) hx
    generalize (arr0 (farI H) cost es).take m = O at hw hO hsn
    have hw : Wd Γ ([.blk b13 (.cells #[.int .i64 e.1, .int .i64 e.2] 60), .blk b9 (.cells (matL (dstM H)).toArray 85), .blk b4 (.cells #[.int .i64 r, .slice am nm cm] 32), .blk b3 (hwC H a1 n1 c1 a2 n2 c2 a3 n3 c3 a4 n4 c4 a5 n5 c5)] ++ (.own (.slice q m d) 3 1 (intRows O) :: S)) w := hw.perm byPM
    repeat (first | refine byW ?_ | (refine byV ?_; intro w hw))
    have hf : farI H e.1 e.2 = dstM H (coreN H e.1) (coreN H e.2) := rfl
    refine W_mixQ [.blk b13 (.cells #[.int .i64 e.1, .int .i64 e.2] 60), .blk b9 (.cells (matL (dstM H)).toArray 85), .blk b4 (.cells #[.int .i64 r, .slice am nm cm] 32), .blk b3 (hwC H a1 n1 c1 a2 n2 c2 a3 n3 c3 a4 n4 c4 a5 n5 c5)] (.own (.slice q m d) 3 1 (intRows O) :: S) [91, 92] 10 (.slice q m d) [[],[],[],[],[],[],[],[],[],[],[],[],[],[],[],[],[],[],[0],[0],[0,1]] [[1],[],[],[],[],[],[],[],[],[],[],[],[],[],[],[],[],[],[0],[0],[0,1]] hw ?_
    refine mMoveR (dd := 10) ?_
    repeat (first | refine mY ?_ | refine mP ?_ | refine mPg ?_)
    refine mY (v := .int .i64 (farI H e.1 e.2)) ?_ (hy := fun Y w g hw => y_l1b (i := 1) hw rfl rfl hgm)
    repeat (first | refine mY ?_ | refine mP ?_ | refine mPg ?_)
    refine mStepY (φ := fun (_ : Unit) _ => True) (R := fun _ => .own (.slice q m d) 3 1 (intRows O) :: S) (v := undef) (T' := Value) (fun t g => g 91 = t) (fun t => .own t 3 1 (intRows [st + cn * cost + farI H e.1 e.2]) :: .own (.slice q m d) 3 1 (intRows O) :: S) (fun t g w Y ht hw => s_buildSlice (rws := intRows [st + cn * cost + farI H e.1 e.2]) (cells := [.int .i64 (st + cn * cost + farI H e.1 e.2)]) hw rfl rfl rfl (by simp [intRows]) (by decide) fun q w' hw' => ⟨_, rfl, (fun h => by cases h), hw'⟩) ?_
    refine mStepY (φ := fun (t : Value) g => g 91 = t) (R := (fun t => .own t 3 1 (intRows [st + cn * cost + farI H e.1 e.2]) :: .own (.slice q m d) 3 1 (intRows O) :: S)) (v := undef) (T' := Value) (fun t g => g 92 = t) (fun t => .own t 3 1 (intRows O ++ intRows [st + cn * cost + farI H e.1 e.2]) :: S) (fun t g w Y ht hw => ?_) ?_
    · obtain ⟨d1, e1, z1, rfl, hn1, -, -⟩ := hw.own_shape (i := 0) rfl
      simp [intRows] at hn1
      exact s_append (i := 1) (rows2 := intRows [st + cn * cost + farI H e.1 e.2]) hw rfl ht rfl (Wd.own_rd (i := 0) hw rfl) (by rw [hn1]; rfl) (List.all_eq_true.1 (ints1 _)) (by omega) (by omega) fun v' w' hw' => ⟨v', rfl, (fun h => by cases h), hw'.drop⟩
    refine mAssY (φ := fun (t : Value) g => g 92 = t) (dx := 92) (dd := 10) (fun t g => g 10 = t) (fun t g ht => ht) ?_
    refine mEndQ (φ := fun (t : Value) g => g 10 = t) fun t w g ht hw => ?_
    rw [← intRows_app, ← hsn] at hw
    obtain ⟨q', m', d', rfl, hm', -, -⟩ := hw.own_shape (i := 0) rfl
    have hw : Wd Γ (.blk b13 (.cells #[.int .i64 e.1, .int .i64 e.2] 60) :: .own (.slice q' m' d') 3 1 (intRows ((arr0 (farI H) cost es).take (m + 1))) :: .blk b9 (.cells (matL (dstM H)).toArray 85) :: .blk b4 (.cells #[.int .i64 r, .slice am nm cm] 32) :: .blk b3 (hwC H a1 n1 c1 a2 n2 c2 a3 n3 c3 a4 n4 c4 a5 n5 c5) :: S) w := hw.perm byPM
    have hw := hw.drop
    refine W_has (l := [(2, .int .i64 cost), (3, .pointer (some ⟨b3, 0, none⟩)), (4, .pointer (some ⟨b4, 0, none⟩)), (9, .pointer (some ⟨b9, 0, none⟩)), (10, .slice q' m' d'), (11, .int .i64 cn), (12, .int .i64 m)]) ⟨rfl, rfl, rfl, rfl, ht, rfl, rfl, trivial⟩ fun ρ hρ => ?_
    rw [hρ.eq]
    repeat (first | refine byW ?_ | (refine byV ?_; intro w hw))
    refine ⟨μ - 1, by omega, m + 1, q', m', d', cn, by omega, by omega, by omega, fun j e2 hj he2 => ?_, hbd2, ⟨rfl, rfl, rfl, rfl, rfl, rfl, rfl, trivial⟩, hw⟩
    have : j = m := by omega
    subst this
    rw [he] at he2
    cases he2
    exact hcn.symm
  · have hkn : ¬ k < nm := by have := of_decide_eq_false h; omega
    rw [List.take_of_length_le (by omega)] at hw
    repeat (first | refine byW ?_ | (refine byV ?_; intro w hw))
    exact ⟨_, rfl, _, rfl, hw.ps [0] |>.ds [1, 1, 1]⟩
end Go.Proofs.YteiijmclobggjaaGreat
end
/- RouteTimes, walked (printed by gen_h37.py). -/
section
open Go Mk
namespace Go.Proofs.YteiijmclobggjaaGreat
set_option maxHeartbeats 16000000
attribute [local irreducible] Calls
section
variable {far : Int → Int → Int} {cost : Int} {r : Int} {es : List Pl}
end
end Go.Proofs.YteiijmclobggjaaGreat
end
/- The reference's Completion; two trees compared; RoutePlans, walked (printed by gen_j11.py). -/
section
open Go Mk
namespace Go.Proofs.YteiijmclobggjaaGreat
set_option maxHeartbeats 64000000
attribute [local irreducible] Calls
instance pg_RCompletion {Γ : Gho} {u v : Value} {H : HwT} [hh : HwR Γ u H] [hwd : WideH H] {es : List Pl} [hr : SlC Γ v 2 (es.map plV)] [hsh : ShortL es] (r cost : Int) : PG Tryz.prog Γ 16 [u, .agg #[.int .i64 r, v], .int .i64 cost] (.tuple #[.int .i64 (compS H r es cost), .int .i64 (arrS H r es cost).2]) := ⟨fun S w hw => by
  have hh' := hh
  obtain ⟨a1, n1, c1, a2, n2, c2, a3, n3, c3, a4, n4, c4, a5, n5, c5, cs, rfl, -⟩ := hh.h
  have hrs := hr
  obtain ⟨am, nm, cm, rfl, hnm, hnmc, hcm⟩ := hr.h.shape
  refine calls_of_W Tryz.func16 rfl rfl ?_
  repeat (first | refine byW ?_ | (refine byV ?_; intro w hw))
  refine lBox ?_
  intro b3 w hw
  refine lBox ?_
  intro b4 w hw
  have hw : Wd Γ (.blk b4 (.cells #[.int .i64 r, .slice am nm cm] 32) :: .blk b3 (hwC H a1 n1 c1 a2 n2 c2 a3 n3 c3 a4 n4 c4 a5 n5 c5) :: S) w := hw
  repeat (first | refine byW ?_ | (refine byV ?_; intro w hw))
  refine lCall ((RArrivals_any (hh := hh') (hr := hrs) r cost hw).mono fun e w hq => ?_)
  clear hw
  obtain ⟨va, rfl, hw⟩ := hq
  refine ⟨_, rfl, ?_⟩
  have hcs : compS H r es cost = (arrS H r es cost).1.foldl max 0 := by
    unfold compS
    split
    · rfl
    · rename_i h
      have : (arrS H r es cost).1 = [] := by
        unfold arrS at h ⊢
        split
        · split
          · rfl
          · rename_i h1 h2; rw [if_pos h1, if_neg h2] at h; exact absurd rfl h
        · rfl
      rw [this]; rfl
  rw [hcs]
  have hlen : (arrS H r es cost).1.length ≤ 1000 := Nat.le_trans arrS_len hsh.h
  generalize (arrS H r es cost).1 = l at *
  generalize (arrS H r es cost).2 = er at *
  obtain ⟨aa, na, ca, rfl, hna, hnac, hca⟩ := hw.own_shape (i := 0) rfl
  simp only [intRows, List.length_map] at hna
  repeat (first | refine byW ?_ | (refine byV ?_; intro w hw))
  refine W_loop (fun μ ρ w => ∃ (i : Nat) (m : Int), μ + i = na ∧ l.foldl max 0 = (l.drop i).foldl max m ∧ Has ρ [(8, .slice aa na ca), (9, .int .i64 er), (10, .int .i64 m), (11, .int .i64 i)] ∧ Wd Γ (.own (.slice aa na ca) 3 1 (intRows l) :: .blk b4 (.cells #[.int .i64 r, .slice am nm cm] 32) :: .blk b3 (hwC H a1 n1 c1 a2 n2 c2 a3 n3 c3 a4 n4 c4 a5 n5 c5) :: S) w) na ⟨0, 0, by omega, rfl, ⟨rfl, rfl, rfl, rfl, trivial⟩, hw⟩ ?_
  clear hw
  rintro μ ρ w ⟨i, m, hi, hF, hρ, hw⟩
  rw [hρ.eq]
  clear hρ
  repeat (first | refine byW ?_ | (refine byV ?_; intro w hw))
  refine W_cond rfl (fun h => ?_) (fun h => ?_)
  · have hin : i < na := by have := of_decide_eq_true h; omega
    clear h
    obtain ⟨y, hy⟩ := get_lt (l := l) (k := i) (by omega)
    obtain ⟨q1, q2⟩ := List.getElem?_eq_some_iff.1 hy
    rw [List.drop_eq_getElem_cons q1, q2, List.foldl_cons, max_if] at hF
    repeat (first | refine byW ?_ | (refine byV ?_; intro w hw))
    exact ⟨μ - 1, by omega, i + 1, _, by omega, hF, ⟨rfl, rfl, rfl, rfl, trivial⟩, hw⟩
  · have hin : ¬ i < na := by have := of_decide_eq_false h; omega
    rw [List.drop_eq_nil_of_le (by omega)] at hF
    have hF : l.foldl max 0 = m := hF
    rw [hF]
    repeat (first | refine byW ?_ | (refine byV ?_; intro w hw))
    exact ⟨_, rfl, rfl, hw.ds [0, 0, 0]⟩⟩
instance gotPl : GoT (Int × Int) where
  enc := plV
  inj a b h := by
    unfold plV at h
    obtain ⟨a1, a2⟩ := a
    obtain ⟨b1, b2⟩ := b
    simp at h; simp [h]
  ks := [5, 5]
  kinds a := rfl
instance pg_sameT {Γ : Gho} {v v2 : Value} {es : List Pl} [hr : SlC Γ v 2 (es.map plV)] [hr2 : SlC Γ v2 2 (es.map plV)] (r : Int) : PG Tryz.prog Γ 17 [.agg #[.int .i64 r, v], .agg #[.int .i64 r, v2]] (.bool true) := ⟨fun S w hw => by
  have hrs := hr.h
  have hrs2 := hr2.h
  obtain ⟨am, nm, cm, rfl, hnm, hnmc, hcm⟩ := hr.h.shape
  obtain ⟨ap, np, cp, rfl, hnp, hnpc, hcp⟩ := hr2.h.shape
  simp only [List.length_map] at hnm hnp
  have : np = nm := by omega
  subst this
  refine calls_of_W Tryz.func17 rfl rfl ?_
  repeat (first | refine byW ?_ | (refine byV ?_; intro w hw))
  refine lBox ?_
  intro b2 w hw
  refine lBox ?_
  intro b3 w hw
  have hw : Wd Γ (.blk b3 (.cells #[.int .i64 r, .slice ap np cp] 32) :: .blk b2 (.cells #[.int .i64 r, .slice am np cm] 32) :: S) w := hw
  repeat (first | refine byW ?_ | (refine byV ?_; intro w hw))
  refine W_cond rfl (fun h => ?_) (fun h => ?_)
  · exact absurd h (by simp)
  clear h
  repeat (first | refine byW ?_ | (refine byV ?_; intro w hw))
  refine W_loop (fun μ ρ w => ∃ (i : Nat), μ + i = np ∧ Has ρ [(2, .pointer (some ⟨b2, 0, none⟩)), (3, .pointer (some ⟨b3, 0, none⟩)), (5, .int .i64 i)] ∧ Wd Γ (.blk b3 (.cells #[.int .i64 r, .slice ap np cp] 32) :: .blk b2 (.cells #[.int .i64 r, .slice am np cm] 32) :: S) w) np ⟨0, by omega, ⟨rfl, rfl, rfl, trivial⟩, hw⟩ ?_
  clear hw
  rintro μ ρ w ⟨i, hi, hρ, hw⟩
  rw [hρ.eq]
  clear hρ
  repeat (first | refine byW ?_ | (refine byV ?_; intro w hw))
  refine W_cond rfl (fun h => ?_) (fun h => ?_)
  · have hin : i < np := by have := of_decide_eq_true h; omega
    clear h
    obtain ⟨e, he⟩ := get_lt (l := es) (k := i) (by omega)
    repeat (first | refine byW ?_ | (refine byV ?_; intro w hw))
    refine W_quiet (by kernel_rfl) (by kernel_rfl) hw ?_
    repeat (first | refine Q_nil ?_ | (apply Q_plain; first | (apply Q_go; first | refine qP ?_ | refine qPg ?_) | refine qY ?_) | (apply Q_guarded; first | (apply Q_go; first | refine qPG ?_ | refine qPgG ?_) | refine qG ?_))
    refine qY (v := .bool (decide (e ≠ e))) ?_ (hy := fun w hw => y_neqT (a := e) (b := e) rfl rfl rfl)
    repeat (first | refine Q_nil ?_ | (apply Q_plain; first | (apply Q_go; first | refine qP ?_ | refine qPg ?_) | refine qY ?_) | (apply Q_guarded; first | (apply Q_go; first | refine qPG ?_ | refine qPgG ?_) | refine qG ?_))
    intro w hw
    refine W_cond rfl (fun h => ?_) (fun h => ?_)
    · exact absurd h (by simp)
    clear h
    repeat (first | refine byW ?_ | (refine byV ?_; intro w hw))
    exact ⟨μ - 1, by omega, i + 1, by omega, ⟨rfl, rfl, rfl, trivial⟩, hw⟩
  · repeat (first | refine byW ?_ | (refine byV ?_; intro w hw))
    exact ⟨_, rfl, rfl, hw.ds [0, 0]⟩⟩
end Go.Proofs.YteiijmclobggjaaGreat
end
/- Which descriptions the statements call small. -/
section
open Go Mk
namespace Go.Proofs.YteiijmclobggjaaGreat
set_option maxHeartbeats 16000000
attribute [local irreducible] Calls
/-- How large the descriptions of the statements are at most. -/
structure HwSm (H : HwT) : Prop where
  n : H.Name.size ≤ 60
  c : H.Cores.length ≤ 40
  h : H.Caches.length ≤ 70
  l : H.Links.length ≤ 260
  m : H.Mems.length ≤ 70
  d : H.Devs.length ≤ 40
  hs : ∀ x ∈ H.Caches, x.Name.size ≤ 60 ∧ x.Cores.length ≤ 40
  ms : ∀ x ∈ H.Mems, x.Name.size ≤ 60
  ds : ∀ x ∈ H.Devs, x.Name.size ≤ 60
theorem drop_get {α : Type} {l : List α} {k : Nat} {x : α} (h : l[k]? = some x) : l.drop k = x :: l.drop (k + 1) := by
  obtain ⟨hk, rfl⟩ := List.getElem?_eq_some_iff.1 h
  exact List.drop_eq_getElem_cons hk
theorem all_drop {α : Type} {p : α → Bool} {l : List α} {k : Nat} {x : α} (h : l[k]? = some x) : (l.drop k).all p = (p x && (l.drop (k + 1)).all p) := by rw [drop_get h, List.all_cons]
theorem all_fin {α : Type} {p : α → Bool} {l : List α} {k : Nat} (h : l.length ≤ k) : (l.drop k).all p = true := by rw [List.drop_eq_nil_of_le h]; rfl
def hsB (c : CacheT) : Bool := decide (c.Name.size ≤ 60) && decide (c.Cores.length ≤ 40)
def smallHB (H : HwT) : Bool := ((((((decide (H.Name.size ≤ 60) && decide (H.Cores.length ≤ 40)) && decide (H.Caches.length ≤ 70)) && decide (H.Links.length ≤ 260)) && decide (H.Mems.length ≤ 70)) && decide (H.Devs.length ≤ 40))) && (H.Caches.all hsB && (H.Mems.all (fun x => decide (x.Name.size ≤ 60)) && H.Devs.all (fun x => decide (x.Name.size ≤ 60))))
theorem smallHB_iff {H : HwT} : smallHB H = true ↔ HwSm H := by
  unfold smallHB hsB
  simp only [Bool.and_eq_true, List.all_eq_true, decide_eq_true_eq]
  exact ⟨fun ⟨⟨⟨⟨⟨⟨h1, h2⟩, h3⟩, h4⟩, h5⟩, h6⟩, h7, h8, h9⟩ => ⟨h1, h2, h3, h4, h5, h6, h7, h8, h9⟩, fun h => ⟨⟨⟨⟨⟨⟨h.n, h.c⟩, h.h⟩, h.l⟩, h.m⟩, h.d⟩, h.hs, h.ms, h.ds⟩⟩
instance pg_Small {Γ : Gho} {u : Value} {H : HwT} [hh : HwQ Γ u H] : PG Tryz.prog Γ 8 [u] (.bool (smallHB H)) := ⟨fun S w hw => by
  obtain ⟨a1, n1, c1, a2, n2, c2, a3, n3, c3, a4, n4, c4, a5, n5, c5, cs, rfl, hcs, hok, r1, r2, r3, r4, r5⟩ := hh.h
  obtain ⟨f1, -, -⟩ := rep_facts r1
  obtain ⟨f2, -, -⟩ := rep_facts r2
  obtain ⟨f3, -, -⟩ := rep_facts r3
  obtain ⟨f4, -, -⟩ := rep_facts r4
  obtain ⟨f5, -, -⟩ := rep_facts r5
  simp only [List.length_map] at f1 f2 f3 f4 f5
  have hcl : cs.length = H.Caches.length := by rw [← hcs, List.length_map]
  refine calls_of_W Tryz.func8 rfl rfl ?_
  repeat (first | refine byW ?_ | (refine byV ?_; intro w hw))
  refine lBox ?_
  intro b1 w hw
  have hw : Wd Γ (.blk b1 (hwC H a1 n1 c1 a2 n2 c2 a3 n3 c3 a4 n4 c4 a5 n5 c5) :: S) w := hw
  repeat (first | refine byW ?_ | (refine byV ?_; intro w hw))
  refine W_cond rfl (fun h => ?_) (fun h => ?_)
  · have h : (((((decide ((60 : Int) < (H.Name.size : Nat)) || decide ((40 : Int) < (n1 : Nat))) || decide ((70 : Int) < (n2 : Nat))) || decide ((260 : Int) < (n3 : Nat))) || decide ((70 : Int) < (n4 : Nat))) || decide ((40 : Int) < (n5 : Nat))) = true := h
    repeat (first | refine byW ?_ | (refine byV ?_; intro w hw))
    refine ⟨_, rfl, ret_b rfl ?_, hw.drop⟩
    symm
    rw [Bool.eq_false_iff]
    intro q
    have q := smallHB_iff.1 q
    have q1 := q.n
    have q2 := q.c
    have q3 := q.h
    have q4 := q.l
    have q5 := q.m
    have q6 := q.d
    simp only [Bool.or_eq_true, decide_eq_true_eq] at h
    omega
  have h : (((((decide ((60 : Int) < (H.Name.size : Nat)) || decide ((40 : Int) < (n1 : Nat))) || decide ((70 : Int) < (n2 : Nat))) || decide ((260 : Int) < (n3 : Nat))) || decide ((70 : Int) < (n4 : Nat))) || decide ((40 : Int) < (n5 : Nat))) = false := h
  simp only [Bool.or_eq_false_iff, decide_eq_false_iff_not] at h
  have hB : smallHB H = (H.Caches.all hsB && (H.Mems.all (fun x => decide (x.Name.size ≤ 60)) && H.Devs.all (fun x => decide (x.Name.size ≤ 60)))) := by
    unfold smallHB
    rw [decide_eq_true (show H.Name.size ≤ 60 by omega), decide_eq_true (show H.Cores.length ≤ 40 by omega), decide_eq_true (show H.Caches.length ≤ 70 by omega), decide_eq_true (show H.Links.length ≤ 260 by omega), decide_eq_true (show H.Mems.length ≤ 70 by omega), decide_eq_true (show H.Devs.length ≤ 40 by omega)]; rfl
  rw [hB]
  clear hB
  repeat (first | refine byW ?_ | (refine byV ?_; intro w hw))
  refine W_loop (fun μ ρ w => ∃ (k : Nat), μ + k = n2 ∧ Has ρ [(1, .pointer (some ⟨b1, 0, none⟩)), (3, .int .i64 k)] ∧ H.Caches.all hsB = (H.Caches.drop k).all hsB ∧ Wd Γ (.blk b1 (hwC H a1 n1 c1 a2 n2 c2 a3 n3 c3 a4 n4 c4 a5 n5 c5) :: S) w) n2 ⟨0, by omega, ⟨rfl, rfl, trivial⟩, rfl, hw⟩ ?_
  clear hw
  rintro μ ρ w ⟨k, hk, hρ, hal, hw⟩
  rw [hρ.eq]
  repeat (first | refine byW ?_ | (refine byV ?_; intro w hw))
  refine W_cond rfl (fun h => ?_) (fun h => ?_)
  · have hkn : k < n2 := by have := of_decide_eq_true h; omega
    obtain ⟨x, hx⟩ := get_lt (l := cs) (k := k) (by omega)
    obtain ⟨g1, g2, g3⟩ := (hok x (List.mem_of_getElem? hx)).facts
    have hxT : H.Caches[k]? = some x.T := by rw [← hcs, List.getElem?_map, hx]; rfl
    rw [all_drop hxT] at hal
    have hS : hsB x.T = (decide (x.Name.size ≤ 60) && decide (x.Cores.length ≤ 40)) := rfl
    cases hb1 : decide ((x.Name.size : Int) > 60) with
    | true =>
      have h : ¬ x.Name.size ≤ 60 := by have := of_decide_eq_true hb1; omega
      repeat (first | (first | refine W_seq ?_ | refine W_block ?_ | refine W_region ?_ | refine W_skip ?_ | refine W_ret ?_ | refine W_exit ?_) | ((first | apply L_bin | apply L_notop); first | (refine lT ?_ ?_; (first | exact hb1 | exact hb2 | exact hb3 | exact hb4)) | (refine lF ?_ ?_; (first | exact hb1 | exact hb2 | exact hb3 | exact hb4))) | (first | refine L_nil ?_ | (apply L_plain; first | (apply L_go; first | refine lP ?_ | (refine lPg ?_; intro w hw)) | (apply L_mf; refine lMakeFunc ?_) | refine lY ?_) | (apply L_guarded; first | refine lGT ?_ (hct := rfl) | refine lGF ?_ (hct := rfl) | (apply L_go; first | refine lPG ?_ | (refine lPgG ?_; intro w hw)) | refine lG ?_)) | (refine lAlloc ?_; intro _ w hw) | (refine lBox ?_; intro _ w hw) | (refine lStore ?_; intro w hw))
      refine W_cond_true rfl ?_
      repeat (first | refine byW ?_ | (refine byV ?_; intro w hw))
      refine ⟨_, rfl, ret_b rfl ?_, hw.drop⟩
      rw [hal, hS, decide_eq_false h]; rfl
    | false =>
      have h : x.Name.size ≤ 60 := by have := of_decide_eq_false hb1; omega
      cases hb2 : decide ((x.N : Int) > 40) with
      | true =>
        have h2 : ¬ x.Cores.length ≤ 40 := by have := of_decide_eq_true hb2; omega
        repeat (first | (first | refine W_seq ?_ | refine W_block ?_ | refine W_region ?_ | refine W_skip ?_ | refine W_ret ?_ | refine W_exit ?_) | ((first | apply L_bin | apply L_notop); first | (refine lT ?_ ?_; (first | exact hb1 | exact hb2 | exact hb3 | exact hb4)) | (refine lF ?_ ?_; (first | exact hb1 | exact hb2 | exact hb3 | exact hb4))) | (first | refine L_nil ?_ | (apply L_plain; first | (apply L_go; first | refine lP ?_ | (refine lPg ?_; intro w hw)) | (apply L_mf; refine lMakeFunc ?_) | refine lY ?_) | (apply L_guarded; first | refine lGT ?_ (hct := rfl) | refine lGF ?_ (hct := rfl) | (apply L_go; first | refine lPG ?_ | (refine lPgG ?_; intro w hw)) | refine lG ?_)) | (refine lAlloc ?_; intro _ w hw) | (refine lBox ?_; intro _ w hw) | (refine lStore ?_; intro w hw))
        refine W_cond_true rfl ?_
        repeat (first | refine byW ?_ | (refine byV ?_; intro w hw))
        refine ⟨_, rfl, ret_b rfl ?_, hw.drop⟩
        rw [hal, hS, decide_eq_true h, decide_eq_false h2]; rfl
      | false =>
        have h2 : x.Cores.length ≤ 40 := by have := of_decide_eq_false hb2; omega
        rw [hS, decide_eq_true h, decide_eq_true h2] at hal
        repeat (first | (first | refine W_seq ?_ | refine W_block ?_ | refine W_region ?_ | refine W_skip ?_ | refine W_ret ?_ | refine W_exit ?_) | ((first | apply L_bin | apply L_notop); first | (refine lT ?_ ?_; (first | exact hb1 | exact hb2 | exact hb3 | exact hb4)) | (refine lF ?_ ?_; (first | exact hb1 | exact hb2 | exact hb3 | exact hb4))) | (first | refine L_nil ?_ | (apply L_plain; first | (apply L_go; first | refine lP ?_ | (refine lPg ?_; intro w hw)) | (apply L_mf; refine lMakeFunc ?_) | refine lY ?_) | (apply L_guarded; first | refine lGT ?_ (hct := rfl) | refine lGF ?_ (hct := rfl) | (apply L_go; first | refine lPG ?_ | (refine lPgG ?_; intro w hw)) | refine lG ?_)) | (refine lAlloc ?_; intro _ w hw) | (refine lBox ?_; intro _ w hw) | (refine lStore ?_; intro w hw))
        refine W_cond_false rfl ?_
        repeat (first | refine byW ?_ | (refine byV ?_; intro w hw))
        exact ⟨μ - 1, by omega, k + 1, by omega, ⟨rfl, rfl, trivial⟩, hal, hw⟩
  have hkn : n2 ≤ k := by have := of_decide_eq_false h; omega
  rw [all_fin (by omega)] at hal
  rw [hal, Bool.true_and]
  clear hk hρ
  repeat (first | refine byW ?_ | (refine byV ?_; intro w hw))
  refine W_loop (fun μ ρ w => ∃ (k : Nat), μ + k = n4 ∧ Has ρ [(1, .pointer (some ⟨b1, 0, none⟩)), (4, .int .i64 k)] ∧ H.Mems.all (fun x => decide (x.Name.size ≤ 60)) = (H.Mems.drop k).all (fun x => decide (x.Name.size ≤ 60)) ∧ Wd Γ (.blk b1 (hwC H a1 n1 c1 a2 n2 c2 a3 n3 c3 a4 n4 c4 a5 n5 c5) :: S) w) n4 ⟨0, by omega, ⟨rfl, rfl, trivial⟩, rfl, hw⟩ ?_
  clear hw hal
  rintro μ ρ w ⟨k, hk, hρ, hal, hw⟩
  rw [hρ.eq]
  repeat (first | refine byW ?_ | (refine byV ?_; intro w hw))
  refine W_cond rfl (fun h => ?_) (fun h => ?_)
  · have hkn : k < n4 := by have := of_decide_eq_true h; omega
    obtain ⟨x, hx⟩ := get_lt (l := H.Mems) (k := k) (by omega)
    rw [all_drop hx] at hal
    repeat (first | refine byW ?_ | (refine byV ?_; intro w hw))
    refine W_cond rfl (fun h => ?_) (fun h => ?_)
    · have h : ¬ x.Name.size ≤ 60 := by have := of_decide_eq_true h; omega
      repeat (first | refine byW ?_ | (refine byV ?_; intro w hw))
      refine ⟨_, rfl, ret_b rfl ?_, hw.drop⟩
      rw [hal, decide_eq_false h]; rfl
    · have h : x.Name.size ≤ 60 := by have := of_decide_eq_false h; omega
      rw [decide_eq_true h, Bool.true_and] at hal
      repeat (first | refine byW ?_ | (refine byV ?_; intro w hw))
      exact ⟨μ - 1, by omega, k + 1, by omega, ⟨rfl, rfl, trivial⟩, hal, hw⟩
  have hkn : n4 ≤ k := by have := of_decide_eq_false h; omega
  rw [all_fin (by omega)] at hal
  rw [hal, Bool.true_and]
  clear hk hρ
  repeat (first | refine byW ?_ | (refine byV ?_; intro w hw))
  refine W_loop (fun μ ρ w => ∃ (k : Nat), μ + k = n5 ∧ Has ρ [(1, .pointer (some ⟨b1, 0, none⟩)), (5, .int .i64 k)] ∧ H.Devs.all (fun x => decide (x.Name.size ≤ 60)) = (H.Devs.drop k).all (fun x => decide (x.Name.size ≤ 60)) ∧ Wd Γ (.blk b1 (hwC H a1 n1 c1 a2 n2 c2 a3 n3 c3 a4 n4 c4 a5 n5 c5) :: S) w) n5 ⟨0, by omega, ⟨rfl, rfl, trivial⟩, rfl, hw⟩ ?_
  clear hw hal
  rintro μ ρ w ⟨k, hk, hρ, hal, hw⟩
  rw [hρ.eq]
  repeat (first | refine byW ?_ | (refine byV ?_; intro w hw))
  refine W_cond rfl (fun h => ?_) (fun h => ?_)
  · have hkn : k < n5 := by have := of_decide_eq_true h; omega
    obtain ⟨x, hx⟩ := get_lt (l := H.Devs) (k := k) (by omega)
    rw [all_drop hx] at hal
    repeat (first | refine byW ?_ | (refine byV ?_; intro w hw))
    refine W_cond rfl (fun h => ?_) (fun h => ?_)
    · have h : ¬ x.Name.size ≤ 60 := by have := of_decide_eq_true h; omega
      repeat (first | refine byW ?_ | (refine byV ?_; intro w hw))
      refine ⟨_, rfl, ret_b rfl ?_, hw.drop⟩
      rw [hal, decide_eq_false h]; rfl
    · have h : x.Name.size ≤ 60 := by have := of_decide_eq_false h; omega
      rw [decide_eq_true h, Bool.true_and] at hal
      repeat (first | refine byW ?_ | (refine byV ?_; intro w hw))
      exact ⟨μ - 1, by omega, k + 1, by omega, ⟨rfl, rfl, trivial⟩, hal, hw⟩
  have hkn : n5 ≤ k := by have := of_decide_eq_false h; omega
  rw [all_fin (by omega)] at hal
  rw [hal]
  clear hk hρ
  repeat (first | refine byW ?_ | (refine byV ?_; intro w hw))
  exact ⟨_, rfl, rfl, hw.drop⟩⟩
end Go.Proofs.YteiijmclobggjaaGreat
end
/- Copies of descriptions. -/
section
open Go Mk
namespace Go.Proofs.YteiijmclobggjaaGreat
set_option maxHeartbeats 8000000
attribute [local irreducible] Calls
/-- The lists are not too long for a machine. -/
structure HwLen (H : HwT) : Prop where
  c : H.Cores.length ≤ 1000000
  h : H.Caches.length ≤ 1000000
  l : H.Links.length ≤ 1000000
  m : H.Mems.length ≤ 1000000
  d : H.Devs.length ≤ 1000000
  k : ∀ x ∈ H.Caches, x.Cores.length ≤ 1000000
def ownC (c : CacheH) : Res := .own (.slice c.A c.N c.C) 3 1 (intRows c.Cores)
/-- The lists of a description, owned. -/
structure HwV where
  v1 : Value
  v2 : Value
  v3 : Value
  v4 : Value
  v5 : Value
  cs : List CacheH
def HwV.L (p : HwV) (H : HwT) : List Res := .own p.v1 53 4 (H.Cores.map enc) :: .own p.v2 65 5 (p.cs.map cC) :: .own p.v3 56 3 (H.Links.map enc) :: .own p.v4 67 5 (H.Mems.map enc) :: .own p.v5 69 5 (H.Devs.map enc) :: p.cs.map ownC
/-- A description, owned. -/
def Res.hw (u : Value) (H : HwT) : Res := Res.ex (α := {p : HwV // u = .agg #[.string H.Name, p.v1, p.v2, p.v3, p.v4, p.v5] ∧ p.cs.map CacheH.T = H.Caches}) fun p => p.1.L H
theorem freezeC {w : World} {S : List Res} : ∀ {cs : List CacheH} {Γ : Gho}, Wd Γ (cs.map ownC ++ S) w → ∃ Γ', Γ.le Γ' ∧ (∀ c ∈ cs, COk Γ' c) ∧ Wd Γ' S w
  | [], Γ, hw => ⟨Γ, Gho.le.refl _, by simp, hw⟩
  | c :: cs, Γ, hw => by
    obtain ⟨Γ1, e1, r1, hw⟩ := Wd.freeze (hw : Wd Γ (.own (.slice c.A c.N c.C) 3 1 (intRows c.Cores) :: (cs.map ownC ++ S)) w)
    obtain ⟨Γ2, e2, h2, hw⟩ := freezeC (S := S) hw
    refine ⟨Γ2, e1.trans e2, fun x hx => ?_, hw⟩
    rcases List.mem_cons.1 hx with rfl | hx
    · exact RepS.mono r1 e2
    · exact h2 x hx
theorem wd_tuck {Γ : Gho} {w : World} {a : Res} {A X R : List Res} (h : Wd Γ (a :: (A ++ (X ++ R))) w) : Wd Γ (A ++ ((X ++ [a]) ++ R)) w := h.perm (by
  rw [← List.append_assoc, List.append_assoc X, ← List.append_assoc]
  exact List.perm_middle.symm)
theorem Copy_any {Γ : Gho} {S : List Res} {w : World} {u : Value} {H : HwT} [hh : HwR Γ u H] (hs : HwLen H) (hw : Wd Γ S w) :
    Calls Tryz.prog 10 #[u] w fun e w' => ∃ u', e = .returned u' ∧ Wd Γ (Res.hw u' H :: S) w' := by
  obtain ⟨a1, n1, c1, a2, n2, c2, a3, n3, c3, a4, n4, c4, a5, n5, c5, cs, rfl, hcs, hok, hsz, r1, r2, r3, r4, r5⟩ := hh.h
  obtain ⟨hn1, hm1, hx1⟩ := rep_facts r1
  obtain ⟨hn2, hm2, hx2⟩ := rep_facts r2
  obtain ⟨hn3, hm3, hx3⟩ := rep_facts r3
  obtain ⟨hn4, hm4, hx4⟩ := rep_facts r4
  obtain ⟨hn5, hm5, hx5⟩ := rep_facts r5
  simp only [List.length_map] at hn1 hn2 hn3 hn4 hn5
  have hcl : cs.length = H.Caches.length := by rw [← hcs]; simp
  obtain ⟨l1, l2, l3, l4, l5, l6⟩ := hs
  refine calls_of_WC Tryz.func10 rfl rfl ?_
  repeat (first | refine byW ?_ | (refine byV ?_; intro w hw))
  refine lBox ?_
  intro b1 w hw
  refine lAlloc ?_
  intro b2 w hw
  repeat (first | refine byW ?_ | (refine byV ?_; intro w hw))
  have hw : Wd Γ (.blk b2 (.cells hwZ.toArray 28) :: .blk b1 (hwC H a1 n1 c1 a2 n2 c2 a3 n3 c3 a4 n4 c4 a5 n5 c5) :: S) w := hw
  have hw := hw.ps [1]
  have hw : Wd Γ (.blk b1 (hwC H a1 n1 c1 a2 n2 c2 a3 n3 c3 a4 n4 c4 a5 n5 c5) :: .blk b2 (.cells hwZ.toArray 28) :: S) w := hw
  repeat (first | refine byW ?_ | (refine byV ?_; intro w hw))
  refine lAlloc ?_
  intro b3 w hw
  refine lStore ?_
  intro w hw
  have hw : Wd Γ (.own (.slice none 0 0) 53 4 [] :: .blk b3 (hwC H a1 n1 c1 a2 n2 c2 a3 n3 c3 a4 n4 c4 a5 n5 c5) :: .blk b1 (hwC H a1 n1 c1 a2 n2 c2 a3 n3 c3 a4 n4 c4 a5 n5 c5) :: .blk b2 (.cells hwZ.toArray 28) :: S) w := Wd.addNil hw
  repeat (first | refine byW ?_ | (refine byV ?_; intro w hw))
  refine lApp (i := 0) (rows2 := H.Cores.map enc) ?_ (r1.rd hw) (h1 := encs_one _) (hm := by simp; omega)
  intro v1 w hw
  obtain ⟨A1, N1, C1, rfl, -, -, -⟩ := hw.own_shape (i := 0) rfl
  have hw : Wd Γ (.own (.slice A1 N1 C1) 53 4 (H.Cores.map enc) :: .blk b3 (hwC H a1 n1 c1 a2 n2 c2 a3 n3 c3 a4 n4 c4 a5 n5 c5) :: .blk b1 (hwC H a1 n1 c1 a2 n2 c2 a3 n3 c3 a4 n4 c4 a5 n5 c5) :: .blk b2 (.cells hwZ.toArray 28) :: S) w := hw
  repeat (first | refine byW ?_ | (refine byV ?_; intro w hw))
  refine lStore (i := 1) ?_
  intro w hw
  have hw : Wd Γ (.own (.slice none 0 0) 56 3 [] :: .own (.slice A1 N1 C1) 53 4 (H.Cores.map enc) :: .blk b3 (hwC H A1 N1 C1 a2 n2 c2 a3 n3 c3 a4 n4 c4 a5 n5 c5) :: .blk b1 (hwC H a1 n1 c1 a2 n2 c2 a3 n3 c3 a4 n4 c4 a5 n5 c5) :: .blk b2 (.cells hwZ.toArray 28) :: S) w := Wd.addNil hw
  repeat (first | refine byW ?_ | (refine byV ?_; intro w hw))
  refine lApp (i := 0) (rows2 := H.Links.map enc) ?_ (r3.rd hw) (h1 := encs_one _) (hm := by simp; omega)
  intro v3 w hw
  obtain ⟨A3, N3, C3, rfl, -, -, -⟩ := hw.own_shape (i := 0) rfl
  have hw : Wd Γ (.own (.slice A3 N3 C3) 56 3 (H.Links.map enc) :: .own (.slice A1 N1 C1) 53 4 (H.Cores.map enc) :: .blk b3 (hwC H A1 N1 C1 a2 n2 c2 a3 n3 c3 a4 n4 c4 a5 n5 c5) :: .blk b1 (hwC H a1 n1 c1 a2 n2 c2 a3 n3 c3 a4 n4 c4 a5 n5 c5) :: .blk b2 (.cells hwZ.toArray 28) :: S) w := hw
  repeat (first | refine byW ?_ | (refine byV ?_; intro w hw))
  refine lStore (i := 2) ?_
  intro w hw
  have hw : Wd Γ (.own (.slice none 0 0) 67 5 [] :: .own (.slice A3 N3 C3) 56 3 (H.Links.map enc) :: .own (.slice A1 N1 C1) 53 4 (H.Cores.map enc) :: .blk b3 (hwC H A1 N1 C1 a2 n2 c2 A3 N3 C3 a4 n4 c4 a5 n5 c5) :: .blk b1 (hwC H a1 n1 c1 a2 n2 c2 a3 n3 c3 a4 n4 c4 a5 n5 c5) :: .blk b2 (.cells hwZ.toArray 28) :: S) w := Wd.addNil hw
  repeat (first | refine byW ?_ | (refine byV ?_; intro w hw))
  refine lApp (i := 0) (rows2 := H.Mems.map enc) ?_ (r4.rd hw) (h1 := encs_one _) (hm := by simp; omega)
  intro v4 w hw
  obtain ⟨A4, N4, C4, rfl, -, -, -⟩ := hw.own_shape (i := 0) rfl
  have hw : Wd Γ (.own (.slice A4 N4 C4) 67 5 (H.Mems.map enc) :: .own (.slice A3 N3 C3) 56 3 (H.Links.map enc) :: .own (.slice A1 N1 C1) 53 4 (H.Cores.map enc) :: .blk b3 (hwC H A1 N1 C1 a2 n2 c2 A3 N3 C3 a4 n4 c4 a5 n5 c5) :: .blk b1 (hwC H a1 n1 c1 a2 n2 c2 a3 n3 c3 a4 n4 c4 a5 n5 c5) :: .blk b2 (.cells hwZ.toArray 28) :: S) w := hw
  repeat (first | refine byW ?_ | (refine byV ?_; intro w hw))
  refine lStore (i := 3) ?_
  intro w hw
  have hw : Wd Γ (.own (.slice none 0 0) 69 5 [] :: .own (.slice A4 N4 C4) 67 5 (H.Mems.map enc) :: .own (.slice A3 N3 C3) 56 3 (H.Links.map enc) :: .own (.slice A1 N1 C1) 53 4 (H.Cores.map enc) :: .blk b3 (hwC H A1 N1 C1 a2 n2 c2 A3 N3 C3 A4 N4 C4 a5 n5 c5) :: .blk b1 (hwC H a1 n1 c1 a2 n2 c2 a3 n3 c3 a4 n4 c4 a5 n5 c5) :: .blk b2 (.cells hwZ.toArray 28) :: S) w := Wd.addNil hw
  repeat (first | refine byW ?_ | (refine byV ?_; intro w hw))
  refine lApp (i := 0) (rows2 := H.Devs.map enc) ?_ (r5.rd hw) (h1 := encs_one _) (hm := by simp; omega)
  intro v5 w hw
  obtain ⟨A5, N5, C5, rfl, -, -, -⟩ := hw.own_shape (i := 0) rfl
  have hw : Wd Γ (.own (.slice A5 N5 C5) 69 5 (H.Devs.map enc) :: .own (.slice A4 N4 C4) 67 5 (H.Mems.map enc) :: .own (.slice A3 N3 C3) 56 3 (H.Links.map enc) :: .own (.slice A1 N1 C1) 53 4 (H.Cores.map enc) :: .blk b3 (hwC H A1 N1 C1 a2 n2 c2 A3 N3 C3 A4 N4 C4 a5 n5 c5) :: .blk b1 (hwC H a1 n1 c1 a2 n2 c2 a3 n3 c3 a4 n4 c4 a5 n5 c5) :: .blk b2 (.cells hwZ.toArray 28) :: S) w := hw
  repeat (first | refine byW ?_ | (refine byV ?_; intro w hw))
  refine lStore (i := 4) ?_
  intro w hw
  repeat (first | refine byW ?_ | (refine byV ?_; intro w hw))
  refine lStore (i := 4) ?_
  intro w hw
  have hw : Wd Γ (.own (.slice A5 N5 C5) 69 5 (H.Devs.map enc) :: .own (.slice A4 N4 C4) 67 5 (H.Mems.map enc) :: .own (.slice A3 N3 C3) 56 3 (H.Links.map enc) :: .own (.slice A1 N1 C1) 53 4 (H.Cores.map enc) :: .blk b3 (hwC H A1 N1 C1 none 0 0 A3 N3 C3 A4 N4 C4 A5 N5 C5) :: .blk b1 (hwC H a1 n1 c1 a2 n2 c2 a3 n3 c3 a4 n4 c4 a5 n5 c5) :: .blk b2 (.cells hwZ.toArray 28) :: S) w := hw
  obtain ⟨R, hR⟩ : ∃ R : List Res, R = .own (.slice A1 N1 C1) 53 4 (H.Cores.map enc) :: .own (.slice A3 N3 C3) 56 3 (H.Links.map enc) :: .own (.slice A4 N4 C4) 67 5 (H.Mems.map enc) :: .own (.slice A5 N5 C5) 69 5 (H.Devs.map enc) :: S := ⟨_, rfl⟩
  have hw : Wd Γ (.own (.slice none 0 0) 65 5 ((([] : List CacheH)).map cC) :: .blk b1 (hwC H a1 n1 c1 a2 n2 c2 a3 n3 c3 a4 n4 c4 a5 n5 c5) :: .blk b2 (.cells hwZ.toArray 28) :: .blk b3 (hwC H A1 N1 C1 none 0 0 A3 N3 C3 A4 N4 C4 A5 N5 C5) :: R) w := by
    rw [hR]; exact Wd.addNil (hw.ps [1, 2, 3, 4, 6, 6])
  repeat (first | refine byW ?_ | (refine byV ?_; intro w hw))
  have hw : Wd Γ (.own (.slice none 0 0) 65 5 (([] : List CacheH).map cC) :: .blk b1 (hwC H a1 n1 c1 a2 n2 c2 a3 n3 c3 a4 n4 c4 a5 n5 c5) :: .blk b2 (.cells hwZ.toArray 28) :: .blk b3 (hwC H A1 N1 C1 none 0 0 A3 N3 C3 A4 N4 C4 A5 N5 C5) :: (([] : List CacheH).map ownC ++ R)) w := hw
  refine W_loop (fun μ ρ w => ∃ (k : Nat) (q : Option Addr) (m d : Nat) (xs : List CacheH), μ + k = n2 ∧ xs.map CacheH.T = (cs.take k).map CacheH.T ∧ Has ρ [(1, .pointer (some ⟨b1, 0, none⟩)), (2, .pointer (some ⟨b2, 0, none⟩)), (3, .pointer (some ⟨b3, 0, none⟩)), (4, .int .i64 k)] ∧ Wd Γ (.own (.slice q m d) 65 5 (xs.map cC) :: .blk b1 (hwC H a1 n1 c1 a2 n2 c2 a3 n3 c3 a4 n4 c4 a5 n5 c5) :: .blk b2 (.cells hwZ.toArray 28) :: .blk b3 (hwC H A1 N1 C1 q m d A3 N3 C3 A4 N4 C4 A5 N5 C5) :: (xs.map ownC ++ R)) w) n2 ⟨0, none, 0, 0, [], by omega, rfl, ⟨rfl, rfl, rfl, rfl, trivial⟩, hw⟩ ?_
  clear hw
  rintro μ ρ w ⟨k, q, m, d, xs, hk, hxs, hρ, hw⟩
  have hm := own_len (i := 0) hw rfl
  have hxl : xs.length = k := by have := congrArg List.length hxs; simp at this; omega
  simp only [List.length_map] at hm
  rw [hρ.eq]
  repeat (first | refine byW ?_ | (refine byV ?_; intro w hw))
  refine W_cond rfl (fun h => ?_) (fun h => ?_)
  · have hkn : k < n2 := by have := of_decide_eq_true h; omega
    obtain ⟨x, hx⟩ := get_lt (l := cs) (k := k) (by omega)
    have hcx := hok x (List.mem_of_getElem? hx)
    obtain ⟨hxn, hxm, hxc⟩ := hcx.facts
    unfold COk at hcx
    have hx6 := l6 x.T (by rw [← hcs]; exact List.mem_map.2 ⟨x, List.mem_of_getElem? hx, rfl⟩)
    have hx6 : x.Cores.length ≤ 1000000 := hx6
    repeat (first | refine byW ?_ | (refine byV ?_; intro w hw))
    refine lAlloc ?_
    intro b5 w hw
    refine lStore ?_
    intro w hw
    have hw : Wd Γ (.blk b5 (.cells (cC x).toArray 65) :: .own (.slice q m d) 65 5 (xs.map cC) :: .blk b1 (hwC H a1 n1 c1 a2 n2 c2 a3 n3 c3 a4 n4 c4 a5 n5 c5) :: .blk b2 (.cells hwZ.toArray 28) :: .blk b3 (hwC H A1 N1 C1 q m d A3 N3 C3 A4 N4 C4 A5 N5 C5) :: (xs.map ownC ++ R)) w := hw
    repeat (first | refine byW ?_ | (refine byV ?_; intro w hw))
    have hw : Wd Γ (.own (.slice none 0 0) 3 1 [] :: .blk b5 (.cells (cC x).toArray 65) :: .own (.slice q m d) 65 5 (xs.map cC) :: .blk b1 (hwC H a1 n1 c1 a2 n2 c2 a3 n3 c3 a4 n4 c4 a5 n5 c5) :: .blk b2 (.cells hwZ.toArray 28) :: .blk b3 (hwC H A1 N1 C1 q m d A3 N3 C3 A4 N4 C4 A5 N5 C5) :: (xs.map ownC ++ R)) w := Wd.addNil hw
    refine lApp (i := 0) (rows2 := intRows x.Cores) ?_ (hcx.rd hw) (h1 := ints_one _) (hm := by simp [intRows]; omega)
    intro v9 w hw
    obtain ⟨Q, M, D, rfl, -, -, -⟩ := hw.own_shape (i := 0) rfl
    obtain ⟨y, hy⟩ : ∃ y : CacheH, y = ⟨x.Name, x.Level, x.Line, x.Size, Q, M, D, x.Cores⟩ := ⟨_, rfl⟩
    have hyT : y.T = x.T := by rw [hy]; rfl
    have hw : Wd Γ (ownC y :: .blk b5 (.cells (cC x).toArray 65) :: .own (.slice q m d) 65 5 (xs.map cC) :: .blk b1 (hwC H a1 n1 c1 a2 n2 c2 a3 n3 c3 a4 n4 c4 a5 n5 c5) :: .blk b2 (.cells hwZ.toArray 28) :: .blk b3 (hwC H A1 N1 C1 q m d A3 N3 C3 A4 N4 C4 A5 N5 C5) :: (xs.map ownC ++ R)) w := by rw [hy]; exact hw
    repeat (first | refine byW ?_ | (refine byV ?_; intro w hw))
    refine lStore (i := 1) ?_
    intro w hw
    have hw : Wd Γ (ownC y :: .blk b5 (.cells (cC y).toArray 65) :: .own (.slice q m d) 65 5 (xs.map cC) :: .blk b1 (hwC H a1 n1 c1 a2 n2 c2 a3 n3 c3 a4 n4 c4 a5 n5 c5) :: .blk b2 (.cells hwZ.toArray 28) :: .blk b3 (hwC H A1 N1 C1 q m d A3 N3 C3 A4 N4 C4 A5 N5 C5) :: (xs.map ownC ++ R)) w := by rw [hy] at hw ⊢; exact hw
    repeat (first | refine byW ?_ | (refine byV ?_; intro w hw))
    refine lBuildSlice [cC y] ?_
    intro ab w hw
    refine lApp (i := 3) (rows2 := [cC y]) ?_ (Wd.own_rd (i := 0) hw rfl)
    intro v' w hw
    obtain ⟨q', m', d', rfl, -, -, -⟩ := hw.own_shape (i := 3) rfl
    repeat (first | refine byW ?_ | (refine byV ?_; intro w hw))
    have hw := (hw.drop).dropAt 1
    have hw : Wd Γ (ownC y :: .own (.slice q' m' d') 65 5 (xs.map cC ++ [cC y]) :: .blk b1 (hwC H a1 n1 c1 a2 n2 c2 a3 n3 c3 a4 n4 c4 a5 n5 c5) :: .blk b2 (.cells hwZ.toArray 28) :: .blk b3 (hwC H A1 N1 C1 q m d A3 N3 C3 A4 N4 C4 A5 N5 C5) :: (xs.map ownC ++ R)) w := hw
    refine lStore (i := 4) ?_
    intro w hw
    have hw : Wd Γ (.own (.slice q' m' d') 65 5 ((xs ++ [y]).map cC) :: .blk b1 (hwC H a1 n1 c1 a2 n2 c2 a3 n3 c3 a4 n4 c4 a5 n5 c5) :: .blk b2 (.cells hwZ.toArray 28) :: .blk b3 (hwC H A1 N1 C1 q' m' d' A3 N3 C3 A4 N4 C4 A5 N5 C5) :: ((xs ++ [y]).map ownC ++ R)) w := by
      rw [List.map_append, List.map_append]
      exact wd_tuck (A := [.own (.slice q' m' d') 65 5 (xs.map cC ++ [cC y]), .blk b1 _, .blk b2 _, .blk b3 _]) hw
    repeat (first | refine byW ?_ | (refine byV ?_; intro w hw))
    refine ⟨μ - 1, by omega, k + 1, _, _, _, _, by omega, ?_, ⟨rfl, rfl, rfl, rfl, trivial⟩, hw⟩
    rw [List.map_append, hxs, take_succ_of hx, List.map_append]; simp [hyT]
  · have hkn : ¬ k < n2 := by have := of_decide_eq_false h; omega
    rw [List.take_of_length_le (by omega), hcs] at hxs
    repeat (first | refine byW ?_ | (refine byV ?_; intro w hw))
    refine lStore (i := 2) ?_
    intro w hw
    have hw : Wd Γ (.own (.slice q m d) 65 5 (xs.map cC) :: .blk b1 (hwC H a1 n1 c1 a2 n2 c2 a3 n3 c3 a4 n4 c4 a5 n5 c5) :: .blk b2 (hwC H A1 N1 C1 q m d A3 N3 C3 A4 N4 C4 A5 N5 C5) :: .blk b3 (hwC H A1 N1 C1 q m d A3 N3 C3 A4 N4 C4 A5 N5 C5) :: (xs.map ownC ++ R)) w := hw
    repeat (first | refine byW ?_ | (refine byV ?_; intro w hw))
    refine ⟨[.agg #[.string H.Name, .slice A1 N1 C1, .slice q m d, .slice A3 N3 C3, .slice A4 N4 C4, .slice A5 N5 C5]], ⟨resC (i := 2) hw rfl rfl rfl, trivial⟩, _, rfl, ?_⟩
    have hw := hw.ds [1, 1, 1]
    rw [hR] at hw
    refine Wd.closeEx (X := fun p : {p : HwV // Value.agg #[.string H.Name, .slice A1 N1 C1, .slice q m d, .slice A3 N3 C3, .slice A4 N4 C4, .slice A5 N5 C5] = .agg #[.string H.Name, p.v1, p.v2, p.v3, p.v4, p.v5] ∧ p.cs.map CacheH.T = H.Caches} => p.1.L H) ⟨⟨.slice A1 N1 C1, .slice q m d, .slice A3 N3 C3, .slice A4 N4 C4, .slice A5 N5 C5, xs⟩, rfl, hxs⟩ ?_
    have hw : Wd Γ ((.own (.slice q m d) 65 5 (xs.map cC) :: xs.map ownC) ++ ([.own (.slice A1 N1 C1) 53 4 (H.Cores.map enc), .own (.slice A3 N3 C3) 56 3 (H.Links.map enc), .own (.slice A4 N4 C4) 67 5 (H.Mems.map enc), .own (.slice A5 N5 C5) 69 5 (H.Devs.map enc)] ++ S)) w := hw
    exact hw.swapApp.ps [4, 1]
end Go.Proofs.YteiijmclobggjaaGreat
end
/- RouteTrees, walked (printed by gen_j12.py). -/
section
open Go Mk
namespace Go.Proofs.YteiijmclobggjaaGreat
set_option maxHeartbeats 64000000
attribute [local irreducible] Calls
/-- The check on a quiet region's text, with ancestors held as bits. -/
def checkRB (ops : List Oper) (muts prods : List Nat) : Bool :=
  let A := masks [] ops
  (List.range ops.length).all fun j => match ops[j]? with
    | none => true
    | some oj => (oj.after.toList.all fun e => !Region.binds .any e || Nat.blt e.on j) && checkR.okNoSel oj && (match oj.guard with | some (g, _) => ((ops[g]?).bind (·.dst)).isSome | none => true) &&
      ((List.range j).all fun i => match ops[i]? with
        | none => true
        | some oi => ((apartR ops oi oj && !(muts.contains i && muts.contains j)) || (A.getD j 0).testBit i) && (oi.dst.isNone || !(oi.dst == oj.dst) || !prods.contains i))
theorem checkR_B {ops : List Oper} {muts prods : List Nat} (h : checkRB ops muts prods = true) : checkR ops muts prods = true := by
  have hA := masks_spec ops [] [] rfl (fun j i hi => by simp at hi)
  unfold checkRB at h
  unfold checkR
  rw [List.all_eq_true] at h ⊢
  intro j hj
  have h1 := h j hj
  cases ho : ops[j]? with
  | none => rfl
  | some oj =>
    simp only [ho, Bool.and_eq_true] at h1 ⊢
    refine ⟨h1.1, ?_⟩
    rw [List.all_eq_true]
    intro i hi
    have h2 := (List.all_eq_true.1 h1.2) i hi
    cases ho2 : ops[i]? with
    | none => rfl
    | some oi =>
      simp only [ho2, Bool.and_eq_true, Bool.or_eq_true] at h2 ⊢
      refine ⟨h2.1.imp id fun q => ?_, h2.2⟩
      rw [List.contains_iff_mem]
      exact hA j i q
theorem quiet_B {n : Nat} {l : List Oper} (h : (checkRB l [] [] && l.all fun o => okDst n o.dst) = true) : quietOK n l = true := by
  unfold quietOK
  rw [Bool.and_eq_true] at h ⊢
  exact ⟨checkR_B h.1, h.2⟩
theorem gv_true {v : Value} : gv true v = v := by unfold gv; rfl
section
variable {P : Program} {n : Nat} {ops : List Oper} {Γ : Gho} {S : List Res} {Q : Fr → World → Prop} {ρ : Fr} {rest : List Oper} {j dj : Nat} {want : Bool} {d : Option Tmp} {op : Op} {ty : TypeId} {pos : String} {es : Array Edge} {v : Value}
/-- A guard that says yes. -/
theorem qGv (h : Qw P n ops Γ S Q rest (putO ρ d v)) (hj : (ops[j]?).bind (·.dst) = some dj := by exact rfl) (hc : GuardIs (ρ dj) want true := by exact byGC) (hsel : noSel ⟨d, op, ty, pos, es, some (j, want)⟩ = true := by exact rfl) (hy : ∀ w, Wd Γ S w → Mk.Yields P ⟨d, op, ty, pos, es, some (j, want)⟩ ρ w v := by (intro w hw; exact byPU)) :
    Qw P n ops Γ S Q (⟨d, op, ty, pos, es, some (j, want)⟩ :: rest) ρ := Q_gy rfl hj hc hsel (fun _ => hy) (by rw [gv_true]; exact h)
theorem qGb {b : Bool} (hb : b = true) (h : Qw P n ops Γ S Q rest (putO ρ d (.bool true))) (hj : (ops[j]?).bind (·.dst) = some dj := by exact rfl) (hc : GuardIs (ρ dj) want true := by exact byGC) (hsel : noSel ⟨d, op, ty, pos, es, some (j, want)⟩ = true := by exact rfl) (hy : ∀ w, Wd Γ S w → Mk.Yields P ⟨d, op, ty, pos, es, some (j, want)⟩ ρ w (.bool b) := by (intro w hw; exact byPU)) :
    Qw P n ops Γ S Q (⟨d, op, ty, pos, es, some (j, want)⟩ :: rest) ρ := qGv h hj hc hsel (fun w hw => by have := hy w hw; rw [hb] at this; exact this)
theorem qGp {f : Nat} {args : List Operand} {tys : Array TypeId} {vs : List Value} [FnOk P f] (h : Qw P n ops Γ S Q rest (putO ρ d v)) (hj : (ops[j]?).bind (·.dst) = some dj := by exact rfl) (hc : GuardIs (ρ dj) want true := by exact byGC) (ha : EvL ρ args vs := by exact byEV) (hp : PG P Γ f vs v := by infer_instance) :
    Qw P n ops Γ S Q (⟨d, .call { callee := .value (.func f), args := args.toArray, argTypes := tys }, ty, pos, es, some (j, want)⟩ :: rest) ρ := Q_gc rfl hj hc rfl (fun _ _ _ hw => s_pg hp ha hw) (by rw [gv_true]; exact h)
end
theorem hw_freeze {Γ : Gho} {S : List Res} {w : World} {H : HwT} {u : Value} (hsz : HwSz H) (hw : Wd Γ (Res.hw u H :: S) w) : ∃ Γ', Γ.le Γ' ∧ HwR Γ' u H ∧ Wd Γ' S w := by
  unfold Res.hw at hw
  obtain ⟨⟨p, hu', hcs'⟩, hw⟩ := hw.openEx
  obtain ⟨v1, v2, v3, v4, v5, cs'⟩ := p
  have hu' : u = .agg #[.string H.Name, v1, v2, v3, v4, v5] := hu'
  have hcs' : cs'.map CacheH.T = H.Caches := hcs'
  have hw : Wd Γ (cs'.map ownC ++ (.own v1 53 4 (H.Cores.map enc) :: .own v2 65 5 (cs'.map cC) :: .own v3 56 3 (H.Links.map enc) :: .own v4 67 5 (H.Mems.map enc) :: .own v5 69 5 (H.Devs.map enc) :: S)) w := hw.perm (by
    show ((.own v1 53 4 (H.Cores.map enc) :: .own v2 65 5 (cs'.map cC) :: .own v3 56 3 (H.Links.map enc) :: .own v4 67 5 (H.Mems.map enc) :: .own v5 69 5 (H.Devs.map enc) :: cs'.map ownC) ++ S).Perm _
    exact byPM)
  obtain ⟨Γ3, hle3, hok', hw⟩ := freezeC hw
  have ho : HwOut Γ3 H S u w := ⟨v1, v2, v3, v4, v5, cs', hcs', hok', hu', hw⟩
  obtain ⟨Γ4, hle4, hR, hw⟩ := ho.freeze hsz
  exact ⟨Γ4, hle3.trans hle4, hR, hw⟩
/-- Plan of a list that is owned. -/
theorem plan_own {Γ : Gho} {u v : Value} {H : HwT} [hhw : HwR Γ u H] {ms : List Int} [hsh : ShortL ms] (r cost : Int) {S : List Res} {w : World} (hw : Wd Γ (.own v 3 1 (intRows ms) :: S) w) :
    Calls Tryz.prog 11 #[u, .int .i64 r, v, .int .i64 cost] w fun e w' => ∃ vo, e = .returned (.tuple #[.agg #[.int .i64 (planS H r ms cost).1, vo], .int .i64 (planErr H r ms cost)]) ∧ Wd Γ (.own vo 60 2 ((planS H r ms cost).2.map plV) :: S) w' := by
  obtain ⟨Γ1, hle, hr, hw1⟩ := hw.freeze
  have hR1 := (hhw.mono hle).mono (hpG_le hw1)
  have hr1 : SlC (hpG Γ1 w) v 1 (intRows ms) := ⟨hr.mono (hpG_le hw1)⟩
  refine (plan_any (hhw := hR1) (hr := hr1) r cost (hpG_wd hw1)).mono ?_
  rintro e w' ⟨vo, he, hw'⟩
  have h2 : (hpG Γ w).le (hpG Γ1 w) := ⟨fun _ _ h => h, hle.os, hle.tape, hle.out, hle.dr⟩
  exact ⟨vo, he, wd_keptG (R := [_]) hw.drop h2 own_noimm hw'⟩
theorem hwSm_sz {H : HwT} (h : HwSm H) : HwSz H := by
  refine ⟨?_, fun c hc => ?_, fun c hc => ?_, fun c hc => ?_⟩
  · have := h.n; unfold maxS; omega
  · have := (h.hs c hc).1; unfold maxS; omega
  · have := h.ms c hc; unfold maxS; omega
  · have := h.ds c hc; unfold maxS; omega
theorem hwSm_len {H : HwT} (h : HwSm H) : HwLen H := by
  refine ⟨?_, ?_, ?_, ?_, ?_, fun c hc => ?_⟩
  · have := h.c; omega
  · have := h.h; omega
  · have := h.l; omega
  · have := h.m; omega
  · have := h.d; omega
  · have := (h.hs c hc).2; omega
theorem RouteTrees_any {Γ : Gho} {S : List Res} {w : World} {u : Value} {H : HwT} [hq : HwQ Γ u H] (hmw : MemWide H) {am : Option Addr} {nm cm : Nat} {ms : List Int} (hm : RepS Γ (.slice am nm cm) 1 (intRows ms)) {x root cost : Int} {s : Value} {es : List Pl} (ht : RepS Γ s 2 (es.map plV)) (hw : Wd Γ S w) :
    Calls Tryz.prog 3 #[u, .int .i64 root, .slice am nm cm, .int .i64 cost, .agg #[.int .i64 x, s]] w fun e w' => ∃ Γ', Γ.le Γ' ∧ e = .returned (.bool true) ∧ Wd Γ' S w' := by
  have hq' := hq
  obtain ⟨a1, n1, c1, a2, n2, c2, a3, n3, c3, a4, n4, c4, a5, n5, c5, cs, rfl, hcs, hok, rr⟩ := hq.h
  obtain ⟨hnm, hnmc, hcm⟩ := rep_facts hm
  simp only [intRows, List.length_map] at hnm
  obtain ⟨at', nt, ct, rfl, hnt, hntc, hct⟩ := ht.shape
  simp only [List.length_map] at hnt
  refine calls_of_W Tryz.func3 rfl rfl ?_
  repeat (first | refine byW ?_ | (refine byV ?_; intro w hw))
  refine lBox ?_
  intro b5 w hw
  refine lBox ?_
  intro b9 w hw
  have hw : Wd Γ (.blk b9 (.cells #[.int .i64 x, .slice at' nt ct] 32) :: .blk b5 (hwC H a1 n1 c1 a2 n2 c2 a3 n3 c3 a4 n4 c4 a5 n5 c5) :: S) w := hw
  repeat (first | refine byW ?_ | (refine byV ?_; intro w hw))
  refine W_cond rfl (fun h => ?_) (fun h => ?_)
  · repeat (first | refine byW ?_ | (refine byV ?_; intro w hw))
    exact ⟨_, rfl, Γ, .refl _, rfl, hw.ds [0, 0]⟩
  have h : ((!smallHB H || decide ((nm : Int) > 40)) || decide ((nt : Int) > 40)) = false := h
  have hsm : HwSm H := by
    rw [← smallHB_iff]
    cases hb : smallHB H with
    | true => rfl
    | false => rw [hb] at h; simp at h
  have hnm40 : nm ≤ 40 := by simp at h; omega
  have hnt40 : nt ≤ 40 := by simp at h; omega
  clear h
  haveI hR : HwR Γ (.agg #[.string H.Name, .slice a1 n1 c1, .slice a2 n2 c2, .slice a3 n3 c3, .slice a4 n4 c4, .slice a5 n5 c5]) H := ⟨a1, n1, c1, a2, n2, c2, a3, n3, c3, a4, n4, c4, a5, n5, c5, cs, rfl, hcs, hok, hwSm_sz hsm, rr⟩
  haveI hwd : WideH H := ⟨hmw⟩
  repeat (first | refine byW ?_ | (refine byV ?_; intro w hw))
  refine lCall ((Copy_any (hwSm_len hsm) hw).mono fun e w hq => ?_)
  clear hw
  obtain ⟨u', rfl, hw⟩ := hq
  refine ⟨_, rfl, ?_⟩
  have hBW := hw
  clear hw
  obtain ⟨Γ1, hle1, hR1, hw⟩ := hw_freeze (hwSm_sz hsm) hBW
  clear hBW
  have hR1' := hR1
  obtain ⟨A1, N1, C1, A2, N2, C2, A3, N3, C3, A4, N4, C4, A5, N5, C5, cs', rfl, -⟩ := hR1.h
  repeat (first | refine byW ?_ | (refine byV ?_; intro w hw))
  refine lAlloc ?_
  intro b11 w hw
  refine lStore ?_
  intro w hw
  have hw : Wd Γ1 (.blk b11 (hwC H A1 N1 C1 A2 N2 C2 A3 N3 C3 A4 N4 C4 A5 N5 C5) :: .blk b9 (.cells #[.int .i64 x, .slice at' nt ct] 32) :: .blk b5 (hwC H a1 n1 c1 a2 n2 c2 a3 n3 c3 a4 n4 c4 a5 n5 c5) :: S) w := hw
  haveI s2 : ShortL ms := ⟨by omega⟩
  haveI s3 : ShortL es := ⟨by omega⟩
  have hm1 := hm.mono hle1
  obtain ⟨pR, hpR⟩ : ∃ z, z = (planS H root ms cost).1 := ⟨_, rfl⟩
  obtain ⟨pE, hpE⟩ : ∃ z, z = (planS H root ms cost).2 := ⟨_, rfl⟩
  obtain ⟨pX, hpX⟩ : ∃ z, z = planErr H root ms cost := ⟨_, rfl⟩
  have hpl : pE.length ≤ 1000 ∨ True := .inr trivial
  have hcallP : ∀ {v : Value} {S : List Res} {w : World}, Wd Γ1 (.own v 3 1 (intRows ms) :: S) w → Calls Tryz.prog 11 #[.agg #[.string H.Name, .slice A1 N1 C1, .slice A2 N2 C2, .slice A3 N3 C3, .slice A4 N4 C4, .slice A5 N5 C5], .int .i64 root, v, .int .i64 cost] w fun e w' => ∃ vo, e = .returned (.tuple #[.agg #[.int .i64 pR, vo], .int .i64 pX]) ∧ Wd Γ1 (.own vo 60 2 (pE.map plV) :: S) w' := fun {v S w} hw => by
    rw [hpR, hpE, hpX]; exact plan_own (hhw := hR1') root cost hw
  repeat (first | refine byW ?_ | (refine byV ?_; intro w hw))
  refine W_mixed [.blk b11 (hwC H A1 N1 C1 A2 N2 C2 A3 N3 C3 A4 N4 C4 A5 N5 C5), .blk b9 (.cells #[.int .i64 x, .slice at' nt ct] 32), .blk b5 (hwC H a1 n1 c1 a2 n2 c2 a3 n3 c3 a4 n4 c4 a5 n5 c5)] [fun _ => [], fun _ => [], fun _ => [], fun _ => S] [[],[],[],[0],[],[0],[0,2],[0],[],[1],[0,1],[]] [[],[],[],[0],[],[0],[0,2],[0],[2],[1],[0,1],[]] [[45, 47, 41, 48], [12], [41], []] (by
    show Wd Γ1 ([.blk b11 (hwC H A1 N1 C1 A2 N2 C2 A3 N3 C3 A4 N4 C4 A5 N5 C5), .blk b9 (.cells #[.int .i64 x, .slice at' nt ct] 32), .blk b5 (hwC H a1 n1 c1 a2 n2 c2 a3 n3 c3 a4 n4 c4 a5 n5 c5)] ++ ([] ++ ([] ++ ([] ++ (S ++ []))))) w
    rw [List.append_nil]; exact hw) ?_
  repeat (first | refine mY ?_ | refine mP ?_ | refine mPg ?_)
  refine mS (c := 0) (v := undef) (F := fun _ => []) (exC (T := Value) (fun t g => g 45 = t) fun t => [.own t 3 1 (intRows ms)]) (fun g w Y hw => ?_) ?_ (hM := rfl)
  · refine s_append (i := 0) (rows := []) (rows2 := intRows ms) (Wd.addNil hw) rfl rfl rfl (RepS.rd hm1 hw) (by simp [intRows]; exact hnm) (List.all_eq_true.1 (ints1 _)) (by omega) (by omega) fun v' w' hw' => ⟨(fun h => by cases h), exC_mk (T := Value) v' rfl hw'⟩
  repeat (first | refine mY ?_ | refine mP ?_ | refine mPg ?_)
  refine mCallG (c := 0) (F := exC (T := Value) (fun t g => g 45 = t) fun t => [.own t 3 1 (intRows ms)]) (exC (T := Value) (fun t g => g 47 = .tuple #[.agg #[.int .i64 pR, t], .int .i64 pX]) fun t => [.own t 60 2 (pE.map plV)]) (fun g => [.agg #[.string H.Name, .slice A1 N1 C1, .slice A2 N2 C2, .slice A3 N3 C3, .slice A4 N4 C4, .slice A5 N5 C5], .int .i64 root, g 45, .int .i64 cost]) (fun g w Y hw => ?_) ?_ (hM := setC_self)
  · obtain ⟨t, ht, hw⟩ := exC_open hw
    have ht : g 45 = t := ht
    subst ht
    refine (hcallP hw).mono fun e w' hq => ?_
    obtain ⟨v, rfl, hw⟩ := hq
    exact ⟨_, rfl, exC_mk (T := Value) v rfl hw⟩
  refine mS2 (c := 0) (c2 := 2) (v := undef) (F := exC (T := Value) (fun t g => g 47 = .tuple #[.agg #[.int .i64 pR, t], .int .i64 pX]) fun t => [.own t 60 2 (pE.map plV)]) (G := fun _ => []) (exC (T := Value) (fun t g => g 41 = .tuple #[.agg #[.int .i64 pR, t], .int .i64 pX]) fun t => [.own t 60 2 (pE.map plV)]) (fun g => [Res.pure (∃ v, g 41 = .tuple #[v, .int .i64 pX])]) (fun g w Y hw => ?_) ?_ (hM := setC_self) (hM2 := (setC_other (by decide)).trans ((setC_other (by decide)).trans rfl))
  · obtain ⟨t, ht, hw⟩ := exC_open hw
    have h5 : g 47 = .tuple #[.agg #[.int .i64 pR, t], .int .i64 pX] := ht
    refine Yields.step (v := .tuple #[.agg #[.int .i64 pR, t], .int .i64 pX]) (y_move h5) ⟨(fun h => by cases h), exC_mk (T := Value) t rfl ?_⟩
    exact (Wd.pureIn (p := ∃ v, (Value.tuple #[.agg #[.int .i64 pR, t], .int .i64 pX]) = .tuple #[v, .int .i64 pX]) ⟨_, rfl⟩ hw).perm (.swap _ _ _)
  refine mS (c := 0) (v := undef) (F := exC (T := Value) (fun t g => g 41 = .tuple #[.agg #[.int .i64 pR, t], .int .i64 pX]) fun t => [.own t 60 2 (pE.map plV)]) (exC (T := Value) (fun t g => g 48 = .agg #[.int .i64 pR, t]) fun t => [.own t 60 2 (pE.map plV)]) (fun g w Y hw => ?_) ?_ (hM := (setC_other (by decide)).trans setC_self)
  · obtain ⟨t, ht, hw⟩ := exC_open hw
    have h5 : g 41 = .tuple #[.agg #[.int .i64 pR, t], .int .i64 pX] := ht
    exact Yields.step (v := .agg #[.int .i64 pR, t]) (y_extract h5 rfl) ⟨(fun h => by cases h), exC_mk (T := Value) t rfl hw⟩
  refine mY (v := .int .i64 pX) ?_ (hy := fun Y w g hw => by
    have hw : Wd Γ1 ([.blk b11 (hwC H A1 N1 C1 A2 N2 C2 A3 N3 C3 A4 N4 C4 A5 N5 C5), .blk b9 (.cells #[.int .i64 x, .slice at' nt ct] 32), .blk b5 (hwC H a1 n1 c1 a2 n2 c2 a3 n3 c3 a4 n4 c4 a5 n5 c5)] ++ ([Res.pure (∃ v, g 41 = .tuple #[v, .int .i64 pX])] ++ Y)) w := hw
    obtain ⟨v, h5⟩ := Wd.pureOut hw (i := 3) rfl
    exact y_extract h5 rfl)
  refine mAlloc (c := 1) ?_
  refine mS2 (c := 0) (c2 := 1) (v := undef) (F := exC (T := Value) (fun t g => g 48 = .agg #[.int .i64 pR, t]) fun t => [.own t 60 2 (pE.map plV)]) (G := fun g => [atP (g 12) fun bb => [.blk bb (.cells #[.int .i64 0, .slice none 0 0] 32)]]) (fun _ => []) (exC (T := Value × Nat) (fun t g => g 12 = .pointer (some ⟨t.2, 0, none⟩)) fun t => [.blk t.2 (.cells #[.int .i64 pR, t.1] 32), .own t.1 60 2 (pE.map plV)]) (fun g w Y hw => ?_) ?_ (hM := (setC_other (by decide)).trans setC_self) (hM2 := setC_self)
  · obtain ⟨t, ht, hw⟩ := exC_open hw
    have hw : Wd Γ1 (atP (g 12) (fun bb => [.blk bb (.cells #[.int .i64 0, .slice none 0 0] 32)]) :: ([.own t 60 2 (pE.map plV)] ++ ([.blk b11 (hwC H A1 N1 C1 A2 N2 C2 A3 N3 C3 A4 N4 C4 A5 N5 C5), .blk b9 (.cells #[.int .i64 x, .slice at' nt ct] 32), .blk b5 (hwC H a1 n1 c1 a2 n2 c2 a3 n3 c3 a4 n4 c4 a5 n5 c5)] ++ Y))) w := hw.perm (.swap _ _ _)
    obtain ⟨bb, h6, hw⟩ := hw.openAt
    obtain ⟨a', n', c', rfl, -, -, -⟩ := hw.own_shape (i := 1) rfl
    have h5 : g 48 = .agg #[.int .i64 pR, .slice a' n' c'] := ht
    have h6 : g 12 = .pointer (some ⟨bb, 0, none⟩) := h6
    exact s_store (i := 0) (v := .agg #[.int .i64 pR, .slice a' n' c']) (inferInstance : TSz Tryz.prog 32 2).h hw h6 h5 rfl rfl (List.all_eq_true.1 (rfl : [Value.int .i64 pR, .slice a' n' c'].all (·.oneCell') = true)) rfl (Nat.le_refl _) fun w' hw' => ⟨(fun h => rfl), by rw [List.nil_append]; exact exC_mk (T := Value × Nat) (.slice a' n' c', bb) h6 hw'⟩
  repeat (first | refine mY ?_ | refine mP ?_ | refine mPg ?_)
  refine mEnd fun w g hw => ?_
  have hw : Wd Γ1 ([.blk b11 (hwC H A1 N1 C1 A2 N2 C2 A3 N3 C3 A4 N4 C4 A5 N5 C5), .blk b9 (.cells #[.int .i64 x, .slice at' nt ct] 32), .blk b5 (hwC H a1 n1 c1 a2 n2 c2 a3 n3 c3 a4 n4 c4 a5 n5 c5)] ++ ([] ++ ((exC (T := Value × Nat) (fun t g => g 12 = .pointer (some ⟨t.2, 0, none⟩)) (fun t => [.blk t.2 (.cells #[.int .i64 pR, t.1] 32), .own t.1 60 2 (pE.map plV)])) g ++ ([Res.pure (∃ v, g 41 = .tuple #[v, .int .i64 pX])] ++ (S ++ []))))) w := hw
  rw [List.append_nil, List.nil_append] at hw
  obtain ⟨t, ht, hw⟩ := exC_open hw.swapApp
  obtain ⟨tv, b12⟩ := t
  have h12 : g 12 = .pointer (some ⟨b12, 0, none⟩) := ht
  obtain ⟨ae, ne, ce, rfl, hne, hnec, hce⟩ := hw.own_shape (i := 1) rfl
  simp only [List.length_map] at hne
  have hw : Wd Γ1 (.own (.slice ae ne ce) 60 2 (pE.map plV) :: .blk b12 (.cells #[.int .i64 pR, .slice ae ne ce] 32) :: .blk b11 (hwC H A1 N1 C1 A2 N2 C2 A3 N3 C3 A4 N4 C4 A5 N5 C5) :: .blk b9 (.cells #[.int .i64 x, .slice at' nt ct] 32) :: .blk b5 (hwC H a1 n1 c1 a2 n2 c2 a3 n3 c3 a4 n4 c4 a5 n5 c5) :: S) w := Wd.ds [5] (hw.perm (S' := .own (.slice ae ne ce) 60 2 (pE.map plV) :: .blk b12 (.cells #[.int .i64 pR, .slice ae ne ce] 32) :: .blk b11 (hwC H A1 N1 C1 A2 N2 C2 A3 N3 C3 A4 N4 C4 A5 N5 C5) :: .blk b9 (.cells #[.int .i64 x, .slice at' nt ct] 32) :: .blk b5 (hwC H a1 n1 c1 a2 n2 c2 a3 n3 c3 a4 n4 c4 a5 n5 c5) :: Res.pure (∃ v, g 41 = .tuple #[v, .int .i64 pX]) :: S) byPM)
  refine W_has (l := [(1, .int .i64 root), (2, .slice am nm cm), (3, .int .i64 cost), (5, .pointer (some ⟨b5, 0, none⟩)), (9, .pointer (some ⟨b9, 0, none⟩)), (11, .pointer (some ⟨b11, 0, none⟩)), (12, .pointer (some ⟨b12, 0, none⟩)), (13, .int .i64 pX)]) ⟨rfl, rfl, rfl, rfl, rfl, rfl, h12, rfl, trivial⟩ fun ρ' hρ' => ?_
  rw [hρ'.eq]
  clear hρ' h12 ht
  obtain ⟨Γ2, hle2, q2, hw⟩ := hw.freeze
  have hRb := (hR.mono hle1).mono hle2
  have hm2 : SlC Γ2 (.slice am nm cm) 1 (intRows ms) := ⟨hm1.mono hle2⟩
  repeat (first | refine byW ?_ | (refine byV ?_; intro w hw))
  refine lCall ((RPlan_any (hhw := hRb) (hr := hm2) root cost hw).mono fun e w hq => ?_)
  clear hw
  obtain ⟨vf, rfl, hw⟩ := hq
  rw [← hpR, ← hpX]
  rw [← hpE] at hw
  refine ⟨_, rfl, ?_⟩
  obtain ⟨af, nf, cf, rfl, hnf, hnfc, hcf⟩ := hw.own_shape (i := 0) rfl
  obtain ⟨Γ3, hle3, q3, hw⟩ := hw.freeze
  clear hcallP hpl hm2
  repeat (first | refine byW ?_ | (refine byV ?_; intro w hw))
  refine lAlloc ?_
  intro b14 w hw
  refine lStore ?_
  intro w hw
  have hw : Wd Γ3 (.blk b14 (.cells #[.int .i64 pR, .slice af nf cf] 32) :: .blk b12 (.cells #[.int .i64 pR, .slice ae ne ce] 32) :: .blk b11 (hwC H A1 N1 C1 A2 N2 C2 A3 N3 C3 A4 N4 C4 A5 N5 C5) :: .blk b9 (.cells #[.int .i64 x, .slice at' nt ct] 32) :: .blk b5 (hwC H a1 n1 c1 a2 n2 c2 a3 n3 c3 a4 n4 c4 a5 n5 c5) :: S) w := hw
  have hRa3 := (hR1'.mono hle2).mono hle3
  have hRb3 := hRb.mono hle3
  have ht3 : SlC Γ3 (.slice at' nt ct) 2 (es.map plV) := ⟨((ht.mono hle1).mono hle2).mono hle3⟩
  repeat (first | refine byW ?_ | (refine byV ?_; intro w hw))
  refine lCall ((arrivals_any (hh := hRa3) (hr := ht3) x cost hw).mono fun e w hq => ?_)
  clear hw
  obtain ⟨va, rfl, hw⟩ := hq
  refine ⟨_, rfl, ?_⟩
  obtain ⟨aa, na, ca, rfl, hna, hnac, hca⟩ := hw.own_shape (i := 0) rfl
  obtain ⟨Γ4, hle4, q4, hw⟩ := hw.freeze
  have hRb4 := hRb3.mono hle4
  have ht4 : SlC Γ4 (.slice at' nt ct) 2 (es.map plV) := ⟨ht3.h.mono hle4⟩
  repeat (first | refine byW ?_ | (refine byV ?_; intro w hw))
  refine lCall ((RArrivals_any (hh := hRb4) (hr := ht4) x cost hw).mono fun e w hq => ?_)
  clear hw
  obtain ⟨vb, rfl, hw⟩ := hq
  refine ⟨_, rfl, ?_⟩
  obtain ⟨ab, nb, cb, rfl, hnb, hnbc, hcb⟩ := hw.own_shape (i := 0) rfl
  obtain ⟨Γ5, hle5, q5, hw⟩ := hw.freeze
  have hRa5 := (hRa3.mono hle4).mono hle5
  have hRb5 := hRb4.mono hle5
  have ht5 : SlC Γ5 (.slice at' nt ct) 2 (es.map plV) := ⟨ht4.h.mono hle5⟩
  haveI k1 := pg_Completion (hh := hRa5) (hr := ht5) x cost
  haveI k2 := pg_RCompletion (hh := hRb5) (hr := ht5) x cost
  haveI k3 := pg_VTree (hh := hRa5) (hr := ht5) x
  haveI k4 := pg_RValid (hh := hRb5) (hr := ht5) x
  haveI s6 : SlC Γ5 (.slice aa na ca) 1 (intRows (arrS H x es cost).1) := ⟨q4.mono hle5⟩
  haveI s7 : SlC Γ5 (.slice ab nb cb) 1 (intRows (arrS H x es cost).1) := ⟨q5⟩
  haveI s8 : SlC Γ5 (.slice ae ne ce) 2 (pE.map plV) := ⟨((q2.mono hle3).mono hle4).mono hle5⟩
  haveI s9 : SlC Γ5 (.slice af nf cf) 2 (pE.map plV) := ⟨(q3.mono hle4).mono hle5⟩
  clear hR hRb hRb3 hRb4 hRb5 hRa3 hRa5 hR1' hq' hq ht3 ht4 ht5
  have hBW := hw
  clear hw
  generalize (arrS H x es cost).1 = A at *
  generalize (arrS H x es cost).2 = B at *
  generalize compS H x es cost = Cc at *
  generalize treeErr H x es = Te at *
  have hw := hBW
  clear hBW
  repeat (first | refine byW ?_ | (refine byV ?_; intro w hw))
  refine W_has (l := [(5, .pointer (some ⟨b5, 0, none⟩)), (9, .pointer (some ⟨b9, 0, none⟩)), (11, .pointer (some ⟨b11, 0, none⟩)), (12, .pointer (some ⟨b12, 0, none⟩)), (13, .int .i64 pX), (14, .pointer (some ⟨b14, 0, none⟩)), (15, .int .i64 pX), (16, .slice aa na ca), (17, .int .i64 B), (18, .slice ab nb cb), (19, .int .i64 B), (20, .int .i64 Cc), (21, .int .i64 B), (22, .int .i64 Cc), (23, .int .i64 B)]) ⟨rfl, rfl, rfl, rfl, rfl, rfl, rfl, rfl, rfl, rfl, rfl, rfl, rfl, rfl, rfl, trivial⟩ fun ρ' hρ' => ?_
  rw [hρ'.eq]
  clear hρ'
  haveI s67 : PG Tryz.prog Γ5 18 [.slice aa na ca, .slice ab nb cb] (.bool true) := by
    have := pg_SameInts (hr := s6) (hr2 := s7)
    rwa [decide_eq_true (rfl : A = A)] at this
  refine W_quiet (by kernel_rfl) (quiet_B (by kernel_rfl)) hw ?_
  repeat (first | refine Q_nil ?_ | (apply Q_plain; first | (apply Q_go; first | refine qP ?_ | refine qPg ?_) | (refine qT ?_ ?_; (first | exact rfl | exact decide_eq_true rfl)) | refine qY ?_) | (apply Q_guarded; first | (apply Q_go; refine qGp ?_) | (refine qGb ?_ ?_; (first | exact rfl | exact decide_eq_true rfl)) | refine qGv ?_))
  clear hw
  intro w hw
  repeat (first | refine byW ?_ | (refine byV ?_; intro w hw))
  exact ⟨_, rfl, Γ5, hle1.trans (hle2.trans (hle3.trans (hle4.trans hle5))), ret_b rfl (by simp), hw.ds [0, 0, 0, 0, 0]⟩
end Go.Proofs.YteiijmclobggjaaGreat
end
