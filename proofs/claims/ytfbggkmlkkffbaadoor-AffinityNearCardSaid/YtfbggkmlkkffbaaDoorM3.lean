/- Texts of this proof, one behind another. -/
import Derived.Test.YtfbggkmlkkffbaaDoorM2
import Derived.Shelf.SlLaysF0
set_option linter.unusedVariables false
set_option linter.unusedSimpArgs false
/- Validate's checks: the caches' cores exist and the caches are nested. -/
section
open Go Mk
namespace Go.Proofs.YtfbggkmlkkffbaaDoor
set_option maxHeartbeats 8000000
attribute [local irreducible] Calls
section
variable {Γ : Gho} {S : List Res} {w : World} {a : Option Addr} {n c : Nat} {xs : List CoreT}
theorem IndexFunc_any (p : CoreT → Bool) (f : Nat) (fst cap : List Value) [FnOk Tryd.prog f] (hr : RdS Γ S (.slice a n c) 4 (xs.map enc))
    (hf : ∀ x w, Wd Γ S w → Calls Tryd.prog f (fst ++ [Value.agg (enc x).toArray] ++ cap).toArray w fun e w' => e = .returned (.bool (p x)) ∧ Wd Γ S w') (hw : Wd Γ S w) :
    Calls Tryd.prog 79 #[.slice a n c, .func (.func f) fst.toArray cap.toArray] w fun e w' => ∃ i : Int, e = .returned (.int .i64 i) ∧ decide (0 ≤ i) = xs.any p ∧ Wd Γ S w' := by
  obtain ⟨_, _, _, he, hn, hnc, hc⟩ := hr.shape
  cases he
  have hnr := hn
  simp only [List.length_map] at hn
  refine calls_of_W Tryd.func79 rfl rfl ?_
  repeat (first | refine byW ?_ | (refine byV ?_; intro w hw))
  refine W_loop (fun μ ρ w => ∃ (k : Nat), μ + k = n ∧ Has ρ [(0, .slice a n c), (1, .func (.func f) fst.toArray cap.toArray), (7, .int .i64 n), (8, .int .i64 k)] ∧ (∀ i x, i < k → xs[i]? = some x → (!p x) = true) ∧ Wd Γ S w) n ⟨0, by omega, ⟨rfl, rfl, rfl, rfl, trivial⟩, fun i x h => by omega, hw⟩ ?_
  clear hw
  rintro μ ρ w ⟨k, hk, hρ, hall, hw⟩
  rw [hρ.eq]
  repeat (first | refine byW ?_ | (refine byV ?_; intro w hw))
  refine W_cond rfl (fun h => ?_) (fun h => ?_)
  · have hkn : k < n := by simpa using h
    obtain ⟨x, hx⟩ := get_lt (l := xs) (k := k) (by omega)
    repeat (first | refine byW ?_ | (refine byV ?_; intro w hw))
    refine lCallv (fst := fst) (cap := cap) (vs := [.agg (enc x).toArray]) ?_
    refine (hf x w hw).mono ?_
    rintro r w ⟨rfl, hw⟩
    refine ⟨_, rfl, ?_⟩
    repeat (first | refine byW ?_ | (refine byV ?_; intro w hw))
    refine W_cond rfl (fun h2 => ?_) (fun h2 => ?_)
    · repeat (first | refine byW ?_ | (refine byV ?_; intro w hw))
      exact ⟨_, rfl, k, rfl, by rw [decide_eq_true (show (0 : Int) ≤ k by omega)]; exact (List.any_eq_true.2 ⟨x, List.mem_of_getElem? hx, h2⟩).symm, hw⟩
    · repeat (first | refine byW ?_ | (refine byV ?_; intro w hw))
      exact ⟨μ - 1, by omega, k + 1, by omega, ⟨rfl, rfl, rfl, rfl, trivial⟩, all_step hall hx (by rw [h2]; rfl), hw⟩
  · have hkn : ¬ k < n := by simpa using h
    repeat (first | refine byW ?_ | (refine byV ?_; intro w hw))
    refine ⟨_, rfl, -1, rfl, ?_, hw⟩
    have := all_end hall (by omega)
    rw [decide_eq_false (show ¬ (0 : Int) ≤ -1 by decide)]
    rw [List.all_eq_true] at this
    exact (List.any_eq_false.2 fun x hx => by simpa using this x hx).symm
theorem ContainsFunc_any (p : CoreT → Bool) (f : Nat) (fst cap : List Value) [FnOk Tryd.prog f] (hr : RdS Γ S (.slice a n c) 4 (xs.map enc))
    (hf : ∀ x w, Wd Γ S w → Calls Tryd.prog f (fst ++ [Value.agg (enc x).toArray] ++ cap).toArray w fun e w' => e = .returned (.bool (p x)) ∧ Wd Γ S w') (hw : Wd Γ S w) :
    Calls Tryd.prog 60 #[.slice a n c, .func (.func f) fst.toArray cap.toArray] w fun e w' => e = .returned (.bool (xs.any p)) ∧ Wd Γ S w' := by
  refine calls_of_W Tryd.func60 rfl rfl ?_
  repeat (first | refine byW ?_ | (refine byV ?_; intro w hw))
  refine lCall ?_
  refine (IndexFunc_any p f fst cap hr hf hw).mono ?_
  rintro r w ⟨i, rfl, hi, hw⟩
  refine ⟨_, rfl, ?_⟩
  repeat (first | refine byW ?_ | (refine byV ?_; intro w hw))
  exact ⟨_, rfl, ret_b rfl hi, hw⟩
theorem known1_any {b6 i : Nat} {id : Int} (x : CoreT) (hi : S[i]? = some (.blk b6 (.cells #[.int .i64 id] 3))) (hw : Wd Γ S w) :
    Calls Tryd.prog 61 #[.agg (enc x).toArray, .pointer (some ⟨b6, 0, none⟩)] w fun e w' => e = .returned (.bool (decide (x.ID = id))) ∧ Wd Γ S w' := by
  refine calls_of_W Tryd.func61 rfl rfl ?_
  repeat (first | refine byW ?_ | (refine byV ?_; intro w hw))
  refine lBox ?_
  intro b2 w hw
  have hw : Wd Γ (.blk b2 (.cells (enc x).toArray 53) :: S) w := hw
  repeat (first | refine byW ?_ | (refine byV ?_; intro w hw))
  have hi2 : (Res.blk b2 (.cells (enc x).toArray 53) :: S)[i + 1]? = some (.blk b6 (.cells #[.int .i64 id] 3)) := by simpa using hi
  refine lY (v := .int .i64 id) ?_ (hy := y_l1b (i := i + 1) hw rfl hi2 rfl)
  repeat (first | refine byW ?_ | (refine byV ?_; intro w hw))
  exact ⟨_, rfl, rfl, hw.drop⟩
end
def knownB (H : HwT) : Bool := H.Caches.all fun c => c.Cores.all fun id => H.Cores.any fun x => decide (x.ID = id)
def knownH (H : HwT) (c : CacheH) : Bool := c.Cores.all fun id => H.Cores.any fun x => decide (x.ID = id)
theorem all_known (H : HwT) (cs : List CacheH) : ((cs.map CacheH.T).all fun c => c.Cores.all fun id => H.Cores.any fun x => decide (x.ID = id)) = cs.all (knownH H) := by rw [List.all_map]; rfl
abbrev hwC (H : HwT) (a1 : Option Addr) (n1 c1 : Nat) (a2 : Option Addr) (n2 c2 : Nat) (a3 : Option Addr) (n3 c3 : Nat) (a4 : Option Addr) (n4 c4 : Nat) (a5 : Option Addr) (n5 c5 : Nat) : Obj := .cells #[.string H.Name, .slice a1 n1 c1, .slice a2 n2 c2, .slice a3 n3 c3, .slice a4 n4 c4, .slice a5 n5 c5] 30
instance pg_knownOK {Γ : Gho} {u : Value} {H : HwT} [hh : HwR Γ u H] : PG Tryd.prog Γ 37 [u] (.bool (knownB H)) := ⟨fun S w hw => by
  obtain ⟨a1, n1, c1, a2, n2, c2, a3, n3, c3, a4, n4, c4, a5, n5, c5, cs, rfl, hcs, hok, hsz, r1, r2, r3, r4, r5⟩ := hh.h
  obtain ⟨hn1, hm1, hx1⟩ := rep_facts r1
  obtain ⟨hn2, hm2, hx2⟩ := rep_facts r2
  simp only [List.length_map] at hn1 hn2
  refine calls_of_W Tryd.func37 rfl rfl ?_
  repeat (first | refine byW ?_ | (refine byV ?_; intro w hw))
  refine lBox ?_
  intro b1 w hw
  have hw : Wd Γ (.blk b1 (hwC H a1 n1 c1 a2 n2 c2 a3 n3 c3 a4 n4 c4 a5 n5 c5) :: S) w := hw
  repeat (first | refine byW ?_ | (refine byV ?_; intro w hw))
  refine W_loop (fun μ ρ w => ∃ (k : Nat), μ + k = n2 ∧ Has ρ [(1, .pointer (some ⟨b1, 0, none⟩)), (8, .slice a2 n2 c2), (9, .int .i64 n2), (10, .int .i64 k)] ∧ (∀ i x, i < k → cs[i]? = some x → knownH H x = true) ∧ Wd Γ (.blk b1 (hwC H a1 n1 c1 a2 n2 c2 a3 n3 c3 a4 n4 c4 a5 n5 c5) :: S) w) n2 ⟨0, by omega, ⟨rfl, rfl, rfl, rfl, trivial⟩, fun i x h => by omega, hw⟩ ?_
  clear hw
  rintro μ ρ w ⟨k, hk, hρ, hall, hw⟩
  rw [hρ.eq]
  repeat (first | refine byW ?_ | (refine byV ?_; intro w hw))
  refine W_cond rfl (fun h => ?_) (fun h => ?_)
  · have hkn : k < n2 := by simpa using h
    obtain ⟨x, hx⟩ := get_lt (l := cs) (k := k) (by omega)
    have hcok := hok x (List.mem_of_getElem? hx)
    obtain ⟨hxn, hxm, hxc⟩ := hcok.facts
    unfold COk at hcok
    repeat (first | refine byW ?_ | (refine byV ?_; intro w hw))
    refine lAlloc ?_
    intro b9 w hw
    refine lStore ?_
    intro w hw
    have hw : Wd Γ (.blk b9 (.cells (cC x).toArray 65) :: .blk b1 (hwC H a1 n1 c1 a2 n2 c2 a3 n3 c3 a4 n4 c4 a5 n5 c5) :: S) w := hw
    repeat (first | refine byW ?_ | (refine byV ?_; intro w hw))
    refine W_loop (fun μ2 ρ w => ∃ (j : Nat), μ2 + j = x.N ∧ Has ρ [(1, .pointer (some ⟨b1, 0, none⟩)), (8, .slice a2 n2 c2), (9, .int .i64 n2), (10, .int .i64 k), (15, .slice x.A x.N x.C), (16, .int .i64 x.N), (17, .int .i64 j)] ∧ (∀ i id, i < j → x.Cores[i]? = some id → (H.Cores.any fun y => decide (y.ID = id)) = true) ∧ Wd Γ (.blk b9 (.cells (cC x).toArray 65) :: .blk b1 (hwC H a1 n1 c1 a2 n2 c2 a3 n3 c3 a4 n4 c4 a5 n5 c5) :: S) w) x.N ⟨0, by omega, ⟨rfl, rfl, rfl, rfl, rfl, rfl, rfl, trivial⟩, fun i x h => by omega, hw⟩ ?_
    clear hw
    rintro μ2 ρ w ⟨j, hj, hρ, hall2, hw⟩
    rw [hρ.eq]
    repeat (first | refine byW ?_ | (refine byV ?_; intro w hw))
    refine W_cond rfl (fun h2 => ?_) (fun h2 => ?_)
    · have hjn : j < x.N := by simpa using h2
      obtain ⟨id, hid⟩ := get_lt (l := x.Cores) (k := j) (by omega)
      repeat (first | refine byW ?_ | (refine byV ?_; intro w hw))
      refine lAlloc ?_
      intro b6 w hw
      refine lStore ?_
      intro w hw
      have hw : Wd Γ (.blk b6 (.cells #[.int .i64 id] 3) :: .blk b9 (.cells (cC x).toArray 65) :: .blk b1 (hwC H a1 n1 c1 a2 n2 c2 a3 n3 c3 a4 n4 c4 a5 n5 c5) :: S) w := hw
      repeat (first | refine byW ?_ | (refine byV ?_; intro w hw))
      refine lCall ?_
      refine (ContainsFunc_any (fun y => decide (y.ID = id)) 61 [] [.pointer (some ⟨b6, 0, none⟩)] r1.rdS (fun y w hw => known1_any y (i := 0) rfl hw) hw).mono ?_
      rintro r w ⟨rfl, hw⟩
      refine ⟨_, rfl, ?_⟩
      repeat (first | refine byW ?_ | (refine byV ?_; intro w hw))
      refine W_cond rfl (fun h3 => ?_) (fun h3 => ?_)
      · have hf : (H.Cores.any fun y => decide (y.ID = id)) = false := by simpa using h3
        repeat (first | refine byW ?_ | (refine byV ?_; intro w hw))
        refine ⟨_, rfl, ret_b rfl ?_, hw.drop.drop.drop⟩
        have hf2 : knownH H x = false := all_no hid hf
        unfold knownB
        rw [← hcs, all_known]
        exact (all_no hx hf2).symm
      · have ht : (H.Cores.any fun y => decide (y.ID = id)) = true := by simpa using h3
        repeat (first | refine byW ?_ | (refine byV ?_; intro w hw))
        exact ⟨μ2 - 1, by omega, j + 1, by omega, ⟨rfl, rfl, rfl, rfl, rfl, rfl, rfl, trivial⟩, all_step hall2 hid ht, hw.drop⟩
    · have hjn : ¬ j < x.N := by simpa using h2
      have ht : knownH H x = true := all_end hall2 (by omega)
      repeat (first | refine byW ?_ | (refine byV ?_; intro w hw))
      exact ⟨μ - 1, by omega, k + 1, by omega, ⟨rfl, rfl, rfl, rfl, trivial⟩, all_step hall hx ht, hw.drop⟩
  · have hkn : ¬ k < n2 := by simpa using h
    repeat (first | refine byW ?_ | (refine byV ?_; intro w hw))
    refine ⟨_, rfl, ret_b rfl ?_, hw.drop⟩
    unfold knownB
    rw [← hcs, all_known]
    exact (all_end hall (by omega)).symm⟩

/-! ### sorted lists, members -/
def sortedP (l : List Int) : Prop := ∀ i a b, l[i]? = some a → l[i + 1]? = some b → a ≤ b
noncomputable def decP (p : Prop) : Bool := @decide p (Classical.propDecidable p)
theorem decP_t {p : Prop} (h : p) : decP p = true := @decide_eq_true p (Classical.propDecidable p) h
theorem decP_f {p : Prop} (h : ¬ p) : decP p = false := @decide_eq_false p (Classical.propDecidable p) h
theorem decP_iff {p : Prop} : decP p = true ↔ p := @decide_eq_true_iff p (Classical.propDecidable p)
noncomputable def sortedB (l : List Int) : Bool := decP (sortedP l)
instance pc_isNaN (x : Int) : PC Tryd.prog 30 [.int .i64 x] (.bool false) := ⟨fun w => by
  refine calls_of_W Tryd.func30 rfl rfl ?_
  repeat (first | refine byW ?_ | (refine byV ?_; intro w hw))
  exact ⟨_, rfl, ret_b rfl (by simp), rfl⟩⟩
instance pc_Less (x y : Int) : PC Tryd.prog 70 [.int .i64 x, .int .i64 y] (.bool (decide (x < y))) := ⟨fun w => by
  refine calls_of_W Tryd.func70 rfl rfl ?_
  repeat (first | (first | refine W_seq ?_ | refine W_block ?_ | refine W_region ?_ | refine W_skip ?_ | refine W_ret ?_ | refine W_exit ?_) | ((first | apply L_bin | apply L_notop); first | (refine lT ?_ ?_; (first | exact rfl | exact decide_eq_true rfl | (simp; done))) | (refine lF ?_ ?_; (first | exact rfl | exact decide_eq_true rfl | (simp; done)))) | (first | refine L_nil ?_ | (apply L_plain; first | (apply L_go; first | refine lP ?_ | (refine lPg ?_; intro w hw)) | (apply L_mf; refine lMakeFunc ?_) | refine lY ?_) | (apply L_guarded; first | refine lGT ?_ (hct := rfl) | refine lGF ?_ (hct := rfl) | (apply L_go; first | refine lPG ?_ | (refine lPgG ?_; intro w hw)) | refine lG ?_)) | (refine lAlloc ?_; intro _ w hw) | (refine lBox ?_; intro _ w hw) | (refine lStore ?_; intro w hw))
  exact ⟨_, rfl, ret_b rfl (by simp), rfl⟩⟩
section
variable {Γ : Gho} {S : List Res} {w : World} {xs : List Int} {v : Value}
theorem IsSorted_any (hr : RdS Γ S v 1 (intRows xs)) (hw : Wd Γ S w) : Calls Tryd.prog 62 #[v] w fun e w' => e = .returned (.bool (sortedB xs)) ∧ Wd Γ S w' := by
  obtain ⟨a, n, c, rfl, hn, hnc, hc⟩ := hr.shape
  have hnr := hn
  simp only [intRows, List.length_map] at hn
  refine calls_of_W Tryd.func62 rfl rfl ?_
  repeat (first | refine byW ?_ | (refine byV ?_; intro w hw))
  refine W_loop (fun μ ρ w => ∃ (m : Nat), μ = m ∧ m ≤ n ∧ Has ρ [(0, .slice a n c), (3, .int .i64 ((m : Int) - 1))] ∧ (∀ i a b, m ≤ i + 1 → xs[i]? = some a → xs[i + 1]? = some b → a ≤ b) ∧ Wd Γ S w) n ⟨n, rfl, Nat.le_refl _, ⟨rfl, rfl, trivial⟩, fun i a b h1 h2 h3 => by have := (List.getElem?_eq_some_iff.1 h3).1; omega, hw⟩ ?_
  clear hw
  rintro μ ρ w ⟨m, rfl, hm, hρ, hall, hw⟩
  rw [hρ.eq]
  repeat (first | refine byW ?_ | (refine byV ?_; intro w hw))
  refine W_cond rfl (fun h => ?_) (fun h => ?_)
  · have hm2 : 2 ≤ μ := by have := of_decide_eq_true h; omega
    obtain ⟨x, hx⟩ := get_lt (l := xs) (k := μ - 1) (by omega)
    obtain ⟨y, hy⟩ := get_lt (l := xs) (k := μ - 2) (by omega)
    have e1 : ((μ : Int) - 1).toNat = μ - 1 := by omega
    have e2 : ((μ : Int) - 1 - 1).toNat = μ - 2 := by omega
    have hx' : xs[((μ : Int) - 1).toNat]? = some x := by rw [e1]; exact hx
    have hy' : xs[((μ : Int) - 1 - 1).toNat]? = some y := by rw [e2]; exact hy
    repeat (first | refine byW ?_ | (refine byV ?_; intro w hw))
    refine W_quiet (by kernel_rfl) (by kernel_rfl) hw ?_
    repeat (first | refine Q_nil ?_ | (apply Q_plain; first | (apply Q_go; first | refine qP ?_ | refine qPg ?_) | refine qY ?_) | (apply Q_guarded; first | (apply Q_go; first | refine qPG ?_ | refine qPgG ?_) | refine qG ?_))
    intro w hw
    refine W_cond rfl (fun h2 => ?_) (fun h2 => ?_)
    · have h2 : x < y := of_decide_eq_true h2
      repeat (first | refine byW ?_ | (refine byV ?_; intro w hw))
      refine ⟨_, rfl, ret_b rfl ?_, hw⟩
      exact (decP_f fun hs => by have := hs (μ - 2) y x hy (by rw [show μ - 2 + 1 = μ - 1 by omega]; exact hx); omega).symm
    · have h2 : ¬ x < y := of_decide_eq_false h2
      repeat (first | refine byW ?_ | (refine byV ?_; intro w hw))
      refine ⟨μ - 1, by omega, μ - 1, rfl, by omega, ⟨rfl, ?_, trivial⟩, fun i p q h3 h4 h5 => ?_, hw⟩
      · show Value.int .i64 ((μ : Int) - 1 - 1) = _
        congr 1; omega
      · by_cases e : μ ≤ i + 1
        · exact hall i p q e h4 h5
        · have : i = μ - 2 := by omega
          subst this
          rw [show μ - 2 + 1 = μ - 1 by omega, hx] at h5
          rw [hy] at h4
          cases h4; cases h5; omega
  · have hm2 : ¬ 2 ≤ μ := by have := of_decide_eq_false h; omega
    repeat (first | refine byW ?_ | (refine byV ?_; intro w hw))
    refine ⟨_, rfl, ret_b rfl ?_, hw⟩
    exact (decP_t fun i p q h1 h2 => hall i p q (by omega) h1 h2).symm
def memI (x : Int) (xs : List Int) : Bool := xs.any fun y => decide (x = y)
theorem ContainsI_any (hr : RdS Γ S v 1 (intRows xs)) (x : Int) (hw : Wd Γ S w) : Calls Tryd.prog 63 #[v, .int .i64 x] w fun e w' => e = .returned (.bool (memI x xs)) ∧ Wd Γ S w' := by
  have hI : ∀ w, Wd Γ S w → Calls Tryd.prog 80 #[v, .int .i64 x] w fun e w' => ∃ i : Int, e = .returned (.int .i64 i) ∧ (decide (0 ≤ i) = memI x xs) ∧ Wd Γ S w' := by
    intro w hw
    obtain ⟨a, n, c, rfl, hn, hnc, hc⟩ := hr.shape
    have hnr := hn
    simp only [intRows, List.length_map] at hn
    refine calls_of_W Tryd.func80 rfl rfl ?_
    repeat (first | refine byW ?_ | (refine byV ?_; intro w hw))
    refine W_loop (fun μ ρ w => ∃ (k : Nat), μ + k = n ∧ Has ρ [(0, .slice a n c), (1, .int .i64 x), (7, .int .i64 n), (8, .int .i64 k)] ∧ (∀ i y, i < k → xs[i]? = some y → (!decide (x = y)) = true) ∧ Wd Γ S w) n ⟨0, by omega, ⟨rfl, rfl, rfl, rfl, trivial⟩, fun i x h => by omega, hw⟩ ?_
    clear hw
    rintro μ ρ w ⟨k, hk, hρ, hno, hw⟩
    rw [hρ.eq]
    repeat (first | refine byW ?_ | (refine byV ?_; intro w hw))
    refine W_cond rfl (fun h => ?_) (fun h => ?_)
    · have hkn : k < n := by simpa using h
      obtain ⟨y, hy⟩ := get_lt (l := xs) (k := k) (by omega)
      repeat (first | refine byW ?_ | (refine byV ?_; intro w hw))
      refine W_cond rfl (fun h2 => ?_) (fun h2 => ?_)
      · repeat (first | refine byW ?_ | (refine byV ?_; intro w hw))
        exact ⟨_, rfl, k, rfl, by rw [decide_eq_true (show (0 : Int) ≤ k by omega)]; exact (List.any_eq_true.2 ⟨y, List.mem_of_getElem? hy, h2⟩).symm, hw⟩
      · repeat (first | refine byW ?_ | (refine byV ?_; intro w hw))
        exact ⟨μ - 1, by omega, k + 1, by omega, ⟨rfl, rfl, rfl, rfl, trivial⟩, all_step hno hy (by rw [h2]; rfl), hw⟩
    · have hkn : ¬ k < n := by simpa using h
      repeat (first | refine byW ?_ | (refine byV ?_; intro w hw))
      refine ⟨_, rfl, -1, rfl, ?_, hw⟩
      have := all_end hno (by omega)
      rw [decide_eq_false (show ¬ (0 : Int) ≤ -1 by decide)]
      rw [List.all_eq_true] at this
      exact (List.any_eq_false.2 fun y hy => by simpa using this y hy).symm
  refine calls_of_W Tryd.func63 rfl rfl ?_
  repeat (first | refine byW ?_ | (refine byV ?_; intro w hw))
  refine lCall ?_
  refine (hI w hw).mono ?_
  rintro e w ⟨i, rfl, hd, hw⟩
  refine ⟨_, rfl, ?_⟩
  repeat (first | refine byW ?_ | (refine byV ?_; intro w hw))
  exact ⟨_, rfl, ret_b rfl hd, hw⟩
end
instance pg_ContainsI {Γ : Gho} {v : Value} {xs : List Int} [hr : SlC Γ v 1 (intRows xs)] (x : Int) : PG Tryd.prog Γ 63 [v, .int .i64 x] (.bool (memI x xs)) := ⟨fun S w hw => ContainsI_any hr.h.rdS x hw⟩
noncomputable instance pg_IsSorted {Γ : Gho} {v : Value} {xs : List Int} [hr : SlC Γ v 1 (intRows xs)] : PG Tryd.prog Γ 62 [v] (.bool (sortedB xs)) := ⟨fun S w hw => IsSorted_any hr.h.rdS hw⟩

/-! ### nested caches -/
def sharedN (a b : List Int) : Nat := (a.filter fun v => memI v b).length
def pairB (i k : Nat) (a b : CacheT) : Bool := decide (i = k) || decide (b.Level < a.Level) || !(decide (0 < sharedN a.Cores b.Cores) && (decide (a.Level = b.Level) || decide (sharedN a.Cores b.Cores < a.Cores.length)))
def HierP (l : List CacheT) : Prop := (∀ c ∈ l, sortedP c.Cores) ∧ ∀ (i k : Nat) (a b : CacheT), l[i]? = some a → l[k]? = some b → pairB i k a b = true
noncomputable def hierB (H : HwT) : Bool := decP (HierP H.Caches)
theorem allI_step {α : Type} {l : List α} {p : Nat → α → Bool} {k : Nat} {x : α} (h : ∀ i x, i < k → l[i]? = some x → p i x = true) (hx : l[k]? = some x) (ht : p k x = true) : ∀ i x, i < k + 1 → l[i]? = some x → p i x = true := fun i y hi hy => by
  by_cases e : i = k
  · subst e; rw [hx] at hy; cases hy; exact ht
  · exact h i y (by omega) hy
instance pg_hierarchyOK {Γ : Gho} {u : Value} {H : HwT} [hh : HwR Γ u H] : PG Tryd.prog Γ 38 [u] (.bool (hierB H)) := ⟨fun S w hw => by
  obtain ⟨a1, n1, c1, a2, n2, c2, a3, n3, c3, a4, n4, c4, a5, n5, c5, cs, rfl, hcs, hok, hsz, r1, r2, r3, r4, r5⟩ := hh.h
  obtain ⟨hn2, hm2, hx2⟩ := rep_facts r2
  simp only [List.length_map] at hn2
  have hget : ∀ (i : Nat) (x : CacheH), cs[i]? = some x → H.Caches[i]? = some x.T := fun i x h => by rw [← hcs]; simp [h]
  refine calls_of_W Tryd.func38 rfl rfl ?_
  repeat (first | refine byW ?_ | (refine byV ?_; intro w hw))
  refine lBox ?_
  intro b1 w hw
  have hw : Wd Γ (.blk b1 (hwC H a1 n1 c1 a2 n2 c2 a3 n3 c3 a4 n4 c4 a5 n5 c5) :: S) w := hw
  repeat (first | refine byW ?_ | (refine byV ?_; intro w hw))
  refine W_loop (fun μ ρ w => ∃ (k : Nat), μ + k = n2 ∧ Has ρ [(1, .pointer (some ⟨b1, 0, none⟩)), (13, .slice a2 n2 c2), (14, .int .i64 n2), (15, .int .i64 k)] ∧ (∀ (i : Nat) (x : CacheH), i < k → cs[i]? = some x → sortedB x.Cores = true) ∧ Wd Γ (.blk b1 (hwC H a1 n1 c1 a2 n2 c2 a3 n3 c3 a4 n4 c4 a5 n5 c5) :: S) w) n2 ⟨0, by omega, ⟨rfl, rfl, rfl, rfl, trivial⟩, fun i x h => by omega, hw⟩ ?_
  clear hw
  rintro μ ρ w ⟨k, hk, hρ, hall, hw⟩
  rw [hρ.eq]
  repeat (first | refine byW ?_ | (refine byV ?_; intro w hw))
  refine W_cond rfl (fun h => ?_) (fun h => ?_)
  · have hkn : k < n2 := by simpa using h
    obtain ⟨x, hx⟩ := get_lt (l := cs) (k := k) (by omega)
    haveI : SlC Γ (.slice x.A x.N x.C) 1 (intRows x.Cores) := ⟨hok x (List.mem_of_getElem? hx)⟩
    repeat (first | refine byW ?_ | (refine byV ?_; intro w hw))
    refine lAlloc ?_
    intro b9 w hw
    refine lStore ?_
    intro w hw
    have hw : Wd Γ (.blk b9 (.cells (cC x).toArray 65) :: .blk b1 (hwC H a1 n1 c1 a2 n2 c2 a3 n3 c3 a4 n4 c4 a5 n5 c5) :: S) w := hw
    repeat (first | refine byW ?_ | (refine byV ?_; intro w hw))
    refine W_cond rfl (fun h2 => ?_) (fun h2 => ?_)
    · have hf : sortedB x.Cores = false := by simpa using h2
      repeat (first | refine byW ?_ | (refine byV ?_; intro w hw))
      refine ⟨_, rfl, ret_b rfl ?_, hw.drop.drop⟩
      refine (decP_f fun hP => ?_).symm
      have := hP.1 x.T (List.mem_of_getElem? (hget k x hx))
      rw [show sortedB x.Cores = true from decP_t this] at hf; cases hf
    · have ht : sortedB x.Cores = true := by simpa using h2
      repeat (first | refine byW ?_ | (refine byV ?_; intro w hw))
      exact ⟨μ - 1, by omega, k + 1, by omega, ⟨rfl, rfl, rfl, rfl, trivial⟩, all_step hall hx ht, hw.drop⟩
  have hkn : ¬ k < n2 := by simpa using h
  have hsort : ∀ (i : Nat) (x : CacheH), cs[i]? = some x → sortedP x.Cores := fun i x hx => decP_iff.1 (hall i x (by have := (List.getElem?_eq_some_iff.1 hx).1; omega) hx)
  clear h hkn hall hρ hk
  repeat (first | refine byW ?_ | (refine byV ?_; intro w hw))
  refine W_loop (fun μ ρ w => ∃ (k : Nat), μ + k = n2 ∧ Has ρ [(1, .pointer (some ⟨b1, 0, none⟩)), (25, .slice a2 n2 c2), (26, .int .i64 n2), (27, .int .i64 k)] ∧ (∀ (i j : Nat) (a b : CacheH), i < k → cs[i]? = some a → cs[j]? = some b → pairB i j a.T b.T = true) ∧ Wd Γ (.blk b1 (hwC H a1 n1 c1 a2 n2 c2 a3 n3 c3 a4 n4 c4 a5 n5 c5) :: S) w) n2 ⟨0, by omega, ⟨rfl, rfl, rfl, rfl, trivial⟩, fun i j a b h => by omega, hw⟩ ?_
  clear hw
  rintro μ ρ w ⟨i, hi, hρ, hall, hw⟩
  rw [hρ.eq]
  repeat (first | refine byW ?_ | (refine byV ?_; intro w hw))
  refine W_cond rfl (fun h => ?_) (fun h => ?_)
  · have hin : i < n2 := by simpa using h
    obtain ⟨x, hx⟩ := get_lt (l := cs) (k := i) (by omega)
    have hcx := hok x (List.mem_of_getElem? hx)
    obtain ⟨hxn, hxm, hxc⟩ := hcx.facts
    unfold COk at hcx
    repeat (first | refine byW ?_ | (refine byV ?_; intro w hw))
    refine lAlloc ?_
    intro b6 w hw
    repeat (first | refine byW ?_ | (refine byV ?_; intro w hw))
    refine lStore ?_
    intro w hw
    have hw : Wd Γ (.blk b6 (.cells (cC x).toArray 65) :: .blk b1 (hwC H a1 n1 c1 a2 n2 c2 a3 n3 c3 a4 n4 c4 a5 n5 c5) :: S) w := hw
    repeat (first | refine byW ?_ | (refine byV ?_; intro w hw))
    refine W_loop (fun μ2 ρ w => ∃ (k : Nat), μ2 + k = n2 ∧ Has ρ [(1, .pointer (some ⟨b1, 0, none⟩)), (5, .int .i64 i), (6, .pointer (some ⟨b6, 0, none⟩)), (25, .slice a2 n2 c2), (26, .int .i64 n2), (27, .int .i64 i), (33, .slice a2 n2 c2), (34, .int .i64 n2), (35, .int .i64 k)] ∧ (∀ (j : Nat) (b : CacheH), j < k → cs[j]? = some b → pairB i j x.T b.T = true) ∧ Wd Γ (.blk b6 (.cells (cC x).toArray 65) :: .blk b1 (hwC H a1 n1 c1 a2 n2 c2 a3 n3 c3 a4 n4 c4 a5 n5 c5) :: S) w) n2 ⟨0, by omega, ⟨rfl, rfl, rfl, rfl, rfl, rfl, rfl, rfl, rfl, trivial⟩, fun j b h => by omega, hw⟩ ?_
    clear hw
    rintro μ2 ρ w ⟨k, hk, hρ, hall2, hw⟩
    rw [hρ.eq]
    repeat (first | refine byW ?_ | (refine byV ?_; intro w hw))
    refine W_cond rfl (fun h2 => ?_) (fun h2 => ?_)
    · have hkn : k < n2 := by simpa using h2
      obtain ⟨y, hy⟩ := get_lt (l := cs) (k := k) (by omega)
      have hcy := hok y (List.mem_of_getElem? hy)
      haveI : SlC Γ (.slice y.A y.N y.C) 1 (intRows y.Cores) := ⟨hcy⟩
      repeat (first | refine byW ?_ | (refine byV ?_; intro w hw))
      refine lAlloc ?_
      intro b8 w hw
      repeat (first | refine byW ?_ | (refine byV ?_; intro w hw))
      refine lStore ?_
      intro w hw
      have hw : Wd Γ (.blk b8 (.cells (cC y).toArray 65) :: .blk b6 (.cells (cC x).toArray 65) :: .blk b1 (hwC H a1 n1 c1 a2 n2 c2 a3 n3 c3 a4 n4 c4 a5 n5 c5) :: S) w := hw
      repeat (first | refine byW ?_ | (refine byV ?_; intro w hw))
      refine W_cond rfl (fun h3 => ?_) (fun h3 => ?_)
      · have hp : pairB i k x.T y.T = true := by
          have h3 : (decide ((i : Int) = k) || decide (y.Level < x.Level)) = true := h3
          unfold pairB CacheH.T
          rw [show decide (i = k) = decide ((i : Int) = k) from decide_eq_decide.2 (by omega)]
          rw [h3]; rfl
        repeat (first | refine byW ?_ | (refine byV ?_; intro w hw))
        exact ⟨μ2 - 1, by omega, k + 1, by omega, ⟨rfl, rfl, rfl, rfl, rfl, rfl, rfl, rfl, rfl, trivial⟩, allI_step (p := fun j b => pairB i j x.T b.T) hall2 hy hp, hw.drop⟩
      · have h3 : (decide ((i : Int) = k) || decide (y.Level < x.Level)) = false := h3
        repeat (first | refine byW ?_ | (refine byV ?_; intro w hw))
        refine W_loop (fun μ3 ρ w => ∃ (j : Nat), μ3 + j = x.N ∧ Has ρ [(1, .pointer (some ⟨b1, 0, none⟩)), (5, .int .i64 i), (6, .pointer (some ⟨b6, 0, none⟩)), (8, .pointer (some ⟨b8, 0, none⟩)), (9, .int .i64 (sharedN (x.Cores.take j) y.Cores)), (25, .slice a2 n2 c2), (26, .int .i64 n2), (27, .int .i64 i), (33, .slice a2 n2 c2), (34, .int .i64 n2), (35, .int .i64 k), (51, .slice x.A x.N x.C), (52, .int .i64 x.N), (53, .int .i64 j)] ∧ Wd Γ (.blk b8 (.cells (cC y).toArray 65) :: .blk b6 (.cells (cC x).toArray 65) :: .blk b1 (hwC H a1 n1 c1 a2 n2 c2 a3 n3 c3 a4 n4 c4 a5 n5 c5) :: S) w) x.N ⟨0, by omega, ⟨rfl, rfl, rfl, rfl, rfl, rfl, rfl, rfl, rfl, rfl, rfl, rfl, rfl, rfl, trivial⟩, hw⟩ ?_
        clear hw
        rintro μ3 ρ w ⟨j, hj, hρ, hw⟩
        rw [hρ.eq]
        have hle : sharedN (x.Cores.take j) y.Cores ≤ j := Nat.le_trans (List.length_filter_le _ _) (by simp; omega)
        repeat (first | refine byW ?_ | (refine byV ?_; intro w hw))
        refine W_cond rfl (fun h4 => ?_) (fun h4 => ?_)
        · have hjn : j < x.N := by simpa using h4
          obtain ⟨v, hv⟩ := get_lt (l := x.Cores) (k := j) (by omega)
          have hst : sharedN (x.Cores.take (j + 1)) y.Cores = sharedN (x.Cores.take j) y.Cores + (if memI v y.Cores = true then 1 else 0) := by
            unfold sharedN; rw [take_succ_of hv, List.filter_append, List.length_append]
            congr 1
            by_cases e : memI v y.Cores = true <;> simp [e]
          repeat (first | refine byW ?_ | (refine byV ?_; intro w hw))
          refine W_cond rfl (fun h5 => ?_) (fun h5 => ?_)
          · rw [if_pos h5] at hst
            repeat (first | refine byW ?_ | (refine byV ?_; intro w hw))
            exact ⟨μ3 - 1, by omega, j + 1, by omega, ⟨rfl, rfl, rfl, rfl, by rw [hst]; rfl, rfl, rfl, rfl, rfl, rfl, rfl, rfl, rfl, rfl, trivial⟩, hw⟩
          · rw [if_neg (by rw [h5]; simp)] at hst
            repeat (first | refine byW ?_ | (refine byV ?_; intro w hw))
            exact ⟨μ3 - 1, by omega, j + 1, by omega, ⟨rfl, rfl, rfl, rfl, by rw [hst]; rfl, rfl, rfl, rfl, rfl, rfl, rfl, rfl, rfl, rfl, trivial⟩, hw⟩
        · have hjn : ¬ j < x.N := by simpa using h4
          rw [List.take_of_length_le (by omega)]
          repeat (first | refine byW ?_ | (refine byV ?_; intro w hw))
          have key : pairB i k x.T y.T = !(decide ((0 : Int) < (sharedN x.Cores y.Cores : Nat)) && (decide (x.Level = y.Level) || decide (((sharedN x.Cores y.Cores : Nat) : Int) < x.N))) := by
            unfold pairB CacheH.T
            rw [show decide (i = k) = decide ((i : Int) = k) from decide_eq_decide.2 (by omega), h3]
            rw [show decide (0 < sharedN x.Cores y.Cores) = decide ((0 : Int) < (sharedN x.Cores y.Cores : Nat)) from decide_eq_decide.2 (by omega)]
            rw [show decide (sharedN x.Cores y.Cores < x.Cores.length) = decide (((sharedN x.Cores y.Cores : Nat) : Int) < x.N) from decide_eq_decide.2 (by omega)]
            rfl
          refine W_cond rfl (fun h6 => ?_) (fun h6 => ?_)
          · have hp : pairB i k x.T y.T = false := key.trans (congrArg (fun b => !b) h6)
            repeat (first | refine byW ?_ | (refine byV ?_; intro w hw))
            refine ⟨_, rfl, ret_b rfl ?_, hw.drop.drop.drop⟩
            refine (decP_f fun hP => ?_).symm
            rw [hP.2 i k x.T y.T (hget i x hx) (hget k y hy)] at hp; cases hp
          · have hp : pairB i k x.T y.T = true := key.trans (congrArg (fun b => !b) h6)
            repeat (first | refine byW ?_ | (refine byV ?_; intro w hw))
            exact ⟨μ2 - 1, by omega, k + 1, by omega, ⟨rfl, rfl, rfl, rfl, rfl, rfl, rfl, rfl, rfl, trivial⟩, allI_step (p := fun j b => pairB i j x.T b.T) hall2 hy hp, hw.drop⟩
    · have hkn : ¬ k < n2 := by simpa using h2
      repeat (first | refine byW ?_ | (refine byV ?_; intro w hw))
      refine ⟨μ - 1, by omega, i + 1, by omega, ⟨rfl, rfl, rfl, rfl, trivial⟩, fun i' j a b h1 ha hb => ?_, hw.drop⟩
      by_cases e : i' = i
      · subst e; rw [hx] at ha; cases ha
        exact hall2 j b (by have := (List.getElem?_eq_some_iff.1 hb).1; omega) hb
      · exact hall i' j a b (by omega) ha hb
  · have hin : ¬ i < n2 := by simpa using h
    repeat (first | refine byW ?_ | (refine byV ?_; intro w hw))
    refine ⟨_, rfl, ret_b rfl ?_, hw.drop⟩
    refine (decP_t ⟨fun c hc => ?_, fun p q a b ha hb => ?_⟩).symm
    · rw [← hcs] at hc
      obtain ⟨x, hx, rfl⟩ := List.mem_map.1 hc
      obtain ⟨q, hq, he⟩ := List.getElem_of_mem hx
      exact hsort q x (by rw [List.getElem?_eq_getElem hq, he])
    · rw [← hcs, List.getElem?_map] at ha hb
      obtain ⟨x, hx, rfl⟩ := Option.map_eq_some_iff.1 ha
      obtain ⟨y, hy, rfl⟩ := Option.map_eq_some_iff.1 hb
      exact hall p q x y (by have := (List.getElem?_eq_some_iff.1 hx).1; omega) hx hy⟩
end Go.Proofs.YtfbggkmlkkffbaaDoor
end
/- Validate's checks: regions do not overlap (loops printed by a program). -/
section
open Go Mk
namespace Go.Proofs.YtfbggkmlkkffbaaDoor
set_option maxHeartbeats 8000000
attribute [local irreducible] Calls
abbrev blkRows (l : List (Int × Int)) : List (List Value) := l.map fun p => [.int .u64 p.1, .int .u64 p.2]
def memBlk (m : MemT) : Int × Int := (m.Base, IntKind.u64.wrap (m.Base + m.Size))
def devBlk (m : DevT) : Int × Int := (m.Base, IntKind.u64.wrap (m.Base + m.Size))
def regs (H : HwT) : List (Int × Int) := H.Mems.map memBlk ++ H.Devs.map devBlk
def apartB (x y : Int × Int) : Bool := !(decide (x.1 < y.2) && decide (y.1 < x.2))
def DisjP (H : HwT) : Prop := ∀ (i k : Nat) (a b : Int × Int), k < i → (regs H)[i]? = some a → (regs H)[k]? = some b → apartB a b = true
noncomputable def disjB (H : HwT) : Bool := decP (DisjP H)
theorem rows_snocB {α : Type} {f : α → Int × Int} {l : List α} {L : List (Int × Int)} {k : Nat} {x : α} (hx : l[k]? = some x) : blkRows (L ++ (l.take k).map f) ++ [[.int .u64 (f x).1, .int .u64 (f x).2]] = blkRows (L ++ (l.take (k + 1)).map f) := by rw [take_succ_of hx]; simp [blkRows]
theorem rows_snocN {α : Type} {f : α → Int} {l : List α} {L : List Int} {k : Nat} {x : α} (hx : l[k]? = some x) : intRows (L ++ (l.take k).map f) ++ [[.int .i64 (f x)]] = intRows (L ++ (l.take (k + 1)).map f) := by rw [take_succ_of hx]; simp [intRows]
theorem disjoint_any {Γ : Gho} {S : List Res} {w : World} {u : Value} {H : HwT} [hh : HwR Γ u H] (hcnt : countsB H = true) (hw : Wd Γ S w) : Calls Tryd.prog 39 #[u] w fun e w' => e = .returned (.bool (disjB H)) ∧ Wd Γ S w' := by
  obtain ⟨-, l1, l2, l3, l4, l5⟩ := counts_le hcnt
  obtain ⟨a1, n1, c1, a2, n2, c2, a3, n3, c3, a4, n4, c4, a5, n5, c5, cs, rfl, hcs, hok, hsz, r1, r2, r3, r4, r5⟩ := hh.h
  obtain ⟨hn1, hm1, hx1⟩ := rep_facts r1
  obtain ⟨hn2, hm2, hx2⟩ := rep_facts r2
  obtain ⟨hn3, hm3, hx3⟩ := rep_facts r3
  obtain ⟨hn4, hm4, hx4⟩ := rep_facts r4
  obtain ⟨hn5, hm5, hx5⟩ := rep_facts r5
  simp only [List.length_map] at hn1 hn2 hn3 hn4 hn5
  refine calls_of_W Tryd.func39 rfl rfl ?_
  repeat (first | refine byW ?_ | (refine byV ?_; intro w hw))
  refine lBox ?_
  intro b1 w hw
  have hw : Wd Γ (.blk b1 (.cells #[.string H.Name, .slice a1 n1 c1, .slice a2 n2 c2, .slice a3 n3 c3, .slice a4 n4 c4, .slice a5 n5 c5] 30) :: S) w := hw
  obtain ⟨q, m, d, hq⟩ : ∃ (q : Option Addr) (m d : Nat), (.slice none 0 0 : Value) = .slice q m d := ⟨_, _, _, rfl⟩
  have hw : Wd Γ (.own (.slice none 0 0) 113 2 (blkRows []) :: .blk b1 (.cells #[.string H.Name, .slice a1 n1 c1, .slice a2 n2 c2, .slice a3 n3 c3, .slice a4 n4 c4, .slice a5 n5 c5] 30) :: S) w := Wd.addNil hw
  repeat (first | refine byW ?_ | (refine byV ?_; intro w hw))
  rw [hq] at *
  clear hq
  rw [show ([] : List (Int × Int)) = (([] : List (Int × Int)) ++ (H.Mems.take 0).map memBlk) from by simp] at hw
  repeat (first | refine byW ?_ | (refine byV ?_; intro w hw))
  refine W_loop (fun μ ρ w => ∃ (k : Nat) (q : Option Addr) (m d : Nat), μ + k = n4 ∧ Has ρ [(1, .pointer (some ⟨b1, 0, none⟩)), (3, .slice q m d), (11, .slice a4 n4 c4), (12, .int .i64 n4), (13, .int .i64 k)] ∧ Wd Γ (.own (.slice q m d) 113 2 (blkRows (([] : List (Int × Int)) ++ (H.Mems.take k).map memBlk)) :: .blk b1 (.cells #[.string H.Name, .slice a1 n1 c1, .slice a2 n2 c2, .slice a3 n3 c3, .slice a4 n4 c4, .slice a5 n5 c5] 30) :: S) w) n4 ⟨0, q, m, d, by omega, ⟨rfl, rfl, rfl, rfl, rfl, trivial⟩, hw⟩ ?_
  clear hw
  rintro μ ρ w ⟨k, q, m, d, hk, hρ, hw⟩
  have hm := own_len (i := 0) hw rfl
  simp only [blkRows, List.length_map, List.length_append, List.length_nil, List.length_take] at hm
  rw [hρ.eq]
  repeat (first | refine byW ?_ | (refine byV ?_; intro w hw))
  refine W_cond rfl (fun h => ?_) (fun h => ?_)
  · have hkn : k < n4 := by simpa using h
    obtain ⟨x, hx⟩ := get_lt (l := H.Mems) (k := k) (by omega)
    repeat (first | refine byW ?_ | (refine byV ?_; intro w hw))
    refine lAlloc ?_
    intro b9 w hw
    refine lStore ?_
    intro w hw
    have hw : Wd Γ (.blk b9 (.cells (enc x).toArray 46) :: .own (.slice q m d) 113 2 (blkRows (([] : List (Int × Int)) ++ (H.Mems.take k).map memBlk)) :: .blk b1 (.cells #[.string H.Name, .slice a1 n1 c1, .slice a2 n2 c2, .slice a3 n3 c3, .slice a4 n4 c4, .slice a5 n5 c5] 30) :: S) w := hw
    repeat (first | refine byW ?_ | (refine byV ?_; intro w hw))
    refine lBuildSlice [[.int .u64 (memBlk x).1, .int .u64 (memBlk x).2]] ?_
    intro ab w hw
    refine lApp (i := 2) (rows2 := [[.int .u64 (memBlk x).1, .int .u64 (memBlk x).2]]) ?_ (Wd.own_rd (i := 0) hw rfl)
    intro v' w hw
    obtain ⟨q', m', d', rfl, -, -, -⟩ := hw.own_shape (i := 2) rfl
    have hw : Wd Γ (.own (.slice q' m' d') 113 2 (blkRows (([] : List (Int × Int)) ++ (H.Mems.take (k + 1)).map memBlk)) :: .blk b1 (.cells #[.string H.Name, .slice a1 n1 c1, .slice a2 n2 c2, .slice a3 n3 c3, .slice a4 n4 c4, .slice a5 n5 c5] 30) :: S) w := by
      rw [← rows_snocB hx]; exact hw.drop.drop
    repeat (first | refine byW ?_ | (refine byV ?_; intro w hw))
    exact ⟨μ - 1, by omega, k + 1, _, _, _, by omega, ⟨rfl, rfl, rfl, rfl, rfl, trivial⟩, hw⟩
  have hkn : ¬ k < n4 := by simpa using h
  rw [List.take_of_length_le (l := H.Mems) (by omega)] at hw
  clear h hkn hρ hk hm
  rw [List.nil_append] at hw
  rw [show H.Mems.map memBlk = (H.Mems.map memBlk ++ (H.Devs.take 0).map devBlk) from by simp] at hw
  repeat (first | refine byW ?_ | (refine byV ?_; intro w hw))
  refine W_loop (fun μ ρ w => ∃ (k : Nat) (q : Option Addr) (m d : Nat), μ + k = n5 ∧ Has ρ [(1, .pointer (some ⟨b1, 0, none⟩)), (3, .slice q m d), (30, .slice a5 n5 c5), (31, .int .i64 n5), (32, .int .i64 k)] ∧ Wd Γ (.own (.slice q m d) 113 2 (blkRows (H.Mems.map memBlk ++ (H.Devs.take k).map devBlk)) :: .blk b1 (.cells #[.string H.Name, .slice a1 n1 c1, .slice a2 n2 c2, .slice a3 n3 c3, .slice a4 n4 c4, .slice a5 n5 c5] 30) :: S) w) n5 ⟨0, q, m, d, by omega, ⟨rfl, rfl, rfl, rfl, rfl, trivial⟩, hw⟩ ?_
  clear hw
  rintro μ ρ w ⟨k, q, m, d, hk, hρ, hw⟩
  have hm := own_len (i := 0) hw rfl
  simp only [blkRows, List.length_map, List.length_append, List.length_nil, List.length_take] at hm
  rw [hρ.eq]
  repeat (first | refine byW ?_ | (refine byV ?_; intro w hw))
  refine W_cond rfl (fun h => ?_) (fun h => ?_)
  · have hkn : k < n5 := by simpa using h
    obtain ⟨x, hx⟩ := get_lt (l := H.Devs) (k := k) (by omega)
    repeat (first | refine byW ?_ | (refine byV ?_; intro w hw))
    refine lAlloc ?_
    intro b9 w hw
    refine lStore ?_
    intro w hw
    have hw : Wd Γ (.blk b9 (.cells (enc x).toArray 62) :: .own (.slice q m d) 113 2 (blkRows (H.Mems.map memBlk ++ (H.Devs.take k).map devBlk)) :: .blk b1 (.cells #[.string H.Name, .slice a1 n1 c1, .slice a2 n2 c2, .slice a3 n3 c3, .slice a4 n4 c4, .slice a5 n5 c5] 30) :: S) w := hw
    repeat (first | refine byW ?_ | (refine byV ?_; intro w hw))
    refine lBuildSlice [[.int .u64 (devBlk x).1, .int .u64 (devBlk x).2]] ?_
    intro ab w hw
    refine lApp (i := 2) (rows2 := [[.int .u64 (devBlk x).1, .int .u64 (devBlk x).2]]) ?_ (Wd.own_rd (i := 0) hw rfl)
    intro v' w hw
    obtain ⟨q', m', d', rfl, -, -, -⟩ := hw.own_shape (i := 2) rfl
    have hw : Wd Γ (.own (.slice q' m' d') 113 2 (blkRows (H.Mems.map memBlk ++ (H.Devs.take (k + 1)).map devBlk)) :: .blk b1 (.cells #[.string H.Name, .slice a1 n1 c1, .slice a2 n2 c2, .slice a3 n3 c3, .slice a4 n4 c4, .slice a5 n5 c5] 30) :: S) w := by
      rw [← rows_snocB hx]; exact hw.drop.drop
    repeat (first | refine byW ?_ | (refine byV ?_; intro w hw))
    exact ⟨μ - 1, by omega, k + 1, _, _, _, by omega, ⟨rfl, rfl, rfl, rfl, rfl, trivial⟩, hw⟩
  have hkn : ¬ k < n5 := by simpa using h
  rw [List.take_of_length_le (l := H.Devs) (by omega)] at hw
  clear h hkn hρ hk hm
  have hw : Wd Γ (.own (.slice q m d) 113 2 (blkRows (regs H)) :: .blk b1 (.cells #[.string H.Name, .slice a1 n1 c1, .slice a2 n2 c2, .slice a3 n3 c3, .slice a4 n4 c4, .slice a5 n5 c5] 30) :: S) w := hw
  have hm := own_len (i := 0) hw rfl
  simp only [blkRows, List.length_map] at hm
  have hmb : m ≤ 96 := by rw [hm]; simp [regs]; omega
  repeat (first | refine byW ?_ | (refine byV ?_; intro w hw))
  refine W_loop (fun μ ρ w => ∃ (i : Nat), μ + i = m ∧ Has ρ [(3, .slice q m d), (49, .int .i64 m), (50, .int .i64 i)] ∧ (∀ (i' k : Nat) (a b : Int × Int), i' < i → k < i' → (regs H)[i']? = some a → (regs H)[k]? = some b → apartB a b = true) ∧ Wd Γ (.own (.slice q m d) 113 2 (blkRows (regs H)) :: .blk b1 (.cells #[.string H.Name, .slice a1 n1 c1, .slice a2 n2 c2, .slice a3 n3 c3, .slice a4 n4 c4, .slice a5 n5 c5] 30) :: S) w) m ⟨0, by omega, ⟨rfl, rfl, rfl, trivial⟩, fun i' k a b h => by omega, hw⟩ ?_
  clear hw
  rintro μ ρ w ⟨i, hi, hρ, hall, hw⟩
  rw [hρ.eq]
  repeat (first | refine byW ?_ | (refine byV ?_; intro w hw))
  refine W_cond rfl (fun h => ?_) (fun h => ?_)
  · have hin : i < m := by simpa using h
    obtain ⟨x, hx⟩ := get_lt (l := regs H) (k := i) (by omega)
    repeat (first | refine byW ?_ | (refine byV ?_; intro w hw))
    refine W_loop (fun μ2 ρ w => ∃ (k : Nat), μ2 + k = i ∧ Has ρ [(3, .slice q m d), (8, .int .i64 i), (9, .int .i64 k), (49, .int .i64 m), (50, .int .i64 i)] ∧ (∀ (j : Nat) (b : Int × Int), j < k → (regs H)[j]? = some b → apartB x b = true) ∧ Wd Γ (.own (.slice q m d) 113 2 (blkRows (regs H)) :: .blk b1 (.cells #[.string H.Name, .slice a1 n1 c1, .slice a2 n2 c2, .slice a3 n3 c3, .slice a4 n4 c4, .slice a5 n5 c5] 30) :: S) w) i ⟨0, by omega, ⟨rfl, rfl, rfl, rfl, rfl, trivial⟩, fun j b h => by omega, hw⟩ ?_
    clear hw
    rintro μ2 ρ w ⟨k, hk, hρ, hall2, hw⟩
    rw [hρ.eq]
    repeat (first | refine byW ?_ | (refine byV ?_; intro w hw))
    refine W_cond rfl (fun h2 => ?_) (fun h2 => ?_)
    · have hki : k < i := by simpa using h2
      obtain ⟨y, hy⟩ := get_lt (l := regs H) (k := k) (by omega)
      repeat (first | refine byW ?_ | (refine byV ?_; intro w hw))
      refine W_quiet (by kernel_rfl) (by kernel_rfl) hw ?_
      repeat (first | refine Q_nil ?_ | (apply Q_plain; first | (apply Q_go; first | refine qP ?_ | refine qPg ?_) | refine qY ?_) | (apply Q_guarded; first | (apply Q_go; first | refine qPG ?_ | refine qPgG ?_) | refine qG ?_))
      intro w hw
      refine W_cond rfl (fun h3 => ?_) (fun h3 => ?_)
      · have hp : apartB x y = false := by unfold apartB; exact congrArg (fun b => !b) h3
        repeat (first | refine byW ?_ | (refine byV ?_; intro w hw))
        refine ⟨_, rfl, ret_b rfl ?_, hw.drop.drop⟩
        refine (decP_f fun hP => ?_).symm
        rw [hP i k x y hki hx hy] at hp; cases hp
      · have hp : apartB x y = true := by unfold apartB; exact congrArg (fun b => !b) h3
        repeat (first | refine byW ?_ | (refine byV ?_; intro w hw))
        exact ⟨μ2 - 1, by omega, k + 1, by omega, ⟨rfl, rfl, rfl, rfl, rfl, trivial⟩, all_step hall2 hy hp, hw⟩
    · have hki : ¬ k < i := by simpa using h2
      repeat (first | refine byW ?_ | (refine byV ?_; intro w hw))
      refine ⟨μ - 1, by omega, i + 1, by omega, ⟨rfl, rfl, rfl, trivial⟩, fun i' j a b h1 h3 ha hb => ?_, hw⟩
      by_cases e : i' = i
      · subst e; rw [hx] at ha; cases ha
        exact hall2 j b (by omega) hb
      · exact hall i' j a b (by omega) h3 ha hb
  · have hin : ¬ i < m := by simpa using h
    repeat (first | refine byW ?_ | (refine byV ?_; intro w hw))
    refine ⟨_, rfl, ret_b rfl ?_, hw.drop.drop⟩
    exact (decP_t fun p q a b hpq ha hb => hall p q a b (by have := (List.getElem?_eq_some_iff.1 ha).1; omega) hpq ha hb).symm

/-! ### connected nodes -/
inductive Reach (ls : List LinkT) (s : Int) : Int → Prop
  | refl : Reach ls s s
  | ab {l : LinkT} : l ∈ ls → Reach ls s l.A → Reach ls s l.B
  | ba {l : LinkT} : l ∈ ls → Reach ls s l.B → Reach ls s l.A
def usedN (H : HwT) : List Int := (H.Cores.map (fun c => c.Node) ++ H.Mems.map (fun c => c.Node)) ++ H.Devs.map (fun c => c.Node)
def ConnP (H : HwT) : Prop := ∀ n ∈ usedN H, Reach H.Links ((usedN H).headD 0) n
noncomputable def connB (H : HwT) : Bool := decP (ConnP H)
theorem head_used {H : HwT} {s0 : Int} (h : (usedN H)[0]? = some s0) : (usedN H).headD 0 = s0 := by
  cases hu : usedN H with
  | nil => rw [hu] at h; cases h
  | cons a l => rw [hu] at h; simpa using h
theorem nodes_in {H : HwT} (h1 : coresRB H = true) (h2 : regionsRB H = true) : (∀ n ∈ usedN H, 0 ≤ n ∧ n < 64) ∧ ∀ l ∈ H.Links, 0 ≤ l.A ∧ l.A < 64 ∧ 0 ≤ l.B ∧ l.B < 64 := by
  unfold coresRB at h1
  unfold regionsRB at h2
  simp only [Bool.and_eq_true, List.all_eq_true] at h1 h2
  obtain ⟨hc, -, hl⟩ := h1
  obtain ⟨hm, hd⟩ := h2
  refine ⟨fun n hn => ?_, fun l hl' => ?_⟩
  · unfold usedN at hn
    simp only [List.mem_append, List.mem_map] at hn
    rcases hn with (⟨c, hcm, rfl⟩ | ⟨c, hcm, rfl⟩) | ⟨c, hcm, rfl⟩
    · have := hc c hcm; simp [coreRB, isNodeB] at this; omega
    · have := hm c hcm; simp [memRB, isNodeB] at this; omega
    · have := hd c hcm; simp [devRB, isNodeB] at this; omega
  · have := hl l hl'; simp [linkRB, isNodeB] at this; omega
structure Known (ls : List LinkT) (s : Int) (R : List Bool) : Prop where
  len : R.length = 64
  ok : ∀ (j : Nat), R[j]? = some true → ∃ n : Int, n.toNat = j ∧ 0 ≤ n ∧ Reach ls s n
theorem known_start {ls : List LinkT} {s : Int} (h : 0 ≤ s ∧ s < 64) : Known ls s ((List.replicate 64 false).set s.toNat true) := ⟨by simp, fun j hj => by
  rw [List.getElem?_set] at hj
  split at hj
  · rename_i e; exact ⟨s, e, h.1, .refl⟩
  · rw [List.getElem?_replicate] at hj
    split at hj <;> simp at hj⟩
theorem Known.set {ls : List LinkT} {s n : Int} {R : List Bool} (h : Known ls s R) (hn : 0 ≤ n) (hr : Reach ls s n) : Known ls s (R.set n.toNat true) := ⟨by simp [h.len], fun j hj => by
  rw [List.getElem?_set] at hj
  split at hj
  · rename_i e; exact ⟨n, e, hn, hr⟩
  · exact h.ok j hj⟩
theorem known_iff {ls : List LinkT} {s n : Int} {R : List Bool} (h : Known ls s R) (h0 : R[s.toNat]? = some true) (hs : 0 ≤ s) (hL : ∀ l ∈ ls, 0 ≤ l.A ∧ l.A < 64 ∧ 0 ≤ l.B ∧ l.B < 64) (hcl : ∀ l ∈ ls, R.getD l.A.toNat false = R.getD l.B.toNat false) (hn : 0 ≤ n ∧ n < 64) : R.getD n.toNat false = true ↔ Reach ls s n := by
  constructor
  · intro hg
    rw [List.getD_eq_getElem?_getD] at hg
    obtain ⟨b, hb⟩ := get_lt (l := R) (k := n.toNat) (by rw [h.len]; omega)
    rw [hb] at hg
    have hg : b = true := hg
    subst hg
    obtain ⟨x, hx, hx0, hr⟩ := h.ok _ hb
    have : x = n := by omega
    subst this; exact hr
  · intro hr
    clear hn
    induction hr with
    | refl => rw [List.getD_eq_getElem?_getD, h0]; rfl
    | ab hl _ ih => rw [← hcl _ hl]; exact ih
    | ba hl _ ih => rw [hcl _ hl]; exact ih
theorem set_self {R : List Bool} {k : Nat} {b : Bool} (h : k < R.length) : (R.set k b)[k]? = some b := by rw [List.getElem?_set_self h]
theorem getBool {R : List Bool} {k : Nat} {b : Bool} (h : R[k]? = some b) : ((R.map Value.bool).toArray)[0 + k * 1]? = some (.bool b) := by simp [h]
theorem putBool {R : List Bool} {k : Nat} {b : Bool} (h : k < R.length) : putCells (R.map Value.bool).toArray (0 + k * 1) [.bool b] = ((R.set k b).map Value.bool).toArray := by
  unfold putCells
  rw [Nat.zero_add, Nat.mul_one, List.set_eq_take_append_cons_drop, if_pos h]
  simp
theorem y_neqlb {P : Program} {d : Option Tmp} {T U ty : TypeId} {pos : String} {es : Array Edge} {g : Option (Nat × Bool)} {x y : Operand} {ρ : Fr} {w : World} {a b : Bool} (hT : P.underlying T = some .bool) (hx : ev ρ x = .bool a) (hy : ev ρ y = .bool b) : Mk.Yields P ⟨d, .binOp .neq T x y U, ty, pos, es, g⟩ ρ w (.bool (a != b)) := by
  unfold Mk.Yields; simp [execOp, go_sem, hx, hy, hT]; cases a <;> cases b <;> rfl
theorem count_set_le {R : List Bool} {k : Nat} : (R.set k true).count false ≤ R.count false := by
  induction R generalizing k with
  | nil => simp
  | cons b l ih =>
    cases k with
    | zero => cases b <;> simp
    | succ k => simp only [List.set_cons_succ, List.count_cons]; have := ih (k := k); omega
theorem count_set_lt {R : List Bool} {k : Nat} (h : R[k]? = some false) : (R.set k true).count false + 1 ≤ R.count false := by
  induction R generalizing k with
  | nil => simp at h
  | cons b l ih =>
    cases k with
    | zero => simp at h; subst h; simp
    | succ k => simp at h; simp only [List.set_cons_succ, List.count_cons]; have := ih (k := k) (by simpa using h); omega
theorem connected_any {Γ : Gho} {S : List Res} {w : World} {u : Value} {H : HwT} [hh : HwR Γ u H] (hcnt : countsB H = true) (hcr : coresRB H = true) (hrr : regionsRB H = true) (hw : Wd Γ S w) : Calls Tryd.prog 40 #[u] w fun e w' => e = .returned (.bool (connB H)) ∧ Wd Γ S w' := by
  obtain ⟨l0, l1, l2, l3, l4, l5⟩ := counts_le hcnt
  obtain ⟨hNd, hLk⟩ := nodes_in hcr hrr
  obtain ⟨a1, n1, c1, a2, n2, c2, a3, n3, c3, a4, n4, c4, a5, n5, c5, cs, rfl, hcs, hok, hsz, r1, r2, r3, r4, r5⟩ := hh.h
  obtain ⟨hn1, hm1, hx1⟩ := rep_facts r1
  obtain ⟨hn2, hm2, hx2⟩ := rep_facts r2
  obtain ⟨hn3, hm3, hx3⟩ := rep_facts r3
  obtain ⟨hn4, hm4, hx4⟩ := rep_facts r4
  obtain ⟨hn5, hm5, hx5⟩ := rep_facts r5
  simp only [List.length_map] at hn1 hn2 hn3 hn4 hn5
  refine calls_of_W Tryd.func40 rfl rfl ?_
  repeat (first | refine byW ?_ | (refine byV ?_; intro w hw))
  refine lBox ?_
  intro b1 w hw
  have hw : Wd Γ (.blk b1 (.cells #[.string H.Name, .slice a1 n1 c1, .slice a2 n2 c2, .slice a3 n3 c3, .slice a4 n4 c4, .slice a5 n5 c5] 30) :: S) w := hw
  obtain ⟨q, m, d, hq⟩ : ∃ (q : Option Addr) (m d : Nat), (.slice none 0 0 : Value) = .slice q m d := ⟨_, _, _, rfl⟩
  have hw : Wd Γ (.own (.slice none 0 0) 3 1 (intRows []) :: .blk b1 (.cells #[.string H.Name, .slice a1 n1 c1, .slice a2 n2 c2, .slice a3 n3 c3, .slice a4 n4 c4, .slice a5 n5 c5] 30) :: S) w := Wd.addNil hw
  repeat (first | refine byW ?_ | (refine byV ?_; intro w hw))
  rw [hq] at *
  clear hq
  rw [show ([] : List Int) = (([] : List Int) ++ (H.Cores.take 0).map (fun c => c.Node)) from by simp] at hw
  repeat (first | refine byW ?_ | (refine byV ?_; intro w hw))
  refine W_loop (fun μ ρ w => ∃ (k : Nat) (q : Option Addr) (m d : Nat), μ + k = n1 ∧ Has ρ [(1, .pointer (some ⟨b1, 0, none⟩)), (3, .slice q m d), (17, .slice a1 n1 c1), (18, .int .i64 n1), (19, .int .i64 k)] ∧ Wd Γ (.own (.slice q m d) 3 1 (intRows (([] : List Int) ++ (H.Cores.take k).map (fun c => c.Node))) :: .blk b1 (.cells #[.string H.Name, .slice a1 n1 c1, .slice a2 n2 c2, .slice a3 n3 c3, .slice a4 n4 c4, .slice a5 n5 c5] 30) :: S) w) n1 ⟨0, q, m, d, by omega, ⟨rfl, rfl, rfl, rfl, rfl, trivial⟩, hw⟩ ?_
  clear hw
  rintro μ ρ w ⟨k, q, m, d, hk, hρ, hw⟩
  have hm := own_len (i := 0) hw rfl
  simp only [intRows, List.length_map, List.length_append, List.length_nil, List.length_take] at hm
  rw [hρ.eq]
  repeat (first | refine byW ?_ | (refine byV ?_; intro w hw))
  refine W_cond rfl (fun h => ?_) (fun h => ?_)
  · have hkn : k < n1 := by simpa using h
    obtain ⟨x, hx⟩ := get_lt (l := H.Cores) (k := k) (by omega)
    repeat (first | refine byW ?_ | (refine byV ?_; intro w hw))
    refine lAlloc ?_
    intro b9 w hw
    refine lStore ?_
    intro w hw
    have hw : Wd Γ (.blk b9 (.cells (enc x).toArray 53) :: .own (.slice q m d) 3 1 (intRows (([] : List Int) ++ (H.Cores.take k).map (fun c => c.Node))) :: .blk b1 (.cells #[.string H.Name, .slice a1 n1 c1, .slice a2 n2 c2, .slice a3 n3 c3, .slice a4 n4 c4, .slice a5 n5 c5] 30) :: S) w := hw
    repeat (first | refine byW ?_ | (refine byV ?_; intro w hw))
    refine lBuildSlice [[.int .i64 x.Node]] ?_
    intro ab w hw
    refine lApp (i := 2) (rows2 := [[.int .i64 x.Node]]) ?_ (Wd.own_rd (i := 0) hw rfl)
    intro v' w hw
    obtain ⟨q', m', d', rfl, -, -, -⟩ := hw.own_shape (i := 2) rfl
    have hw : Wd Γ (.own (.slice q' m' d') 3 1 (intRows (([] : List Int) ++ (H.Cores.take (k + 1)).map (fun c => c.Node))) :: .blk b1 (.cells #[.string H.Name, .slice a1 n1 c1, .slice a2 n2 c2, .slice a3 n3 c3, .slice a4 n4 c4, .slice a5 n5 c5] 30) :: S) w := by
      rw [← rows_snocN (f := fun c : CoreT => c.Node) hx]; exact hw.drop.drop
    repeat (first | refine byW ?_ | (refine byV ?_; intro w hw))
    exact ⟨μ - 1, by omega, k + 1, _, _, _, by omega, ⟨rfl, rfl, rfl, rfl, rfl, trivial⟩, hw⟩
  have hkn : ¬ k < n1 := by simpa using h
  rw [List.take_of_length_le (l := H.Cores) (by omega)] at hw
  clear h hkn hρ hk hm
  rw [List.nil_append] at hw
  rw [show H.Cores.map (fun c => c.Node) = (H.Cores.map (fun c => c.Node) ++ (H.Mems.take 0).map (fun c => c.Node)) from by simp] at hw
  repeat (first | refine byW ?_ | (refine byV ?_; intro w hw))
  refine W_loop (fun μ ρ w => ∃ (k : Nat) (q : Option Addr) (m d : Nat), μ + k = n4 ∧ Has ρ [(1, .pointer (some ⟨b1, 0, none⟩)), (3, .slice q m d), (30, .slice a4 n4 c4), (31, .int .i64 n4), (32, .int .i64 k)] ∧ Wd Γ (.own (.slice q m d) 3 1 (intRows (H.Cores.map (fun c => c.Node) ++ (H.Mems.take k).map (fun c => c.Node))) :: .blk b1 (.cells #[.string H.Name, .slice a1 n1 c1, .slice a2 n2 c2, .slice a3 n3 c3, .slice a4 n4 c4, .slice a5 n5 c5] 30) :: S) w) n4 ⟨0, q, m, d, by omega, ⟨rfl, rfl, rfl, rfl, rfl, trivial⟩, hw⟩ ?_
  clear hw
  rintro μ ρ w ⟨k, q, m, d, hk, hρ, hw⟩
  have hm := own_len (i := 0) hw rfl
  simp only [intRows, List.length_map, List.length_append, List.length_nil, List.length_take] at hm
  rw [hρ.eq]
  repeat (first | refine byW ?_ | (refine byV ?_; intro w hw))
  refine W_cond rfl (fun h => ?_) (fun h => ?_)
  · have hkn : k < n4 := by simpa using h
    obtain ⟨x, hx⟩ := get_lt (l := H.Mems) (k := k) (by omega)
    repeat (first | refine byW ?_ | (refine byV ?_; intro w hw))
    refine lAlloc ?_
    intro b9 w hw
    refine lStore ?_
    intro w hw
    have hw : Wd Γ (.blk b9 (.cells (enc x).toArray 46) :: .own (.slice q m d) 3 1 (intRows (H.Cores.map (fun c => c.Node) ++ (H.Mems.take k).map (fun c => c.Node))) :: .blk b1 (.cells #[.string H.Name, .slice a1 n1 c1, .slice a2 n2 c2, .slice a3 n3 c3, .slice a4 n4 c4, .slice a5 n5 c5] 30) :: S) w := hw
    repeat (first | refine byW ?_ | (refine byV ?_; intro w hw))
    refine lBuildSlice [[.int .i64 x.Node]] ?_
    intro ab w hw
    refine lApp (i := 2) (rows2 := [[.int .i64 x.Node]]) ?_ (Wd.own_rd (i := 0) hw rfl)
    intro v' w hw
    obtain ⟨q', m', d', rfl, -, -, -⟩ := hw.own_shape (i := 2) rfl
    have hw : Wd Γ (.own (.slice q' m' d') 3 1 (intRows (H.Cores.map (fun c => c.Node) ++ (H.Mems.take (k + 1)).map (fun c => c.Node))) :: .blk b1 (.cells #[.string H.Name, .slice a1 n1 c1, .slice a2 n2 c2, .slice a3 n3 c3, .slice a4 n4 c4, .slice a5 n5 c5] 30) :: S) w := by
      rw [← rows_snocN (f := fun c : MemT => c.Node) hx]; exact hw.drop.drop
    repeat (first | refine byW ?_ | (refine byV ?_; intro w hw))
    exact ⟨μ - 1, by omega, k + 1, _, _, _, by omega, ⟨rfl, rfl, rfl, rfl, rfl, trivial⟩, hw⟩
  have hkn : ¬ k < n4 := by simpa using h
  rw [List.take_of_length_le (l := H.Mems) (by omega)] at hw
  clear h hkn hρ hk hm
  rw [show (H.Cores.map (fun c => c.Node) ++ H.Mems.map (fun c => c.Node)) = ((H.Cores.map (fun c => c.Node) ++ H.Mems.map (fun c => c.Node)) ++ (H.Devs.take 0).map (fun c => c.Node)) from by simp] at hw
  repeat (first | refine byW ?_ | (refine byV ?_; intro w hw))
  refine W_loop (fun μ ρ w => ∃ (k : Nat) (q : Option Addr) (m d : Nat), μ + k = n5 ∧ Has ρ [(1, .pointer (some ⟨b1, 0, none⟩)), (3, .slice q m d), (43, .slice a5 n5 c5), (44, .int .i64 n5), (45, .int .i64 k)] ∧ Wd Γ (.own (.slice q m d) 3 1 (intRows ((H.Cores.map (fun c => c.Node) ++ H.Mems.map (fun c => c.Node)) ++ (H.Devs.take k).map (fun c => c.Node))) :: .blk b1 (.cells #[.string H.Name, .slice a1 n1 c1, .slice a2 n2 c2, .slice a3 n3 c3, .slice a4 n4 c4, .slice a5 n5 c5] 30) :: S) w) n5 ⟨0, q, m, d, by omega, ⟨rfl, rfl, rfl, rfl, rfl, trivial⟩, hw⟩ ?_
  clear hw
  rintro μ ρ w ⟨k, q, m, d, hk, hρ, hw⟩
  have hm := own_len (i := 0) hw rfl
  simp only [intRows, List.length_map, List.length_append, List.length_nil, List.length_take] at hm
  rw [hρ.eq]
  repeat (first | refine byW ?_ | (refine byV ?_; intro w hw))
  refine W_cond rfl (fun h => ?_) (fun h => ?_)
  · have hkn : k < n5 := by simpa using h
    obtain ⟨x, hx⟩ := get_lt (l := H.Devs) (k := k) (by omega)
    repeat (first | refine byW ?_ | (refine byV ?_; intro w hw))
    refine lAlloc ?_
    intro b9 w hw
    refine lStore ?_
    intro w hw
    have hw : Wd Γ (.blk b9 (.cells (enc x).toArray 62) :: .own (.slice q m d) 3 1 (intRows ((H.Cores.map (fun c => c.Node) ++ H.Mems.map (fun c => c.Node)) ++ (H.Devs.take k).map (fun c => c.Node))) :: .blk b1 (.cells #[.string H.Name, .slice a1 n1 c1, .slice a2 n2 c2, .slice a3 n3 c3, .slice a4 n4 c4, .slice a5 n5 c5] 30) :: S) w := hw
    repeat (first | refine byW ?_ | (refine byV ?_; intro w hw))
    refine lBuildSlice [[.int .i64 x.Node]] ?_
    intro ab w hw
    refine lApp (i := 2) (rows2 := [[.int .i64 x.Node]]) ?_ (Wd.own_rd (i := 0) hw rfl)
    intro v' w hw
    obtain ⟨q', m', d', rfl, -, -, -⟩ := hw.own_shape (i := 2) rfl
    have hw : Wd Γ (.own (.slice q' m' d') 3 1 (intRows ((H.Cores.map (fun c => c.Node) ++ H.Mems.map (fun c => c.Node)) ++ (H.Devs.take (k + 1)).map (fun c => c.Node))) :: .blk b1 (.cells #[.string H.Name, .slice a1 n1 c1, .slice a2 n2 c2, .slice a3 n3 c3, .slice a4 n4 c4, .slice a5 n5 c5] 30) :: S) w := by
      rw [← rows_snocN (f := fun c : DevT => c.Node) hx]; exact hw.drop.drop
    repeat (first | refine byW ?_ | (refine byV ?_; intro w hw))
    exact ⟨μ - 1, by omega, k + 1, _, _, _, by omega, ⟨rfl, rfl, rfl, rfl, rfl, trivial⟩, hw⟩
  have hkn : ¬ k < n5 := by simpa using h
  rw [List.take_of_length_le (l := H.Devs) (by omega)] at hw
  clear h hkn hρ hk hm
  have hw : Wd Γ (.own (.slice q m d) 3 1 (intRows (usedN H)) :: .blk b1 (.cells #[.string H.Name, .slice a1 n1 c1, .slice a2 n2 c2, .slice a3 n3 c3, .slice a4 n4 c4, .slice a5 n5 c5] 30) :: S) w := hw
  have hm := own_len (i := 0) hw rfl
  simp only [intRows, List.length_map] at hm
  have hmb : 1 ≤ m ∧ m ≤ 128 := by rw [hm]; simp [usedN]; omega
  obtain ⟨s0, hs0⟩ := get_lt (l := usedN H) (k := 0) (by omega)
  obtain ⟨hs1, hs2⟩ := hNd s0 (List.mem_of_getElem? hs0)
  repeat (first | refine byW ?_ | (refine byV ?_; intro w hw))
  refine lAlloc ?_
  intro b10 w hw
  have hw : Wd Γ (.blk b10 (.cells ((List.replicate 64 false).map Value.bool).toArray 114) :: .own (.slice q m d) 3 1 (intRows (usedN H)) :: .blk b1 (.cells #[.string H.Name, .slice a1 n1 c1, .slice a2 n2 c2, .slice a3 n3 c3, .slice a4 n4 c4, .slice a5 n5 c5] 30) :: S) w := hw
  repeat (first | refine byW ?_ | (refine byV ?_; intro w hw))
  refine lStore (o := 0 + s0.toNat * 1) (ho := by simp; omega) ?_
  intro w hw
  have hw : Wd Γ (.blk b10 (.cells (putCells ((List.replicate 64 false).map Value.bool).toArray (0 + s0.toNat * 1) [.bool true]) 114) :: .own (.slice q m d) 3 1 (intRows (usedN H)) :: .blk b1 (.cells #[.string H.Name, .slice a1 n1 c1, .slice a2 n2 c2, .slice a3 n3 c3, .slice a4 n4 c4, .slice a5 n5 c5] 30) :: S) w := hw
  rw [putBool (by simp; omega)] at hw
  repeat (first | refine byW ?_ | (refine byV ?_; intro w hw))
  have hst : Known H.Links s0 ((List.replicate 64 false).set s0.toNat true) := known_start (by omega)
  refine W_loop (fun μ ρ w => ∃ (R : List Bool) (ch : Bool), 2 * R.count false + (if ch = true then 1 else 0) ≤ μ ∧ Known H.Links s0 R ∧ R[s0.toNat]? = some true ∧ (ch = false → ∀ l ∈ H.Links, R.getD l.A.toNat false = R.getD l.B.toNat false) ∧ Has ρ [(1, .pointer (some ⟨b1, 0, none⟩)), (3, .slice q m d), (10, .pointer (some ⟨b10, 0, none⟩)), (11, .bool ch)] ∧ Wd Γ (.blk b10 (.cells ((R).map Value.bool).toArray 114) :: .own (.slice q m d) 3 1 (intRows (usedN H)) :: .blk b1 (.cells #[.string H.Name, .slice a1 n1 c1, .slice a2 n2 c2, .slice a3 n3 c3, .slice a4 n4 c4, .slice a5 n5 c5] 30) :: S) w) 200 ⟨_, true, by have := List.count_le_length (a := false) (l := (List.replicate 64 false).set s0.toNat true); simp at this ⊢; omega, hst, set_self (by simp; omega), (fun h => by cases h), ⟨rfl, rfl, rfl, rfl, trivial⟩, hw⟩ ?_
  clear hw
  rintro μ ρ w ⟨R, ch, hμ, hkn, hR0, hcl, hρ, hw⟩
  have hRl := hkn.len
  rw [hρ.eq]
  repeat (first | refine byW ?_ | (refine byV ?_; intro w hw))
  refine W_cond rfl (fun h => ?_) (fun h => ?_)
  · subst h
    clear hcl
    repeat (first | refine byW ?_ | (refine byV ?_; intro w hw))
    refine W_loop (fun μ2 ρ w => ∃ (k : Nat) (R2 : List Bool) (ch : Bool), μ2 + k = n3 ∧ Known H.Links s0 R2 ∧ R2[s0.toNat]? = some true ∧ 2 * R2.count false + (if ch = true then 1 else 0) + 1 ≤ 2 * R.count false + 1 ∧ (ch = false → ∀ (i : Nat) (l : LinkT), i < k → H.Links[i]? = some l → R2.getD l.A.toNat false = R2.getD l.B.toNat false) ∧ Has ρ [(1, .pointer (some ⟨b1, 0, none⟩)), (3, .slice q m d), (10, .pointer (some ⟨b10, 0, none⟩)), (11, .bool ch), (61, .slice a3 n3 c3), (62, .int .i64 n3), (63, .int .i64 k)] ∧ Wd Γ (.blk b10 (.cells ((R2).map Value.bool).toArray 114) :: .own (.slice q m d) 3 1 (intRows (usedN H)) :: .blk b1 (.cells #[.string H.Name, .slice a1 n1 c1, .slice a2 n2 c2, .slice a3 n3 c3, .slice a4 n4 c4, .slice a5 n5 c5] 30) :: S) w) n3 ⟨0, R, false, by omega, hkn, hR0, by simp, fun _ i l h => by omega, ⟨rfl, rfl, rfl, rfl, rfl, rfl, rfl, trivial⟩, hw⟩ ?_
    clear hw hkn hR0 hRl
    rintro μ2 ρ w ⟨k, R2, ch, hk, hkn, hR0, hcnt2, hcl, hρ, hw⟩
    have hRl := hkn.len
    rw [hρ.eq]
    repeat (first | refine byW ?_ | (refine byV ?_; intro w hw))
    refine W_cond rfl (fun h2 => ?_) (fun h2 => ?_)
    · have hkn3 : k < n3 := by simpa using h2
      obtain ⟨x, hx⟩ := get_lt (l := H.Links) (k := k) (by omega)
      obtain ⟨hA0, hA1, hB0, hB1⟩ := hLk x (List.mem_of_getElem? hx)
      obtain ⟨ba, hba⟩ := get_lt (l := R2) (k := x.A.toNat) (by omega)
      obtain ⟨bb, hbb⟩ := get_lt (l := R2) (k := x.B.toNat) (by omega)
      repeat (first | refine byW ?_ | (refine byV ?_; intro w hw))
      refine lAlloc ?_
      intro b13 w hw
      refine lStore ?_
      intro w hw
      have hw : Wd Γ (.blk b13 (.cells (enc x).toArray 60) :: .blk b10 (.cells ((R2).map Value.bool).toArray 114) :: .own (.slice q m d) 3 1 (intRows (usedN H)) :: .blk b1 (.cells #[.string H.Name, .slice a1 n1 c1, .slice a2 n2 c2, .slice a3 n3 c3, .slice a4 n4 c4, .slice a5 n5 c5] 30) :: S) w := hw
      repeat (first | refine byW ?_ | (refine byV ?_; intro w hw))
      refine W_quiet (by kernel_rfl) (by kernel_rfl) hw ?_
      repeat (first | refine Q_nil ?_ | (apply Q_plain; first | (apply Q_go; first | refine qP ?_ | refine qPg ?_) | refine qY ?_) | (apply Q_guarded; first | (apply Q_go; first | refine qPG ?_ | refine qPgG ?_) | refine qG ?_))
      refine qY (v := .bool ba) ?_ (hy := fun w hw => y_l1b (i := 1) hw rfl rfl (getBool hba))
      repeat (first | refine Q_nil ?_ | (apply Q_plain; first | (apply Q_go; first | refine qP ?_ | refine qPg ?_) | refine qY ?_) | (apply Q_guarded; first | (apply Q_go; first | refine qPG ?_ | refine qPgG ?_) | refine qG ?_))
      refine qY (v := .bool bb) ?_ (hy := fun w hw => y_l1b (i := 1) hw rfl rfl (getBool hbb))
      repeat (first | refine Q_nil ?_ | (apply Q_plain; first | (apply Q_go; first | refine qP ?_ | refine qPg ?_) | refine qY ?_) | (apply Q_guarded; first | (apply Q_go; first | refine qPG ?_ | refine qPgG ?_) | refine qG ?_))
      refine qY (v := .bool (ba != bb)) ?_ (hy := fun w hw => y_neqlb Tryd.underlying4 rfl rfl)
      repeat (first | refine Q_nil ?_ | (apply Q_plain; first | (apply Q_go; first | refine qP ?_ | refine qPg ?_) | refine qY ?_) | (apply Q_guarded; first | (apply Q_go; first | refine qPG ?_ | refine qPgG ?_) | refine qG ?_))
      clear hw
      intro w hw
      refine W_cond rfl (fun h3 => ?_) (fun h3 => ?_)
      · repeat (first | refine byW ?_ | (refine byV ?_; intro w hw))
        refine W_mix1 [.blk b13 _] (.blk b10 _ :: .own _ _ _ _ :: .blk b1 _ :: S) [[],[],[],[],[],[0],[],[0]] [[],[],[],[],[],[0],[],[0]] hw ?_
        repeat (first | refine mY ?_ | refine mP ?_ | refine mPg ?_)
        refine mStoreC (o := 0 + x.A.toNat * 1) (ho := by simp; omega) ?_
        repeat (first | refine mY ?_ | refine mP ?_ | refine mPg ?_)
        refine mStoreC (o := 0 + x.B.toNat * 1) (ho := by
          show _ ≤ (putCells (R2.map Value.bool).toArray (0 + x.A.toNat * 1) [.bool true]).size
          rw [putBool (by omega)]; simp; omega) ?_
        refine mEnd0 ?_
        clear hw
        intro w hw
        have hw : Wd Γ ([.blk b13 (.cells (enc x).toArray 60)] ++ ((.blk b10 (.cells (putCells (putCells (R2.map Value.bool).toArray (0 + x.A.toNat * 1) [.bool true]) (0 + x.B.toNat * 1) [.bool true]) 114) :: .own (.slice q m d) 3 1 (intRows (usedN H)) :: .blk b1 (.cells #[.string H.Name, .slice a1 n1 c1, .slice a2 n2 c2, .slice a3 n3 c3, .slice a4 n4 c4, .slice a5 n5 c5] 30) :: S) ++ [])) w := hw
        rw [putBool (by omega), putBool (by simp; omega), List.append_nil] at hw
        have hw : Wd Γ (.blk b10 (.cells (((R2.set x.A.toNat true).set x.B.toNat true).map Value.bool).toArray 114) :: .own (.slice q m d) 3 1 (intRows (usedN H)) :: .blk b1 (.cells #[.string H.Name, .slice a1 n1 c1, .slice a2 n2 c2, .slice a3 n3 c3, .slice a4 n4 c4, .slice a5 n5 c5] 30) :: S) w := hw.drop
        repeat (first | refine byW ?_ | (refine byV ?_; intro w hw))
        have hne : ba ≠ bb := by cases ba <;> cases bb <;> simp_all
        have hRA : Reach H.Links s0 x.A ∧ Reach H.Links s0 x.B := by
          have hxm := List.mem_of_getElem? hx
          cases ba with
          | true =>
            obtain ⟨n, hn, hn0, hr⟩ := hkn.ok _ hba
            have : n = x.A := by omega
            subst this
            exact ⟨hr, .ab hxm hr⟩
          | false =>
            have : bb = true := by cases bb <;> simp_all
            subst this
            obtain ⟨n, hn, hn0, hr⟩ := hkn.ok _ hbb
            have : n = x.B := by omega
            subst this
            exact ⟨.ba hxm hr, hr⟩
        have hc2 : 2 * ((R2.set x.A.toNat true).set x.B.toNat true).count false + 2 ≤ 2 * R2.count false := by
          cases ba with
          | false =>
            have h1 := count_set_lt hba
            have h2 := count_set_le (R := R2.set x.A.toNat true) (k := x.B.toNat)
            omega
          | true =>
            have h5 : bb = false := by cases bb <;> simp_all
            subst h5
            have h6 : x.A.toNat ≠ x.B.toNat := fun e => by rw [e, hbb] at hba; cases hba
            have h1 := count_set_lt (R := R2.set x.A.toNat true) (k := x.B.toNat) (by rw [List.getElem?_set_ne h6]; exact hbb)
            have h2 := count_set_le (R := R2) (k := x.A.toNat)
            omega
        refine ⟨μ2 - 1, by omega, k + 1, _, true, by omega, (hkn.set hA0 hRA.1).set hB0 hRA.2, ?_, by simp; omega, (fun h => by cases h), ⟨rfl, rfl, rfl, rfl, rfl, rfl, rfl, trivial⟩, hw⟩
        rw [List.getElem?_set, List.getElem?_set]
        split
        · simp; omega
        · split
          · simp; omega
          · exact hR0
      · have hab : ba = bb := by cases ba <;> cases bb <;> simp_all
        repeat (first | refine byW ?_ | (refine byV ?_; intro w hw))
        refine ⟨μ2 - 1, by omega, k + 1, R2, ch, by omega, hkn, hR0, hcnt2, fun hc i l hi hl => ?_, ⟨rfl, rfl, rfl, rfl, rfl, rfl, rfl, trivial⟩, hw.drop⟩
        by_cases e : i = k
        · subst e; rw [hx] at hl; cases hl
          rw [List.getD_eq_getElem?_getD, List.getD_eq_getElem?_getD, hba, hbb, hab]
        · exact hcl hc i l (by omega) hl
    · have hkn3 : ¬ k < n3 := by simpa using h2
      repeat (first | refine byW ?_ | (refine byV ?_; intro w hw))
      refine ⟨μ - 1, by rw [if_pos rfl] at hμ; omega, R2, ch, by rw [if_pos rfl] at hμ; omega, hkn, hR0, fun hc l hl => ?_, ⟨rfl, rfl, rfl, rfl, trivial⟩, hw⟩
      obtain ⟨i, hi, he⟩ := List.getElem_of_mem hl
      exact hcl hc i l (by omega) (by rw [List.getElem?_eq_getElem hi, he])
  · subst h
    have hcl := hcl rfl
    clear hμ
    have hiff : ∀ n ∈ usedN H, (R.getD n.toNat false = true ↔ Reach H.Links s0 n) := fun n hn => known_iff hkn hR0 hs1 hLk hcl (hNd n hn)
    repeat (first | refine byW ?_ | (refine byV ?_; intro w hw))
    refine W_loop (fun μ ρ w => ∃ (k : Nat), μ + k = m ∧ (∀ (i : Nat) (n : Int), i < k → (usedN H)[i]? = some n → R.getD n.toNat false = true) ∧ Has ρ [(10, .pointer (some ⟨b10, 0, none⟩)), (83, .slice q m d), (84, .int .i64 m), (85, .int .i64 k)] ∧ Wd Γ (.blk b10 (.cells ((R).map Value.bool).toArray 114) :: .own (.slice q m d) 3 1 (intRows (usedN H)) :: .blk b1 (.cells #[.string H.Name, .slice a1 n1 c1, .slice a2 n2 c2, .slice a3 n3 c3, .slice a4 n4 c4, .slice a5 n5 c5] 30) :: S) w) m ⟨0, by omega, fun i n h => by omega, ⟨rfl, rfl, rfl, rfl, trivial⟩, hw⟩ ?_
    clear hw
    rintro μ ρ w ⟨k, hk, hall, hρ, hw⟩
    rw [hρ.eq]
    repeat (first | refine byW ?_ | (refine byV ?_; intro w hw))
    refine W_cond rfl (fun h2 => ?_) (fun h2 => ?_)
    · have hkm : k < m := by simpa using h2
      obtain ⟨x, hx⟩ := get_lt (l := usedN H) (k := k) (by omega)
      obtain ⟨hx0, hx1⟩ := hNd x (List.mem_of_getElem? hx)
      obtain ⟨bx, hbx⟩ := get_lt (l := R) (k := x.toNat) (by omega)
      have hg : R.getD x.toNat false = bx := by rw [List.getD_eq_getElem?_getD, hbx]; rfl
      repeat (first | refine byW ?_ | (refine byV ?_; intro w hw))
      refine lY (v := .bool bx) ?_ (hy := y_l1b (i := 0) hw rfl rfl (getBool hbx))
      repeat (first | refine byW ?_ | (refine byV ?_; intro w hw))
      refine W_cond rfl (fun h3 => ?_) (fun h3 => ?_)
      · have h3 : bx = false := by simpa using h3
        repeat (first | refine byW ?_ | (refine byV ?_; intro w hw))
        refine ⟨_, rfl, ret_b rfl ?_, hw.drop.drop.drop⟩
        refine (decP_f fun hP => ?_).symm
        have h4 := (hiff x (List.mem_of_getElem? hx)).2 (by rw [← head_used hs0]; exact hP x (List.mem_of_getElem? hx))
        rw [hg, h3] at h4; cases h4
      · have h3 : bx = true := by simpa using h3
        repeat (first | refine byW ?_ | (refine byV ?_; intro w hw))
        exact ⟨μ - 1, by omega, k + 1, by omega, all_step (p := fun n : Int => R.getD n.toNat false) hall hx (hg.trans h3), ⟨rfl, rfl, rfl, rfl, trivial⟩, hw⟩
    · have hkm : ¬ k < m := by simpa using h2
      repeat (first | refine byW ?_ | (refine byV ?_; intro w hw))
      refine ⟨_, rfl, ret_b rfl ?_, hw.drop.drop.drop⟩
      refine (decP_t fun n hn => ?_).symm
      rw [head_used hs0]
      obtain ⟨i, hi, he⟩ := List.getElem_of_mem hn
      exact (hiff n hn).1 (hall i n (by omega) (by rw [List.getElem?_eq_getElem hi, he]))
end Go.Proofs.YtfbggkmlkkffbaaDoor
end
/- Validate: the first error of a description. -/
section
open Go Mk
namespace Go.Proofs.YtfbggkmlkkffbaaDoor
set_option maxHeartbeats 8000000
attribute [local irreducible] Calls
noncomputable def validS (H : HwT) : Int :=
  if namesB H = false then 63 else if countsB H = false then 15 else if (coresRB H && regionsRB H) = false then 6 else if alignRB H = false then 59
  else if uniqueB H = false then 56 else if knownB H = false then 57 else if hierB H = false then 73 else if disjB H = false then 7 else if connB H = false then 60 else 0
instance pg_Validate {Γ : Gho} {u : Value} {H : HwT} [hh : HwR Γ u H] : PG Tryd.prog Γ 21 [u] (.int .i64 (validS H)) := ⟨fun S w hw => by
  obtain ⟨a1, n1, c1, a2, n2, c2, a3, n3, c3, a4, n4, c4, a5, n5, c5, cs, hu, -⟩ := hh.h
  subst hu
  refine calls_of_W Tryd.func21 rfl rfl ?_
  repeat (first | refine byW ?_ | (refine byV ?_; intro w hw))
  refine lBox ?_
  intro b1 w hw
  have hw : Wd Γ (.blk b1 (hwC H a1 n1 c1 a2 n2 c2 a3 n3 c3 a4 n4 c4 a5 n5 c5) :: S) w := hw
  unfold validS
  repeat (first | refine byW ?_ | (refine byV ?_; intro w hw))
  refine W_cond rfl (fun h => ?_) (fun h => ?_)
  · rw [if_pos (by simpa using h)]
    repeat (first | refine byW ?_ | (refine byV ?_; intro w hw))
    exact ⟨_, rfl, rfl, hw.drop⟩
  rw [if_neg (by simpa using h)]
  clear h
  repeat (first | refine byW ?_ | (refine byV ?_; intro w hw))
  refine W_cond rfl (fun h => ?_) (fun h => ?_)
  · rw [if_pos (by simpa using h)]
    repeat (first | refine byW ?_ | (refine byV ?_; intro w hw))
    exact ⟨_, rfl, rfl, hw.drop⟩
  have hcnt : countsB H = true := by simpa using h
  rw [if_neg (by simpa using h)]
  clear h
  repeat (first | refine byW ?_ | (refine byV ?_; intro w hw))
  refine W_cond rfl (fun h => ?_) (fun h => ?_)
  · have h : (!coresRB H || !regionsRB H) = true := h
    rw [if_pos (by revert h; cases coresRB H <;> cases regionsRB H <;> simp)]
    repeat (first | refine byW ?_ | (refine byV ?_; intro w hw))
    exact ⟨_, rfl, rfl, hw.drop⟩
  have h : (!coresRB H || !regionsRB H) = false := h
  rw [← Bool.not_and] at h
  have h : (coresRB H && regionsRB H) = true := by simpa using h
  rw [if_neg (by rw [h]; simp)]
  rw [Bool.and_eq_true] at h
  obtain ⟨hcr, hrr⟩ := h
  repeat (first | refine byW ?_ | (refine byV ?_; intro w hw))
  refine W_cond rfl (fun h => ?_) (fun h => ?_)
  · rw [if_pos (by simpa using h)]
    repeat (first | refine byW ?_ | (refine byV ?_; intro w hw))
    exact ⟨_, rfl, rfl, hw.drop⟩
  rw [if_neg (by simpa using h)]
  clear h
  repeat (first | refine byW ?_ | (refine byV ?_; intro w hw))
  refine lCall ?_
  refine (unique_any hcnt hw).mono ?_
  rintro r w ⟨rfl, hw⟩
  refine ⟨_, rfl, ?_⟩
  repeat (first | refine byW ?_ | (refine byV ?_; intro w hw))
  refine W_cond rfl (fun h => ?_) (fun h => ?_)
  · rw [if_pos (by simpa using h)]
    repeat (first | refine byW ?_ | (refine byV ?_; intro w hw))
    exact ⟨_, rfl, rfl, hw.drop⟩
  rw [if_neg (by simpa using h)]
  clear h
  repeat (first | refine byW ?_ | (refine byV ?_; intro w hw))
  refine W_cond rfl (fun h => ?_) (fun h => ?_)
  · rw [if_pos (by simpa using h)]
    repeat (first | refine byW ?_ | (refine byV ?_; intro w hw))
    exact ⟨_, rfl, rfl, hw.drop⟩
  rw [if_neg (by simpa using h)]
  clear h
  repeat (first | refine byW ?_ | (refine byV ?_; intro w hw))
  refine W_cond rfl (fun h => ?_) (fun h => ?_)
  · rw [if_pos (by simpa using h)]
    repeat (first | refine byW ?_ | (refine byV ?_; intro w hw))
    exact ⟨_, rfl, rfl, hw.drop⟩
  rw [if_neg (by simpa using h)]
  clear h
  repeat (first | refine byW ?_ | (refine byV ?_; intro w hw))
  refine lCall ?_
  refine (disjoint_any hcnt hw).mono ?_
  rintro r w ⟨rfl, hw⟩
  refine ⟨_, rfl, ?_⟩
  repeat (first | refine byW ?_ | (refine byV ?_; intro w hw))
  refine W_cond rfl (fun h => ?_) (fun h => ?_)
  · rw [if_pos (by simpa using h)]
    repeat (first | refine byW ?_ | (refine byV ?_; intro w hw))
    exact ⟨_, rfl, rfl, hw.drop⟩
  rw [if_neg (by simpa using h)]
  clear h
  repeat (first | refine byW ?_ | (refine byV ?_; intro w hw))
  refine lCall ?_
  refine (connected_any hcnt hcr hrr hw).mono ?_
  rintro r w ⟨rfl, hw⟩
  refine ⟨_, rfl, ?_⟩
  repeat (first | refine byW ?_ | (refine byV ?_; intro w hw))
  refine W_cond rfl (fun h => ?_) (fun h => ?_)
  · rw [if_pos (by simpa using h)]
    repeat (first | refine byW ?_ | (refine byV ?_; intro w hw))
    exact ⟨_, rfl, rfl, hw.drop⟩
  rw [if_neg (by simpa using h)]
  repeat (first | refine byW ?_ | (refine byV ?_; intro w hw))
  exact ⟨_, rfl, rfl, hw.drop⟩⟩
end Go.Proofs.YtfbggkmlkkffbaaDoor
end
/- Maps whose values are slices that are owned. -/
section
open Go
namespace Mk
attribute [local irreducible] Calls
section
variable {α β : Type} [DecidableEq α]
end

section
variable {P : Program} {n : Nat} {ops : List Oper} {Γ : Gho} {K : List Res} {wr tc stab : List (List Nat)} {Q : Fr → World → Prop} {i : Nat} {rest : List Oper} {ρ : Fr} {M : Nat → Fr → List Res}
variable {ty T : TypeId} {pos : String} {es : Array Edge} {x y : Operand}
end

/-- Slices that are owned are given out. -/
theorem freeze_list {α : Type} {f : α → Value} {e sz : Nat} {g : α → List (List Value)} {S : List Res} {w : World} : ∀ (l : List α) {Γ : Gho}, Wd Γ (l.map (fun x => Res.own (f x) e sz (g x)) ++ S) w → ∃ Γ', Γ.le Γ' ∧ (∀ x ∈ l, RepS Γ' (f x) sz (g x)) ∧ Wd Γ' S w
  | [], Γ, hw => ⟨Γ, .refl _, by simp, hw⟩
  | x :: l, Γ, hw => by
    obtain ⟨Γ1, h1, h2, hw⟩ := Wd.freeze (S := l.map (fun x => Res.own (f x) e sz (g x)) ++ S) hw
    obtain ⟨Γ2, h3, h4, hw⟩ := freeze_list l hw
    refine ⟨Γ2, h1.trans h3, fun y hy => ?_, hw⟩
    rcases List.mem_cons.1 hy with rfl | hy
    · exact h2.mono h3
    · exact h4 y hy
end Mk
end
/- The neighbours of each node. -/
section
open Go Mk
namespace Go.Proofs.YtfbggkmlkkffbaaDoor
set_option maxHeartbeats 4000000
attribute [local irreducible] Calls
def nbrL (ls : List LinkT) (x : Int) : List Pl := ls.flatMap fun l => (if l.A = x then [(l.B, l.Latency)] else []) ++ (if l.B = x then [(l.A, l.Latency)] else [])
end Go.Proofs.YtfbggkmlkkffbaaDoor
end
/- Shortest ways: what the search keeps true. -/
section
namespace Go.Proofs.YtfbggkmlkkffbaaDoor

/-- There is a way from s to x of length d. -/
inductive Way (nb : Int → List Pl) (s : Int) : Int → Int → Prop
  | refl : Way nb s s 0
  | step {x d : Int} {q : Pl} : Way nb s x d → q ∈ nb x → Way nb s q.1 (d + q.2)
/-- d is the distance of x from s, or -1. -/
def Dst (nb : Int → List Pl) (s x d : Int) : Prop := (0 ≤ d ∧ Way nb s x d ∧ ∀ d', Way nb s x d' → d ≤ d') ∨ (d = -1 ∧ ∀ d', ¬ Way nb s x d')
theorem Dst.uniq {nb : Int → List Pl} {s x d e : Int} (h : Dst nb s x d) (k : Dst nb s x e) : d = e := by
  rcases h with ⟨h0, h1, h2⟩ | ⟨h1, h2⟩ <;> rcases k with ⟨k0, k1, k2⟩ | ⟨k1, k2⟩
  · have := h2 _ k1; have := k2 _ h1; omega
  · exact (k2 _ h1).elim
  · exact (h2 _ k1).elim
  · rw [h1, k1]
structure NbOk (nb : Int → List Pl) (s L : Int) : Prop where
  rng : ∀ x, ∀ q ∈ nb x, 0 ≤ q.1 ∧ q.1 < 64 ∧ 0 ≤ q.2 ∧ q.2 ≤ L
  st : 0 ≤ s ∧ s < 64
theorem Way.nonneg {nb : Int → List Pl} {s L : Int} (hn : NbOk nb s L) {x d : Int} (h : Way nb s x d) : 0 ≤ d := by
  induction h with
  | refl => omega
  | step _ hq ih => have := hn.rng _ _ hq; omega
theorem Way.rng {nb : Int → List Pl} {s L : Int} (hn : NbOk nb s L) {x d : Int} (h : Way nb s x d) : 0 ≤ x ∧ x < 64 := by
  cases h with
  | refl => exact hn.st
  | step _ hq => have := hn.rng _ _ hq; omega

section
variable {nb : Int → List Pl} {s L : Int} {O : List Int} {xs ys : List Pl}
/-! ### how long it goes on -/
end
end Go.Proofs.YtfbggkmlkkffbaaDoor
end
/- The search: distances from one node. -/
section
open Go Mk
namespace Go.Proofs.YtfbggkmlkkffbaaDoor
set_option maxHeartbeats 8000000
attribute [local irreducible] Calls
def LinksOk (ls : List LinkT) : Prop := ls.length ≤ 1000 ∧ ∀ l ∈ ls, 0 ≤ l.A ∧ l.A < 64 ∧ 0 ≤ l.B ∧ l.B < 64 ∧ 1 ≤ l.Latency ∧ l.Latency ≤ 1000000
theorem nbr_ok {ls : List LinkT} {s : Int} (h : LinksOk ls) (hs : 0 ≤ s ∧ s < 64) : NbOk (nbrL ls) s 1000000 := ⟨fun x q hq => by
  unfold nbrL at hq
  obtain ⟨l, hl, hq⟩ := List.mem_flatMap.1 hq
  have := h.2 l hl
  rcases List.mem_append.1 hq with hq | hq
  · split at hq
    · simp only [List.mem_singleton] at hq; subst hq; simp only []; omega
    · simp at hq
  · split at hq
    · simp only [List.mem_singleton] at hq; subst hq; simp only []; omega
    · simp at hq, hs⟩
end Go.Proofs.YtfbggkmlkkffbaaDoor
end
/- Distance; looking for a core. -/
section
open Go Mk
namespace Go.Proofs.YtfbggkmlkkffbaaDoor
set_option maxHeartbeats 8000000
attribute [local irreducible] Calls
noncomputable def dstI (nb : Int → List Pl) (s x : Int) : Int := @Classical.epsilon _ ⟨(0 : Int)⟩ (Dst nb s x)
theorem Dst.eq {nb : Int → List Pl} {s x d : Int} (h : Dst nb s x d) : dstI nb s x = d := (Classical.epsilon_spec_aux ⟨0⟩ (Dst nb s x) ⟨d, h⟩).uniq h
theorem valid_all {H : HwT} (h : validS H = 0) : namesB H = true ∧ countsB H = true ∧ (coresRB H && regionsRB H) = true ∧ alignRB H = true ∧ uniqueB H = true ∧ knownB H = true ∧ hierB H = true ∧ disjB H = true ∧ connB H = true := by
  unfold validS at h
  by_cases e1 : namesB H = false
  · rw [if_pos e1] at h; cases h
  rw [if_neg e1] at h
  by_cases e2 : countsB H = false
  · rw [if_pos e2] at h; cases h
  rw [if_neg e2] at h
  by_cases e3 : (coresRB H && regionsRB H) = false
  · rw [if_pos e3] at h; cases h
  rw [if_neg e3] at h
  by_cases e4 : alignRB H = false
  · rw [if_pos e4] at h; cases h
  rw [if_neg e4] at h
  by_cases e5 : uniqueB H = false
  · rw [if_pos e5] at h; cases h
  rw [if_neg e5] at h
  by_cases e6 : knownB H = false
  · rw [if_pos e6] at h; cases h
  rw [if_neg e6] at h
  by_cases e7 : hierB H = false
  · rw [if_pos e7] at h; cases h
  rw [if_neg e7] at h
  by_cases e8 : disjB H = false
  · rw [if_pos e8] at h; cases h
  rw [if_neg e8] at h
  by_cases e9 : connB H = false
  · rw [if_pos e9] at h; cases h
  exact ⟨by simpa using e1, by simpa using e2, by simpa using e3, by simpa using e4, by simpa using e5, by simpa using e6, by simpa using e7, by simpa using e8, by simpa using e9⟩
theorem valid_links {H : HwT} (h : validS H = 0) : LinksOk H.Links := by
  obtain ⟨-, h2, h3, -⟩ := valid_all h
  obtain ⟨-, -, -, l3, -⟩ := counts_le h2
  refine ⟨by omega, fun l hl => ?_⟩
  unfold coresRB at h3
  simp only [Bool.and_eq_true] at h3
  have := List.all_eq_true.1 h3.1.2.2 l hl
  simp [linkRB, isNodeB, isLatB] at this
  omega
end Go.Proofs.YtfbggkmlkkffbaaDoor
end
/- Paths. -/
section
open Go Mk
namespace Go.Proofs.YtfbggkmlkkffbaaDoor
set_option maxHeartbeats 8000000
attribute [local irreducible] Calls
theorem nbr_sym {ls : List LinkT} {x : Int} {q : Pl} (h : q ∈ nbrL ls x) : (x, q.2) ∈ nbrL ls q.1 := by
  unfold nbrL at h ⊢
  obtain ⟨l, hl, hq⟩ := List.mem_flatMap.1 h
  refine List.mem_flatMap.2 ⟨l, hl, ?_⟩
  rcases List.mem_append.1 hq with hq | hq
  · split at hq
    · rename_i e; simp only [List.mem_singleton] at hq; subst hq; subst e; simp
    · simp at hq
  · split at hq
    · rename_i e; simp only [List.mem_singleton] at hq; subst hq; subst e; simp
    · simp at hq
theorem nbr_pos {ls : List LinkT} {x : Int} {q : Pl} (hL : LinksOk ls) (h : q ∈ nbrL ls x) : 1 ≤ q.2 := by
  unfold nbrL at h
  obtain ⟨l, hl, hq⟩ := List.mem_flatMap.1 h
  have := hL.2 l hl
  rcases List.mem_append.1 hq with hq | hq <;>
  · split at hq
    · simp only [List.mem_singleton] at hq; subst hq; simp only []; omega
    · simp at hq
end Go.Proofs.YtfbggkmlkkffbaaDoor
end
/- Distances exist and are bounded. -/
section
open Go Mk
namespace Go.Proofs.YtfbggkmlkkffbaaDoor

theorem Way.least {nb : Int → List Pl} {s L : Int} (hn : NbOk nb s L) {x : Int} : ∀ (n : Nat) (d : Int), Way nb s x d → d.toNat ≤ n → ∃ m, Way nb s x m ∧ ∀ d', Way nb s x d' → m ≤ d'
  | 0, d, h, hd => ⟨d, h, fun d' h' => by have := h'.nonneg hn; have := h.nonneg hn; omega⟩
  | n + 1, d, h, hd => by
    by_cases e : ∃ d', Way nb s x d' ∧ d' < d
    · obtain ⟨d', h', hlt⟩ := e
      have := h'.nonneg hn
      exact Way.least hn n d' h' (by omega)
    · exact ⟨d, h, fun d' h' => by
        by_cases hlt : d' < d
        · exact (e ⟨d', h', hlt⟩).elim
        · omega⟩
theorem dst_ex {nb : Int → List Pl} {s L : Int} (hn : NbOk nb s L) (x : Int) : Dst nb s x (dstI nb s x) := by
  have : ∃ d, Dst nb s x d := by
    by_cases h : ∃ d, Way nb s x d
    · obtain ⟨d, h⟩ := h
      obtain ⟨m, h1, h2⟩ := Way.least hn d.toNat d h (Nat.le_refl _)
      exact ⟨m, .inl ⟨h1.nonneg hn, h1, h2⟩⟩
    · exact ⟨-1, .inr ⟨rfl, fun d hd => h ⟨d, hd⟩⟩⟩
  obtain ⟨d, hd⟩ := this
  rw [hd.eq]; exact hd
/-- How many nodes are no farther than k. -/
noncomputable def cntD (nb : Int → List Pl) (s k : Int) : Nat := (List.range 64).countP fun y : Nat => decide (0 ≤ dstI nb s y) && decide (dstI nb s y ≤ k)
theorem countP_lt {α : Type} {p q : α → Bool} : ∀ (l : List α), (∀ x ∈ l, p x = true → q x = true) → (∃ x ∈ l, q x = true ∧ p x = false) → l.countP p + 1 ≤ l.countP q
  | [], _, ⟨x, hx, _⟩ => by simp at hx
  | y :: l, h, ⟨x, hx, h1, h2⟩ => by
    rw [List.countP_cons, List.countP_cons]
    have hle : l.countP p ≤ l.countP q := List.countP_mono_left fun x hx => h x (by simp [hx])
    have hy := h y (by simp)
    rcases List.mem_cons.1 hx with rfl | hx
    · rw [h1, h2]; simp; omega
    · have ih := countP_lt l (fun x hx => h x (by simp [hx])) ⟨x, hx, h1, h2⟩
      by_cases e : p y = true
      · rw [e, hy e]; simp; omega
      · have e : p y = false := by simpa using e
        rw [e]; simp only [Bool.false_eq_true, if_false]; omega
theorem dst_bound {ls : List LinkT} {s : Int} (hL : LinksOk ls) (hs : 0 ≤ s ∧ s < 64) : ∀ (n : Nat) (x : Int), (dstI (nbrL ls) s x).toNat ≤ n → 0 ≤ dstI (nbrL ls) s x → dstI (nbrL ls) s x + 1000000 ≤ 1000000 * (cntD (nbrL ls) s (dstI (nbrL ls) s x) : Int) := by
  have hn := nbr_ok hL hs
  have hself : ∀ x, 0 ≤ x → x < 64 → 0 ≤ dstI (nbrL ls) s x → 1 ≤ cntD (nbrL ls) s (dstI (nbrL ls) s x) := fun x h0 h1 hd => by
    unfold cntD
    refine List.countP_pos_iff.2 ⟨x.toNat, by simp; omega, ?_⟩
    rw [show ((x.toNat : Nat) : Int) = x by omega]
    simp [hd]
  intro n
  induction n with
  | zero =>
    intro x hx h0
    have hr : 0 ≤ x ∧ x < 64 := by
      rcases dst_ex hn x with ⟨-, h, -⟩ | ⟨h, -⟩
      · exact h.rng hn
      · omega
    have := hself x hr.1 hr.2 h0
    omega
  | succ n ih =>
    intro x hx h0
    rcases dst_ex hn x with ⟨-, hw, hmin⟩ | ⟨h, -⟩
    · have hr := hw.rng hn
      generalize hd : dstI (nbrL ls) s x = d at *
      cases hw with
      | refl =>
        have := hself s hs.1 hs.2 (by omega)
        rw [hd] at this
        omega
      | @step u d' q hu hq =>
        have hur := hu.rng hn
        have hqp := nbr_pos hL hq
        have hqr := hn.rng _ _ hq
        rcases dst_ex hn u with ⟨hu0, hu1, hu2⟩ | ⟨-, h⟩
        · have e1 := hu2 _ hu
          have e2 := hmin _ (hu1.step hq)
          have hi := ih u (by omega) hu0
          have hc : cntD (nbrL ls) s (dstI (nbrL ls) s u) + 1 ≤ cntD (nbrL ls) s (d' + q.2) := by
            unfold cntD
            refine countP_lt _ (fun y _ hy => ?_) ⟨q.1.toNat, by simp; omega, ?_, ?_⟩
            · simp at hy ⊢; omega
            · rw [show ((q.1.toNat : Nat) : Int) = q.1 by omega, hd]; simp; omega
            · rw [show ((q.1.toNat : Nat) : Int) = q.1 by omega, hd]; simp; omega
          omega
        · exact (h _ hu).elim
    · omega
theorem dst_le {ls : List LinkT} {s x : Int} (hL : LinksOk ls) (hs : 0 ≤ s ∧ s < 64) : -1 ≤ dstI (nbrL ls) s x ∧ dstI (nbrL ls) s x ≤ 63000000 := by
  have hn := nbr_ok hL hs
  rcases dst_ex hn x with ⟨h0, -⟩ | ⟨h, -⟩
  · have := dst_bound hL hs _ x (Nat.le_refl _) h0
    have h64 : cntD (nbrL ls) s (dstI (nbrL ls) s x) ≤ 64 := by
      unfold cntD; exact Nat.le_trans List.countP_le_length (by simp)
    omega
  · omega
end Go.Proofs.YtfbggkmlkkffbaaDoor
end
/- Distance is a metric. -/
section
open Go Mk
namespace Go.Proofs.YtfbggkmlkkffbaaDoor

theorem Way.trans {nb : Int → List Pl} {s x d : Int} (h : Way nb s x d) {y e : Int} (k : Way nb x y e) : Way nb s y (d + e) := by
  induction k with
  | refl => rw [Int.add_zero]; exact h
  | step _ hq ih => rw [← Int.add_assoc]; exact ih.step hq
theorem dstI_self {ls : List LinkT} {a : Int} (hL : LinksOk ls) (ha : 0 ≤ a ∧ a < 64) : dstI (nbrL ls) a a = 0 := by
  refine Dst.eq (.inl ⟨Int.le_refl _, .refl, fun d hd => hd.nonneg (nbr_ok hL ha)⟩)
theorem mem_nbr_ab {ls : List LinkT} {l : LinkT} (h : l ∈ ls) : (l.B, l.Latency) ∈ nbrL ls l.A := List.mem_flatMap.2 ⟨l, h, by simp⟩
theorem mem_nbr_ba {ls : List LinkT} {l : LinkT} (h : l ∈ ls) : (l.A, l.Latency) ∈ nbrL ls l.B := List.mem_flatMap.2 ⟨l, h, by simp⟩
end Go.Proofs.YtfbggkmlkkffbaaDoor
end
/- The length of a path, over the links. -/
section
open Go Mk
namespace Go.Proofs.YtfbggkmlkkffbaaDoor
end Go.Proofs.YtfbggkmlkkffbaaDoor
end
/- All shortest ways at once: the invariant of the reference's matrix. -/
section
open Go Mk
namespace Go.Proofs.YtfbggkmlkkffbaaDoor

abbrev Mx := Int → Int → Int
def nIn (x : Int) : Prop := 0 ≤ x ∧ x < 64
/-- A walk whose inner nodes are below m. -/
inductive WM (E : Mx) (m : Int) : Int → Int → Int → Prop
  | base {i k : Int} : nIn i → nIn k → 0 ≤ E i k → WM E m i k (E i k)
  | join {i c k x y : Int} : c < m → WM E m i c x → WM E m c k y → WM E m i k (x + y)
section
variable {E : Mx} {m i k L : Int}
theorem WM.nonneg (h : WM E m i k L) : 0 ≤ L := by
  induction h with
  | base _ _ h => exact h
  | join _ _ _ h1 h2 => omega
theorem WM.rng (h : WM E m i k L) : nIn i ∧ nIn k := by
  induction h with
  | base h1 h2 _ => exact ⟨h1, h2⟩
  | join _ _ _ h1 h2 => exact ⟨h1.1, h2.2⟩
theorem WM.more (h : WM E m i k L) : WM E (m + 1) i k L := by
  induction h with
  | base h1 h2 h3 => exact .base h1 h2 h3
  | join hc _ _ h1 h2 => exact .join (by omega) h1 h2
/-- One inner node more. -/
theorem WM.step (h : WM E (m + 1) i k L) : ∃ L', L' ≤ L ∧ (WM E m i k L' ∨ ∃ a b, L' = a + b ∧ WM E m i m a ∧ WM E m m k b) := by
  induction h with
  | base h1 h2 h3 => exact ⟨_, Int.le_refl _, .inl (.base h1 h2 h3)⟩
  | @join i c k x y hc _ _ ih1 ih2 =>
    obtain ⟨x', hx, h1⟩ := ih1
    obtain ⟨y', hy, h2⟩ := ih2
    by_cases e : c < m
    · rcases h1 with h1 | ⟨a, b, rfl, ha, hb⟩ <;> rcases h2 with h2 | ⟨a2, b2, rfl, ha2, hb2⟩
      · exact ⟨x' + y', by omega, .inl (.join e h1 h2)⟩
      · exact ⟨x' + a2 + b2, by omega, .inr ⟨x' + a2, b2, rfl, .join e h1 ha2, hb2⟩⟩
      · exact ⟨a + (b + y'), by omega, .inr ⟨a, b + y', rfl, ha, .join e hb h2⟩⟩
      · have := hb.nonneg; have := ha2.nonneg
        exact ⟨a + b2, by omega, .inr ⟨a, b2, rfl, ha, hb2⟩⟩
    · have e : c = m := by omega
      subst e
      rcases h1 with h1 | ⟨a, b, rfl, ha, hb⟩ <;> rcases h2 with h2 | ⟨a2, b2, rfl, ha2, hb2⟩
      · exact ⟨x' + y', by omega, .inr ⟨x', y', rfl, h1, h2⟩⟩
      · have := ha2.nonneg
        exact ⟨x' + b2, by omega, .inr ⟨x', b2, rfl, h1, hb2⟩⟩
      · have := hb.nonneg
        exact ⟨a + y', by omega, .inr ⟨a, y', rfl, ha, h2⟩⟩
      · have := hb.nonneg; have := ha2.nonneg
        exact ⟨a + b2, by omega, .inr ⟨a, b2, rfl, ha, hb2⟩⟩
end
/-- d is the least length of a walk whose inner nodes are below m, or -1. -/
def OkM (E : Mx) (m i k d : Int) : Prop := (d = -1 ∧ ∀ L, ¬ WM E m i k L) ∨ (0 ≤ d ∧ WM E m i k d ∧ ∀ L, WM E m i k L → d ≤ L)
theorem OkM.zero {E : Mx} (hE : ∀ i k, E i k = -1 ∨ 0 ≤ E i k) {i k : Int} (hi : nIn i) (hk : nIn k) : OkM E 0 i k (E i k) := by
  have hb : ∀ {i k L : Int}, WM E 0 i k L → L = E i k := fun {i k L} h => by
    induction h with
    | base => rfl
    | join hc h1 h2 => have := h1.rng.2; unfold nIn at this; omega
  rcases hE i k with h | h
  · refine .inl ⟨h, fun L hL => ?_⟩
    have h1 := hb hL
    have h2 := hL.nonneg
    omega
  · exact .inr ⟨h, .base hi hk h, fun L hL => by rw [hb hL]; exact Int.le_refl _⟩
/-- What the matrix holds while the node m is taken in, before the pair (i, k). -/
def FW (E D : Mx) (m i k : Int) : Prop := ∀ a b, nIn a → nIn b → if a < i ∨ (a = i ∧ b < k) then OkM E (m + 1) a b (D a b) else OkM E m a b (D a b)
def updM (D : Mx) (a b v : Int) : Mx := fun x y => if x = a ∧ y = b then v else D x y
def relaxB (D : Mx) (m i k : Int) : Bool := (decide (0 ≤ D i m) && decide (0 ≤ D m k)) && (decide (D i k < 0) || decide (D i m + D m k < D i k))
section
variable {E D : Mx} {m i k : Int}
theorem FW.either (h : FW E D m i k) {a b : Int} (ha : nIn a) (hb : nIn b) : (D a b = -1 ∨ 0 ≤ D a b) ∧ (0 ≤ D a b → WM E (m + 1) a b (D a b)) ∧ (∀ L, WM E m a b L → 0 ≤ D a b ∧ D a b ≤ L) := by
  have h1 := h a b ha hb
  split at h1
  · rcases h1 with ⟨h2, h3⟩ | ⟨h2, h3, h4⟩
    · exact ⟨.inl h2, fun h5 => by omega, fun L hL => absurd hL.more (h3 L)⟩
    · exact ⟨.inr h2, fun _ => h3, fun L hL => ⟨h2, h4 L hL.more⟩⟩
  · rcases h1 with ⟨h2, h3⟩ | ⟨h2, h3, h4⟩
    · exact ⟨.inl h2, fun h5 => by omega, fun L hL => absurd hL (h3 L)⟩
    · exact ⟨.inr h2, fun _ => h3.more, fun L hL => ⟨h2, h4 L hL⟩⟩
theorem FW.next (h : FW E D m i k) (hm : nIn m) (hi : nIn i) (hk : nIn k) : FW E (if relaxB D m i k = true then updM D i k (D i m + D m k) else D) m i (k + 1) := by
  intro a b ha hb
  by_cases e : a = i ∧ b = k
  · obtain ⟨rfl, rfl⟩ := e
    rw [if_pos (by omega)]
    obtain ⟨p1, p2, p3⟩ := h.either hi hm
    obtain ⟨q1, q2, q3⟩ := h.either hm hk
    have h0 := h a b hi hk
    rw [if_neg (by omega)] at h0
    by_cases c : relaxB D m a b = true
    · rw [if_pos c]
      unfold relaxB at c
      simp only [Bool.and_eq_true, Bool.or_eq_true, decide_eq_true_eq] at c
      obtain ⟨⟨c1, c2⟩, c3⟩ := c
      have hv : updM D a b (D a m + D m b) a b = D a m + D m b := by unfold updM; rw [if_pos ⟨rfl, rfl⟩]
      rw [hv]
      refine .inr ⟨by omega, .join (by omega) (p2 c1) (q2 c2), fun L hL => ?_⟩
      obtain ⟨L', hL', hs⟩ := hL.step
      rcases hs with hs | ⟨x, y, rfl, hx, hy⟩
      · rcases h0 with ⟨g1, g2⟩ | ⟨g1, g2, g3⟩
        · exact absurd hs (g2 L')
        · have := g3 L' hs; omega
      · have := p3 x hx; have := q3 y hy; omega
    · rw [if_neg c]
      unfold relaxB at c
      simp only [Bool.and_eq_true, Bool.or_eq_true, decide_eq_true_eq] at c
      rcases h0 with ⟨g1, g2⟩ | ⟨g1, g2, g3⟩
      · refine .inl ⟨g1, fun L hL => ?_⟩
        obtain ⟨L', hL', hs⟩ := hL.step
        rcases hs with hs | ⟨x, y, rfl, hx, hy⟩
        · exact g2 L' hs
        · have := p3 x hx; have := q3 y hy
          exact c ⟨⟨by omega, by omega⟩, .inl (by omega)⟩
      · refine .inr ⟨g1, g2.more, fun L hL => ?_⟩
        obtain ⟨L', hL', hs⟩ := hL.step
        rcases hs with hs | ⟨x, y, rfl, hx, hy⟩
        · have := g3 L' hs; omega
        · have := p3 x hx; have := q3 y hy
          have : ¬ D a m + D m b < D a b := fun hlt => c ⟨⟨by omega, by omega⟩, .inr hlt⟩
          omega
  · have hv : (if relaxB D m i k = true then updM D i k (D i m + D m k) else D) a b = D a b := by
      split
      · unfold updM; rw [if_neg e]
      · rfl
    rw [hv]
    have h0 := h a b ha hb
    by_cases c : a < i ∨ (a = i ∧ b < k)
    · rw [if_pos c] at h0; rw [if_pos (by omega)]; exact h0
    · rw [if_neg c] at h0; rw [if_neg (by omega)]; exact h0
theorem FW.row (h : FW E D m i 64) : FW E D m (i + 1) 0 := fun a b ha hb => by
  have h0 := h a b ha hb
  unfold nIn at hb
  by_cases c : a < i ∨ (a = i ∧ b < 64)
  · rw [if_pos c] at h0; rw [if_pos (by omega)]; exact h0
  · rw [if_neg c] at h0; rw [if_neg (by omega)]; exact h0
theorem FW.phase (h : FW E D m 64 0) : FW E D (m + 1) 0 0 := fun a b ha hb => by
  have h0 := h a b ha hb
  unfold nIn at ha hb
  rw [if_pos (by omega)] at h0
  rw [if_neg (by omega)]
  exact h0
end
/-! ### links -/
/-- A matrix of single links. -/
structure LinkM (ls : List LinkT) (E : Mx) : Prop where
  neg : ∀ i k, E i k = -1 ∨ 0 ≤ E i k
  self : ∀ i, nIn i → E i i = 0
  link : ∀ i k, nIn i → nIn k → i ≠ k → 0 ≤ E i k → ∃ l ∈ ls, ((l.A = i ∧ l.B = k) ∨ (l.A = k ∧ l.B = i)) ∧ E i k = l.Latency
  has : ∀ l ∈ ls, E l.A l.B = l.Latency ∧ E l.B l.A = l.Latency
section
variable {ls : List LinkT} {E : Mx} {m i k L : Int}
theorem LinkM.nbr (h : LinkM ls E) {q : Pl} (hq : q ∈ nbrL ls i) : E i q.1 = q.2 := by
  obtain ⟨l, hl, hq⟩ := List.mem_flatMap.1 hq
  have := h.has l hl
  rcases List.mem_append.1 hq with h1 | h1 <;> split at h1 <;> simp at h1
  · rename_i e; subst e; rw [h1]; exact this.1
  · rename_i e; subst e; rw [h1]; exact this.2
theorem LinkM.way (h : LinkM ls E) (hw : WM E m i k L) : Way (nbrL ls) i k L := by
  induction hw with
  | @base i k hi hk h0 =>
    by_cases e : i = k
    · subst e; rw [h.self i hi]; exact .refl
    · obtain ⟨l, hl, hc, hE⟩ := h.link i k hi hk e h0
      rw [hE]
      rcases hc with ⟨rfl, rfl⟩ | ⟨rfl, rfl⟩
      · have := (Way.refl (nb := nbrL ls) (s := l.A)).step (mem_nbr_ab hl)
        simpa using this
      · have := (Way.refl (nb := nbrL ls) (s := l.B)).step (mem_nbr_ba hl)
        simpa using this
  | join _ _ _ h1 h2 => exact h1.trans h2
theorem LinkM.walk (h : LinkM ls E) (hL : LinksOk ls) (hi : nIn i) (hw : Way (nbrL ls) i k L) : WM E 64 i k L := by
  induction hw with
  | refl =>
    have := WM.base (E := E) (m := 64) hi hi (by rw [h.self i hi]; omega)
    rwa [h.self i hi] at this
  | @step x d q hx hq ih =>
    have hxr := ih.rng.2
    have hr := (nbr_ok hL hi).rng x q hq
    have he := h.nbr hq
    have h2 := WM.base (E := E) (m := 64) hxr ⟨hr.1, hr.2.1⟩ (by rw [he]; exact hr.2.2.1)
    rw [he] at h2
    exact .join hxr.2 ih h2
theorem OkM.dst (h : LinkM ls E) (hL : LinksOk ls) (hi : nIn i) {d : Int} (ho : OkM E 64 i k d) : dstI (nbrL ls) i k = d := by
  refine Dst.eq ?_
  rcases ho with ⟨h1, h2⟩ | ⟨h1, h2, h3⟩
  · exact .inr ⟨h1, fun d' hw => h2 d' (h.walk hL hi hw)⟩
  · exact .inl ⟨h1, h.way h2, fun d' hw => h3 d' (h.walk hL hi hw)⟩
/-- Walks over few nodes are short. -/
theorem WM.short (h : LinkM ls E) (hL : LinksOk ls) (hw : WM E m i k L) : ∃ L', WM E m i k L' ∧ L' ≤ 63000000 := by
  obtain ⟨hi, hk⟩ := hw.rng
  let ins : Int → Bool := fun x => decide (x < m) || decide (x = i) || decide (x = k)
  let ls' := ls.filter fun l => ins l.A && ins l.B
  have hL' : LinksOk ls' := ⟨Nat.le_trans (List.length_filter_le _ _) hL.1, fun l hl => hL.2 l (List.mem_filter.1 hl).1⟩
  have hway : ∀ {a b d : Int}, WM E m a b d → ins a = true → ins b = true → Way (nbrL ls') a b d := fun {a b d} hw => by
    induction hw with
    | @base a b ha hb h0 =>
      intro h1 h2
      by_cases e : a = b
      · subst e; rw [h.self a ha]; exact .refl
      · obtain ⟨l, hl, hc, hE⟩ := h.link a b ha hb e h0
        rw [hE]
        have hl' : l ∈ ls' := List.mem_filter.2 ⟨hl, by rcases hc with ⟨rfl, rfl⟩ | ⟨rfl, rfl⟩ <;> simp only [h1, h2, Bool.and_true]⟩
        rcases hc with ⟨rfl, rfl⟩ | ⟨rfl, rfl⟩
        · have := (Way.refl (nb := nbrL ls') (s := l.A)).step (mem_nbr_ab hl')
          simpa using this
        · have := (Way.refl (nb := nbrL ls') (s := l.B)).step (mem_nbr_ba hl')
          simpa using this
    | @join a c b x y hc _ _ ih1 ih2 =>
      intro h1 h2
      have hci : ins c = true := by show (decide _ || decide _ || decide _) = true; rw [decide_eq_true hc]; simp
      exact (ih1 h1 hci).trans (ih2 hci h2)
  have hii : ins i = true := by show (decide _ || decide _ || decide _) = true; simp
  have hkk : ins k = true := by show (decide _ || decide _ || decide _) = true; simp
  have hwk := hway hw hii hkk
  have key : ∀ {x d : Int}, Way (nbrL ls') i x d → (∃ L', L' ≤ d ∧ WM E m i x L') ∨ ∃ L', L' ≤ d ∧ WM E m i k L' := fun {x d} hx => by
    induction hx with
    | refl =>
      have := WM.base (E := E) (m := m) hi hi (by rw [h.self i hi]; omega)
      rw [h.self i hi] at this
      exact .inl ⟨0, Int.le_refl _, this⟩
    | @step x d q hx hq ih =>
      have hr := (nbr_ok hL' hi).rng x q hq
      rcases ih with ⟨L', h1, h2⟩ | ⟨L', h1, h2⟩
      · have hq2 : q ∈ nbrL ls x := by
          obtain ⟨l, hl, hq⟩ := List.mem_flatMap.1 hq
          exact List.mem_flatMap.2 ⟨l, (List.mem_filter.1 hl).1, hq⟩
        have he := h.nbr hq2
        have hxr := h2.rng.2
        have h3 := WM.base (E := E) (m := m) hxr ⟨hr.1, hr.2.1⟩ (by rw [he]; exact hr.2.2.1)
        rw [he] at h3
        have hxin : ins x = true := by
          obtain ⟨l, hl, hq⟩ := List.mem_flatMap.1 hq
          have hl2 := (List.mem_filter.1 hl).2
          rw [Bool.and_eq_true] at hl2
          rcases List.mem_append.1 hq with g | g <;> split at g <;> simp at g
          · rename_i e; rw [← e]; exact hl2.1
          · rename_i e; rw [← e]; exact hl2.2
        have hxc : x < m ∨ x = i ∨ x = k := by
          have : (decide (x < m) || decide (x = i) || decide (x = k)) = true := hxin
          simp only [Bool.or_eq_true, decide_eq_true_eq] at this; omega
        rcases hxc with e | e | e
        · exact .inl ⟨L' + q.2, by omega, .join e h2 h3⟩
        · rw [e] at h3
          have := h2.nonneg
          exact .inl ⟨q.2, by omega, h3⟩
        · rw [e] at h2
          exact .inr ⟨L', by omega, h2⟩
      · exact .inr ⟨L', by omega, h2⟩
  have hd := dst_ex (nbr_ok hL' hi) k
  have hb := (dst_le (x := k) hL' hi).2
  rcases hd with ⟨-, h1, -⟩ | ⟨-, h1⟩
  · rcases key h1 with ⟨L', g1, g2⟩ | ⟨L', g1, g2⟩ <;> exact ⟨L', g2, by omega⟩
  · exact absurd hwk (h1 _)
theorem FW.bound (h : LinkM ls E) (hL : LinksOk ls) {D : Mx} (hF : FW E D m i k) {a b : Int} (ha : nIn a) (hb : nIn b) : -1 ≤ D a b ∧ D a b ≤ 63000000 := by
  have h1 := hF a b ha hb
  split at h1 <;> rcases h1 with ⟨h2, h3⟩ | ⟨h2, h3, h4⟩
  · omega
  · obtain ⟨L', g1, g2⟩ := h3.short h hL
    have := h4 L' g1; omega
  · omega
  · obtain ⟨L', g1, g2⟩ := h3.short h hL
    have := h4 L' g1; omega
end
/-! ### the links are entered -/
def linkStep (D : Mx) (l : LinkT) : Mx := updM (updM D l.A l.B l.Latency) l.B l.A l.Latency
def linkD (ls : List LinkT) : Mx := ls.foldl linkStep fun i k => if i = k then 0 else -1
theorem linkD_snoc {ls : List LinkT} {k : Nat} {l : LinkT} (h : ls[k]? = some l) : linkStep (linkD (ls.take k)) l = linkD (ls.take (k + 1)) := by
  unfold linkD
  rw [take_succ_of h, List.foldl_append]; rfl
theorem linkD_ok : ∀ (n : Nat) {ls : List LinkT}, ls.length = n → (∀ l ∈ ls, l.A ≠ l.B ∧ 0 ≤ l.Latency) → (ls.map linkKey).Nodup → LinkM ls (linkD ls)
  | 0, ls, hn, _, _ => by
    have : ls = [] := List.eq_nil_of_length_eq_zero hn
    subst this
    refine ⟨fun i k => ?_, fun i _ => by unfold linkD; simp, fun i k _ _ hne h0 => ?_, by simp⟩
    · unfold linkD
      by_cases e : i = k <;> simp [e]
    · unfold linkD at h0
      simp [hne] at h0
  | n + 1, ls, hn, hA, hk => by
    obtain ⟨l, hl⟩ := get_lt (l := ls) (k := n) (by omega)
    have hsp : ls = ls.take n ++ [l] := by rw [← take_succ_of hl, List.take_of_length_le (by omega)]
    have hlm := List.mem_of_getElem? hl
    have ih := linkD_ok n (ls := ls.take n) (by simp; omega) (fun x hx => hA x (List.mem_of_mem_take hx)) (hk.sublist ((List.take_sublist _ _).map _))
    have hD : linkD ls = linkStep (linkD (ls.take n)) l := by rw [linkD_snoc hl, List.take_of_length_le (by omega)]
    have hAB := hA l hlm
    have hfresh : ∀ x ∈ ls.take n, linkKey x ≠ linkKey l := fun x hx e => by
      rw [hsp, List.map_append, List.nodup_append] at hk
      exact hk.2.2 _ (List.mem_map_of_mem hx) _ (by simp) e
    have val : ∀ i k, linkD ls i k = if (i = l.B ∧ k = l.A) ∨ (i = l.A ∧ k = l.B) then l.Latency else linkD (ls.take n) i k := fun i k => by
      rw [hD]
      unfold linkStep updM
      by_cases e1 : i = l.B ∧ k = l.A
      · rw [if_pos e1, if_pos (.inl e1)]
      · rw [if_neg e1]
        by_cases e2 : i = l.A ∧ k = l.B
        · rw [if_pos e2, if_pos (.inr e2)]
        · rw [if_neg e2, if_neg (by rintro (h | h) <;> contradiction)]
    refine ⟨fun i k => ?_, fun i hi => ?_, fun i k hi hk' hne h0 => ?_, fun x hx => ?_⟩
    · rw [val]; split
      · exact .inr hAB.2
      · exact ih.neg i k
    · rw [val, if_neg (by rintro (⟨h1, h2⟩ | ⟨h1, h2⟩) <;> exact hAB.1 (by omega))]
      exact ih.self i hi
    · rw [val] at h0 ⊢
      split at h0
      · rename_i e
        rw [if_pos e]
        exact ⟨l, hlm, by omega, rfl⟩
      · rename_i e
        rw [if_neg e]
        obtain ⟨x, hx, h1, h2⟩ := ih.link i k hi hk' hne h0
        exact ⟨x, List.mem_of_mem_take hx, h1, h2⟩
    · rw [val, val]
      rw [hsp] at hx
      rcases List.mem_append.1 hx with hx | hx
      · have hne := hfresh x hx
        have h1 : ¬ ((x.A = l.B ∧ x.B = l.A) ∨ (x.A = l.A ∧ x.B = l.B)) := fun e => hne (by
          unfold linkKey
          rcases e with ⟨e1, e2⟩ | ⟨e1, e2⟩
          · rw [e1, e2]; simp only [Prod.mk.injEq]; omega
          · rw [e1, e2])
        have h2 : ¬ ((x.B = l.B ∧ x.A = l.A) ∨ (x.B = l.A ∧ x.A = l.B)) := fun e => h1 (by omega)
        rw [if_neg h1, if_neg h2]
        exact ih.has x hx
      · have := List.mem_singleton.1 hx
        subst this
        rw [if_pos (.inr ⟨rfl, rfl⟩), if_pos (.inl ⟨rfl, rfl⟩)]
        exact ⟨rfl, rfl⟩
end Go.Proofs.YtfbggkmlkkffbaaDoor
end
/- Chapter 07: the program's table of distances is the reference's matrix, with 'far' where there is no way. -/
section
open Go Mk
namespace Go.Proofs.YtfbggkmlkkffbaaDoor

def farV : Int := 1152921504606846976
/-- No way is far. -/
def fM (D : Mx) : Mx := fun a b => if D a b < 0 then farV else D a b
theorem fM_upd {D : Mx} {i k v : Int} (hv : 0 ≤ v) : updM (fM D) i k v = fM (updM D i k v) := by
  funext a b
  unfold fM updM
  by_cases e : a = i ∧ b = k
  · rw [if_pos e, if_pos e, if_neg (by omega)]
  · rw [if_neg e, if_neg e]
theorem fM_bound {D : Mx} {a b B : Int} (h : -1 ≤ D a b ∧ D a b ≤ B) (hB : B ≤ farV) : 0 ≤ fM D a b ∧ fM D a b ≤ farV := by
  unfold fM farV at *
  split <;> omega
theorem fM_relax {D : Mx} {m i k : Int} (h1 : -1 ≤ D i m ∧ D i m ≤ 1000000000) (h2 : -1 ≤ D m k ∧ D m k ≤ 1000000000) (h3 : -1 ≤ D i k ∧ D i k ≤ 1000000000) :
    updM (fM D) i k (min (fM D i k) (fM D i m + fM D m k)) = fM (if relaxB D m i k = true then updM D i k (D i m + D m k) else D) := by
  funext a b
  by_cases e : a = i ∧ b = k
  · obtain ⟨rfl, rfl⟩ := e
    have hl : updM (fM D) a b (min (fM D a b) (fM D a m + fM D m b)) a b = min (fM D a b) (fM D a m + fM D m b) := by unfold updM; rw [if_pos ⟨rfl, rfl⟩]
    rw [hl]
    by_cases c : relaxB D m a b = true
    · rw [if_pos c]
      unfold relaxB at c
      simp only [Bool.and_eq_true, Bool.or_eq_true, decide_eq_true_eq] at c
      have hr : fM (updM D a b (D a m + D m b)) a b = D a m + D m b := by
        have e2 : updM D a b (D a m + D m b) a b = D a m + D m b := by unfold updM; rw [if_pos ⟨rfl, rfl⟩]
        unfold fM
        rw [e2, if_neg (by omega)]
      rw [hr]
      unfold fM farV
      rw [if_neg (show ¬ D a m < 0 by omega), if_neg (show ¬ D m b < 0 by omega)]
      split <;> omega
    · rw [if_neg c]
      unfold relaxB at c
      simp only [Bool.and_eq_true, Bool.or_eq_true, decide_eq_true_eq] at c
      unfold fM farV
      split <;> split <;> split <;> omega
  · have hl : updM (fM D) i k (min (fM D i k) (fM D i m + fM D m k)) a b = fM D a b := by unfold updM; rw [if_neg e]
    rw [hl]
    have e2 : (if relaxB D m i k = true then updM D i k (D i m + D m k) else D) a b = D a b := by
      split
      · unfold updM; rw [if_neg e]
      · rfl
    unfold fM
    rw [e2]
end Go.Proofs.YtfbggkmlkkffbaaDoor
end
/- Chapter 07: assignments of devices to cores and potentials: what has a potential costs least. -/
section
open Go Mk
namespace Go.Proofs.YtfbggkmlkkffbaaDoor

section
variable {n cap : Nat} {a : Nat → Int → Int} {x y : List Int} {π : Int → Int}
end
/-! ### the residual graph -/
/-! ### the search for shortest paths -/
section
variable {n s : Nat} {W : Nat → Nat → Int} {D R : Nat → Int} {φ : Nat → Int}
end
end Go.Proofs.YtfbggkmlkkffbaaDoor
end
/- Chapter 07: devices move along a shortest way; the least sequence of cores. -/
section
open Go Mk
namespace Go.Proofs.YtfbggkmlkkffbaaDoor

section
variable {n cap first s : Nat} {a : Nat → Int → Int} {x0 : List Int} {W V : Nat → Nat → Int} {D R : Nat → Int} {φ : Nat → Int}
end
end Go.Proofs.YtfbggkmlkkffbaaDoor
end
/- Chapter 07: devices are assigned one by one; the least sequence of cores among the cheapest ones. -/
section
open Go Mk
namespace Go.Proofs.YtfbggkmlkkffbaaDoor

section
variable {n cap first s : Nat} {a : Nat → Int → Int} {x : List Int} {W V : Nat → Nat → Int} {D R : Nat → Int} {φ : Nat → Int}
/-! ### the least sequence -/
end
end Go.Proofs.YtfbggkmlkkffbaaDoor
end
/- Some resources taken as one: which they are is known up to a condition. -/
section
open Go
namespace Mk
end Mk
end
/- A map that is not changed may be read from a later world. -/
section
open Go
namespace Mk
end Mk
end
/- The library's sort at whole numbers, carried into this world of words. -/
section
open Go
namespace Mk

section
variable {P : Program} {Γ : Gho} {S : List Res} {w : World} {E n c g i : Nat} {α : Type} [Inhabited α] {f : α → Value}
theorem flatK_one (d : Array α) : Go.Sort.flatK (fun x => [f x]) 1 d = d.map f := by
  refine Array.ext (by simp) fun i h1 h2 => ?_
  have h3 : i < d.size * 1 := by simpa using h1
  rw [← getElem!_pos _ i h1, Go.Sort.get_flatK _ _ _ _ h3]
  have h4 : i < d.size := by omega
  have e1 : i / 1 = i := Nat.div_one i
  have e2 : i % 1 = 0 := Nat.mod_one i
  rw [e1, e2, getElem!_pos d i h4]
  simp
theorem sortWorld_K1 (w : World) (g m : Nat) (dk : Array α) (os : Array Obj) : Go.Proofs.sortWorld f w g 0 m dk os = Go.Proofs.sortWorldK (fun x => [f x]) 1 w g 0 m dk os := by
  unfold Go.Proofs.sortWorld Go.Proofs.sortWorldK Go.Sort.putRowK Go.Sort.putRow
  congr 2
  funext cs
  refine Array.ext (by simp [Go.Sort.putCells]) fun i h1 h2 => ?_
  simp only [Go.Sort.putCells, Array.getElem_mapIdx, flatK_one, Array.size_map, Nat.zero_le, Nat.zero_add, true_and, Nat.sub_zero, id]
  by_cases h : i < dk.size
  · rw [if_pos h, if_pos h, getElem!_pos dk i h, getElem!_pos (dk.map f) i (by simpa using h)]; simp
  · rw [if_neg h, if_neg h]
end
end Mk
end
/- A call that changes one cell of a drawn region in a known way, and reads what is kept beside it. -/
section
open Go
namespace Mk
attribute [local irreducible] Calls
section
variable {P : Program} {n : Nat} {ops : List Oper} {Γ : Gho} {K : List Res} {wr tc stab : List (List Nat)} {Q : Fr → World → Prop} {i : Nat} {rest : List Oper} {ρ : Fr} {M : Nat → Fr → List Res}
variable {d : Option Tmp} {ty : TypeId} {pos : String} {es : Array Edge} {f : Nat} {args : List Operand} {tys : Array TypeId} {vs : List Value} {v : Value}
variable {x y : Operand} {T : TypeId}
end
end Mk
end
/- The frame is set anew in the middle of a region. -/
section
open Go
namespace Mk
section
variable {P : Program} {n : Nat} {ops : List Oper} {Γ : Gho} {K : List Res} {Q : Fr → World → Prop} {ρ : Fr} {rest : List Oper} {wr tc stab : List (List Nat)} {i : Nat} {M : Nat → Fr → List Res}
variable {ty : TypeId} {pos : String} {es : Array Edge}
end
section
variable {P : Program} {ρ : Fr} {w : World} {d : Option Tmp} {T U ty : TypeId} {pos : String} {es : Array Edge} {x y : Operand} {g : Option (Nat × Bool)}
theorem y_neqlb (hT : P.underlying T = some .bool) {a b : Bool} (hx : ev ρ x = .bool a) (hy : ev ρ y = .bool b) : Yields P ⟨d, .binOp .neq T x y U, ty, pos, es, g⟩ ρ w (.bool (!(a == b))) := by
  unfold Yields; simp [execOp, go_sem, hx, hy, hT]
end
end Mk
end
/- A block that is never changed again: frozen, and read. -/
section
open Go
namespace Mk
attribute [local irreducible] Calls
class ImB (Γ : Gho) (b : Nat) (cs : outParam (Array Value)) (E : outParam TypeId) : Prop where h : Γ.imm b = some (.cells cs E (0, 0))
theorem Wd.freezeB {Γ : Gho} {S : List Res} {w : World} {b : Nat} {cs : Array Value} {E : TypeId} (h : Wd Γ (.blk b (.cells cs E) :: S) w) : ∃ Γ', Γ.le Γ' ∧ ImB Γ' b cs E ∧ Wd Γ' S w := by
  obtain ⟨bss, h1, h2, h3⟩ := h.own
  cases bss with
  | nil => exact h1.elim
  | cons bs bss =>
    obtain ⟨hr, h1⟩ := h1
    obtain ⟨e1, e2⟩ : bs = [b] ∧ hp w b = some (.cells cs E) := by unfold Res.blk at hr; exact hr
    subst e1
    have hg := h3 b (by simp)
    have hnd : b ∉ bss.flatten ∧ bss.flatten.Nodup := by simpa using h2
    have hle : ∀ x o, Γ.imm x = some o → (fun x => if x = b then some (Obj.cells cs E (0, 0)) else Γ.imm x) x = some o := fun x o hx => by
      show (if x = b then _ else _) = _
      rw [if_neg (fun hh => by subst hh; rw [hg.2] at hx; cases hx)]; exact hx
    refine ⟨{ Γ with imm := fun x => if x = b then some (.cells cs E (0, 0)) else Γ.imm x }, ⟨hle, rfl, rfl, rfl, rfl⟩, ⟨if_pos rfl⟩, h.os, h.tape, h.out, h.dr, fun x o hb => ?_, bss, Holds.loc hle S bss (fun _ _ => rfl) h1, hnd.2, fun x hb => ⟨(h3 x (by simp [hb])).1, ?_⟩⟩
    · have hb : (if x = b then some (Obj.cells cs E (0, 0)) else Γ.imm x) = some o := hb
      by_cases hbg : x = b
      · subst hbg
        rw [if_pos rfl] at hb; cases hb
        exact e2
      · rw [if_neg hbg] at hb; exact h.imm x o hb
    · show (if x = b then _ else _) = none
      rw [if_neg (fun hh => by subst hh; exact hnd.1 hb)]
      exact (h3 x (by simp [hb])).2
section
variable {P : Program} {Γ : Gho} {S : List Res} {ρ : Fr} {w : World} {d : Option Tmp} {T ty : TypeId} {pos : String} {es : Array Edge} {g : Option (Nat × Bool)} {x : Operand}
theorem y_l1m {b k : Nat} {v : Value} {cs : Array Value} {E : TypeId} [TS P T] [hB : ImB Γ b cs E] (hw : Wd Γ S w) (hx : ev ρ x = .pointer (some ⟨b, k, none⟩)) (hv : cs[k]? = some v) :
    Yields P ⟨d, .load T x, ty, pos, es, g⟩ ρ w v := y_load1 hx (cell_of (hw.imm _ _ hB.h) hv)
end
section
variable {P : Program} {n : Nat} {ops : List Oper} {Γ : Gho} {K : List Res} {wr tc stab : List (List Nat)} {Q : Fr → World → Prop} {i : Nat} {rest : List Oper} {ρ : Fr} {M : Nat → Fr → List Res} {T ty : TypeId} {pos : String} {es : Array Edge} {x : Operand}
end
end Mk
end
/- A call in a drawn region that reads one cell and answers a plain value; slices of slices that are owned. -/
section
open Go
namespace Mk
attribute [local irreducible] Calls
section
variable {P : Program} {n : Nat} {ops : List Oper} {Γ : Gho} {K : List Res} {wr tc stab : List (List Nat)} {Q : Fr → World → Prop} {i : Nat} {rest : List Oper} {ρ : Fr} {M : Nat → Fr → List Res}
variable {d : Option Tmp} {ty : TypeId} {pos : String} {es : Array Edge} {f : Nat} {args : List Operand} {tys : Array TypeId} {v : Value}
theorem mCallR {c : Nat} {F : Fr → List Res} (vs : Fr → List Value) [FnOk P f]
    (hs : ∀ g w Y, Wd Γ (F (ovr (stab.getD c []) g noFr) ++ (K ++ Y)) w → Calls P f (vs (ovr (stab.getD c []) g noFr)).toArray w fun e w' => e = .returned v ∧ Wd Γ (F (ovr (stab.getD c []) g noFr) ++ (K ++ Y)) w')
    (h : MSw (mV P n ops Γ K wr tc stab) Q (i + 1) rest ⟨putO ρ d v, M⟩) (hM : M c = F := by first | exact setC_self | exact ml1 | exact ml2 | exact ((setC_other (by decide)).trans setC_self) | exact rfl) (hw0 : wr.getD i [] = [] := by exact rfl) (ht : tc.getD i [] = [c] := by exact rfl) (ho : outOf tc stab i d = true := by exact rfl) (ha : ∀ g, EvL (ovr stab.flatten g ρ) args (vs (ovr (stab.getD c []) g noFr)) := by intro g; exact byEV) :
    MSw (mV P n ops Γ K wr tc stab) Q i (⟨d, .call { callee := .value (.func f), args := args.toArray, argTypes := tys }, ty, pos, es, none⟩ :: rest) ⟨ρ, M⟩ := by
  refine mC (v := v) (fun Y w g hw => ?_) hw0 rfl ho h
  rw [cells1 ht, hM] at hw ⊢
  exact s_call (ha g).eqA ((hs g w Y hw.swapApp).mono fun e w' ⟨h1, h2⟩ => ⟨v, h1, rfl, h2.swapApp⟩)
end
/-! ### slices in a slice -/
/-- The inner slices, each owned: its header and its rows. -/
def inn (E sz : Nat) (L : List (Value × List (List Value))) : List Res := L.map fun p => Res.own p.1 E sz p.2
section
variable {Γ : Gho} {S : List Res} {w : World} {E sz k : Nat} {L : List (Value × List (List Value))} {p q : Value × List (List Value)}
theorem inn_perm (h : L[k]? = some p) : (inn E sz L).Perm (Res.own p.1 E sz p.2 :: inn E sz (L.eraseIdx k)) := (perm_pull h).map _ where
  perm_pull : ∀ {L : List (Value × List (List Value))} {k : Nat} {p}, L[k]? = some p → L.Perm (p :: L.eraseIdx k)
  | [], _, _, h => by simp at h
  | x :: L, 0, p, h => by simp at h; subst h; exact .refl _
  | x :: L, k + 1, p, h => by
    have := perm_pull (L := L) (k := k) (p := p) (by simpa using h)
    exact (this.cons x).trans (.swap _ _ _)
end
/-- Resources behind the first ones are brought to the front. -/
theorem Wd.rot {Γ : Gho} {A B : List Res} {r : Res} {w : World} (h : Wd Γ (r :: (A ++ B)) w) : Wd Γ (A ++ (r :: B)) w := h.perm List.perm_middle.symm
theorem Wd.unrot {Γ : Gho} {A B : List Res} {r : Res} {w : World} (h : Wd Γ (A ++ (r :: B)) w) : Wd Γ (r :: (A ++ B)) w := h.perm List.perm_middle
end Mk
end
/- The reference's Validate: names, ranges, alignment (printed by a program). -/
section
open Go Mk
namespace Go.Proofs.YtfbggkmlkkffbaaDoor
set_option maxHeartbeats 16000000
attribute [local irreducible] Calls
def powB (v : Int) : Bool := decide (0 < v) && decide (bitsZ .and .u64 v (IntKind.u64.wrap (v - 1)) = 0)
end Go.Proofs.YtfbggkmlkkffbaaDoor
end
/- The reference's Validate: alignment by bits; overlap. -/
section
open Go Mk
namespace Go.Proofs.YtfbggkmlkkffbaaDoor
set_option maxHeartbeats 16000000
attribute [local irreducible] Calls
/-! ### powers of two -/
theorem pow_of_and : ∀ (n : Nat), 0 < n → n &&& (n - 1) = 0 → ∃ e, n = 2 ^ e := by
  intro n
  induction n using Nat.strongRecOn with
  | ind n ih =>
    intro h0 h
    have h1 : (n / 2) &&& ((n - 1) / 2) = 0 := by rw [← Nat.and_div_two, h]
    by_cases e : n % 2 = 0
    · have h2 : (n - 1) / 2 = n / 2 - 1 := by omega
      rw [h2] at h1
      obtain ⟨e1, he⟩ := ih (n / 2) (by omega) (by omega) h1
      exact ⟨e1 + 1, by rw [Nat.pow_succ, ← he]; omega⟩
    · have h2 : (n - 1) / 2 = n / 2 := by omega
      rw [h2, Nat.and_self] at h1
      exact ⟨0, by omega⟩
def u64I (n : Int) : Prop := 0 ≤ n ∧ n < 18446744073709551616
theorem bitsU {a b : Int} (ha : u64I a) (hb : u64I b) : bitsZ .and .u64 a b = ((a.toNat &&& b.toNat : Nat) : Int) := by
  unfold u64I at ha hb
  have h1 : (BitVec.ofInt 64 a).toNat = a.toNat := by rw [BitVec.toNat_ofInt]; omega
  have h2 : (BitVec.ofInt 64 b).toNat = b.toNat := by rw [BitVec.toNat_ofInt]; omega
  have h3 : (BitVec.ofInt 64 a &&& BitVec.ofInt 64 b).toNat = a.toNat &&& b.toNat := by rw [BitVec.toNat_and, h1, h2]
  have h4 : a.toNat &&& b.toNat ≤ a.toNat := Nat.and_le_left
  show IntKind.u64.wrap ((BitVec.ofInt 64 a &&& BitVec.ofInt 64 b).toNat : Nat) = _
  rw [h3]
  simp [IntKind.wrap, IntKind.bits, IntKind.signed]
  omega
theorem align_eq {b s : Int} (hb : u64I b) (hs : 4096 ≤ s ∧ s ≤ 1099511627776) :
    (powB s && decide (b.tmod s = 0)) = (decide (bitsZ .and .u64 s (IntKind.u64.wrap (s - 1)) = 0) && decide (bitsZ .and .u64 b (IntKind.u64.wrap (s - 1)) = 0)) := by
  have hw : IntKind.u64.wrap (s - 1) = s - 1 := by simp [IntKind.wrap, IntKind.bits, IntKind.signed]; omega
  have hs1 : u64I s := by unfold u64I; omega
  have hs2 : u64I (s - 1) := by unfold u64I; omega
  unfold powB
  rw [hw, bitsU hs1 hs2, bitsU hb hs2, decide_eq_true (show 0 < s by omega), Bool.true_and]
  by_cases e : ((s.toNat &&& (s - 1).toNat : Nat) : Int) = 0
  · rw [decide_eq_true e, Bool.true_and, Bool.true_and]
    have e0 : s.toNat &&& (s.toNat - 1) = 0 := by
      have : (s - 1).toNat = s.toNat - 1 := by omega
      rw [this] at e; omega
    obtain ⟨p, hp⟩ := pow_of_and s.toNat (by omega) e0
    have h1 : (s - 1).toNat = 2 ^ p - 1 := by omega
    rw [h1, Nat.and_two_pow_sub_one_eq_mod, ← hp]
    unfold u64I at hb
    rw [Int.tmod_eq_emod_of_nonneg hb.1]
    congr 1
    apply propext
    have h2 : b % s = ((b.toNat % s.toNat : Nat) : Int) := by
      rw [Int.natCast_emod]
      congr 1 <;> omega
    rw [h2]
  · rw [decide_eq_false e, Bool.false_and, Bool.false_and]
/-- The fields of memories that are not signed. -/
def MemWide (H : HwT) : Prop := ∀ x ∈ H.Mems, u64I x.Base
end Go.Proofs.YtfbggkmlkkffbaaDoor
end
/- The reference's overlap (printed by gen_rv6.py). -/
section
open Go Mk
namespace Go.Proofs.YtfbggkmlkkffbaaDoor
set_option maxHeartbeats 16000000
attribute [local irreducible] Calls
end Go.Proofs.YtfbggkmlkkffbaaDoor
end
/- The reference's Used and CoreAt (the same text as parts of Z33 and Z34: never import both). -/
section
open Go Mk
namespace Go.Proofs.YtfbggkmlkkffbaaDoor
set_option maxHeartbeats 16000000
attribute [local irreducible] Calls
end Go.Proofs.YtfbggkmlkkffbaaDoor
end
/- The reference's connected (printed by gen_rv7.py). -/
section
open Go Mk
namespace Go.Proofs.YtfbggkmlkkffbaaDoor
set_option maxHeartbeats 16000000
attribute [local irreducible] Calls
end Go.Proofs.YtfbggkmlkkffbaaDoor
end
/- The reference's Validate: what is defined twice (printed by a program). -/
section
open Go Mk
namespace Go.Proofs.YtfbggkmlkkffbaaDoor
set_option maxHeartbeats 16000000
attribute [local irreducible] Calls
end Go.Proofs.YtfbggkmlkkffbaaDoor
end
/- The reference's Validate: nested caches. -/
section
open Go Mk
namespace Go.Proofs.YtfbggkmlkkffbaaDoor
set_option maxHeartbeats 16000000
attribute [local irreducible] Calls
end Go.Proofs.YtfbggkmlkkffbaaDoor
end
/- The reference's Validate = the program's. -/
section
open Go Mk
namespace Go.Proofs.YtfbggkmlkkffbaaDoor
set_option maxHeartbeats 16000000
attribute [local irreducible] Calls
end Go.Proofs.YtfbggkmlkkffbaaDoor
end
/- What height computes, in plain words. -/
section
open Go Mk
namespace Go.Proofs.YtfbggkmlkkffbaaDoor

def tcmp (t : Int → Int) (a b : Int) : Int := orI (cI (t b) (t a)) (cI a b)
theorem cI_lt {a b : Int} : cI a b < 0 ↔ a < b := by unfold cI; split <;> (try split) <;> omega
/-- The order of transmission. -/
def tsort (t : Int → Int) (l : List Int) : List Int := l.mergeSort fun x y => !(Go.Proofs.ltOf (tcmp t)) y x
section
variable (far : Int → Int → Int) (cost : Int) (ch : Int → List Int)
def hmostF (cost : Int) (t : Int → Int) : Nat → Int → List Int → Int
  | _, m, [] => m
  | i, m, c :: l => hmostF cost t (i + 1) (max m (((i : Int) + 1) * cost + t c)) l
def hF : Nat → Int → Int
  | 0, _ => 0
  | k + 1, c => hmostF cost (fun d => far c d + hF k d) 0 0 (tsort (fun d => far c d + hF k d) (ch c))
/-- Heights, tails and the order of the children, for a tree of depth at most 4. -/
def hh (c : Int) : Int := hF far cost ch 4 c
end
section
variable {far : Int → Int → Int} {cost : Int} {ch : Int → List Int}
end
end Go.Proofs.YtfbggkmlkkffbaaDoor
end
/- Looking for a core by its number. -/
section
open Go Mk
namespace Go.Proofs.YtfbggkmlkkffbaaDoor
set_option maxHeartbeats 8000000
attribute [local irreducible] Calls
def coreIx (l : List CoreT) (id : Int) : Int := match l.findIdx? (fun x => decide (x.ID = id)) with | some k => k | none => -1
def findC (l : List CoreT) (id : Int) : CoreT × Bool := match l.find? (fun x => decide (x.ID = id)) with | some c => (c, true) | none => (⟨0, 0, 0, 0⟩, false)
theorem coreIx_some {l : List CoreT} {id : Int} {k : Nat} {x : CoreT} (hx : l[k]? = some x) (he : x.ID = id) (hl : ∀ j y, j < k → l[j]? = some y → y.ID ≠ id) : coreIx l id = k ∧ findC l id = (x, true) := by
  obtain ⟨hk, hxk⟩ := List.getElem?_eq_some_iff.1 hx
  have h1 : l.findIdx? (fun x => decide (x.ID = id)) = some k := by
    rw [List.findIdx?_eq_some_iff_getElem]
    refine ⟨hk, by rw [hxk]; simpa using he, fun j hj => ?_⟩
    have := hl j l[j] hj (List.getElem?_eq_getElem ..)
    simpa using this
  have h2 : l.find? (fun x => decide (x.ID = id)) = some x := by
    rw [List.find?_eq_some_iff_getElem]
    refine ⟨by simpa using he, k, hk, hxk, fun j hj => ?_⟩
    have := hl j l[j] hj (List.getElem?_eq_getElem ..)
    simpa using this
  unfold coreIx findC
  rw [h1, h2]; exact ⟨rfl, rfl⟩
theorem coreIx_none {l : List CoreT} {id : Int} (hl : ∀ y ∈ l, y.ID ≠ id) : coreIx l id = -1 ∧ findC l id = (⟨0, 0, 0, 0⟩, false) := by
  have h1 : l.findIdx? (fun x => decide (x.ID = id)) = none := by
    rw [List.findIdx?_eq_none_iff]; intro x hx; simpa using hl x hx
  have h2 : l.find? (fun x => decide (x.ID = id)) = none := by
    rw [List.find?_eq_none]; intro x hx; simpa using hl x hx
  unfold coreIx findC
  rw [h1, h2]; exact ⟨rfl, rfl⟩

theorem coreIx_cases (l : List CoreT) (id : Int) : (coreIx l id = -1 ∧ findC l id = (⟨0, 0, 0, 0⟩, false) ∧ ∀ y ∈ l, y.ID ≠ id) ∨ ∃ (k : Nat) (x : CoreT), coreIx l id = k ∧ l[k]? = some x ∧ x.ID = id ∧ findC l id = (x, true) := by
  by_cases h : ∀ y ∈ l, y.ID ≠ id
  · have := coreIx_none h
    exact .inl ⟨this.1, this.2, h⟩
  · right
    cases hq : l.findIdx? (fun x => decide (x.ID = id)) with
    | none =>
      exfalso; apply h
      intro y hy he
      have := List.findIdx?_eq_none_iff.1 hq y hy
      simp [he] at this
    | some k =>
      obtain ⟨hk, h1, h2⟩ := List.findIdx?_eq_some_iff_getElem.1 hq
      have hx := List.getElem?_eq_getElem hk
      have h1 : l[k].ID = id := by simpa using h1
      have := coreIx_some hx h1 (fun j y hj hy => by
        obtain ⟨hj2, e⟩ := List.getElem?_eq_some_iff.1 hy
        have := h2 j hj
        rw [← e]; simpa using this)
      exact ⟨k, l[k], this.1, hx, h1, this.2⟩
end Go.Proofs.YtfbggkmlkkffbaaDoor
end
/- Distances between cores, each node's computed once. -/
section
open Go Mk
namespace Go.Proofs.YtfbggkmlkkffbaaDoor
set_option maxHeartbeats 8000000
attribute [local irreducible] Calls
end Go.Proofs.YtfbggkmlkkffbaaDoor
end
/- What is asked of a root and of members. -/
section
open Go Mk
namespace Go.Proofs.YtfbggkmlkkffbaaDoor
set_option maxHeartbeats 8000000
attribute [local irreducible] Calls
theorem ints1 (xs : List Int) : (intRows xs).flatten.all (·.oneCell') = true := by
  induction xs with
  | nil => rfl
  | cons x xs ih => simp only [intRows, List.map_cons, List.flatten_cons, List.all_append] at ih ⊢; rw [ih]; rfl
end Go.Proofs.YtfbggkmlkkffbaaDoor
end
/- Trees: route.Validate. -/
section
open Go Mk
namespace Go.Proofs.YtfbggkmlkkffbaaDoor
set_option maxHeartbeats 8000000
attribute [local irreducible] Calls
end Go.Proofs.YtfbggkmlkkffbaaDoor
end
/- Cores of a valid description: their nodes are in range and connected; what Arrivals computes. -/
section
open Go Mk
namespace Go.Proofs.YtfbggkmlkkffbaaDoor

theorem core_node {H : HwT} (hv : validS H = 0) {c : CoreT} (hc : c ∈ H.Cores) : 0 ≤ c.Node ∧ c.Node < 64 := by
  obtain ⟨-, -, h3, -⟩ := valid_all hv
  unfold coresRB at h3
  simp only [Bool.and_eq_true] at h3
  have := List.all_eq_true.1 h3.1.1 c hc
  simp [coreRB, isNodeB] at this
  omega
/-- What Arrivals computes: the start of each core, how much each has sent. -/
def updI (f : Int → Int) (a v : Int) : Int → Int := fun x => if a = x then v else f x
end Go.Proofs.YtfbggkmlkkffbaaDoor
end
/- Completion, once Arrivals is known. -/
section
open Go Mk
namespace Go.Proofs.YtfbggkmlkkffbaaDoor
set_option maxHeartbeats 8000000
attribute [local irreducible] Calls
end Go.Proofs.YtfbggkmlkkffbaaDoor
end
/- The distances between cores as one resource. -/
section
open Go Mk
namespace Go.Proofs.YtfbggkmlkkffbaaDoor
set_option maxHeartbeats 8000000
attribute [local irreducible] Calls
end Go.Proofs.YtfbggkmlkkffbaaDoor
end
/- Two descriptions are compared (loops printed by a program). -/
section
open Go Mk
namespace Go.Proofs.YtfbggkmlkkffbaaDoor
set_option maxHeartbeats 8000000
attribute [local irreducible] Calls
end Go.Proofs.YtfbggkmlkkffbaaDoor
end
/- The program's parser: Parse, which recovers what the parser throws. -/
section
open Go Mk
namespace Go.Proofs.YtfbggkmlkkffbaaDoor
set_option maxHeartbeats 4000000
attribute [local irreducible] Calls
/-- A description in a variable that a function answers. -/
abbrev hwZ : List Value := [.string ⟨#[]⟩, .slice none 0 0, .slice none 0 0, .slice none 0 0, .slice none 0 0, .slice none 0 0]
section
variable {Γ : Gho} {S : List Res} {w : World} {b2 b3 b4 : Nat} {h0 : Array Value} {p0 : PosT} {e0 : Int}
end
section
variable {Γ : Gho} {S : List Res} {w : World}
end
end Go.Proofs.YtfbggkmlkkffbaaDoor
end
/- The sanity check of the chapter: its examples. -/
section
open Go Mk
namespace Go.Proofs.YtfbggkmlkkffbaaDoor
set_option maxHeartbeats 8000000
attribute [local irreducible] Calls
theorem HwOut.freeze {Γ : Gho} {S : List Res} {w : World} {H : HwT} {u : Value} (h : HwOut Γ H S u w) (hsz : HwSz H) : ∃ Γ', Γ.le Γ' ∧ HwR Γ' u H ∧ Wd Γ' S w := by
  obtain ⟨v1, v2, v3, v4, v5, cs, hcs, hok, rfl, hw⟩ := h
  obtain ⟨a1, n1, c1, rfl, -, -, -⟩ := hw.own_shape (i := 0) rfl
  obtain ⟨a2, n2, c2, rfl, -, -, -⟩ := hw.own_shape (i := 1) rfl
  obtain ⟨a3, n3, c3, rfl, -, -, -⟩ := hw.own_shape (i := 2) rfl
  obtain ⟨a4, n4, c4, rfl, -, -, -⟩ := hw.own_shape (i := 3) rfl
  obtain ⟨a5, n5, c5, rfl, -, -, -⟩ := hw.own_shape (i := 4) rfl
  obtain ⟨Γ1, e1, r1, hw⟩ := hw.freeze
  obtain ⟨Γ2, e2, r2, hw⟩ := hw.freeze
  obtain ⟨Γ3, e3, r3, hw⟩ := hw.freeze
  obtain ⟨Γ4, e4, r4, hw⟩ := hw.freeze
  obtain ⟨Γ5, e5, r5, hw⟩ := hw.freeze
  have f4 := e5
  have f3 := e4.trans f4
  have f2 := e3.trans f3
  have f1 := e2.trans f2
  exact ⟨Γ5, e1.trans f1, ⟨_, _, _, _, _, _, _, _, _, _, _, _, _, _, _, cs, rfl, hcs, fun c hc => (hok c hc).mono (e1.trans f1), hsz, r1.mono f1, r2.mono f2, r3.mono f3, r4.mono f4, r5⟩, hw⟩
def hw1 : HwT := ⟨⟨#[109]⟩, [⟨0, 32, 0, 1⟩], [], [], [], []⟩
def hw2 : HwT := ⟨⟨#[109]⟩, [⟨0, 33, 0, 1⟩], [], [], [], []⟩
theorem sz2 : HwSz hw2 := by unfold HwSz maxS; decide
end Go.Proofs.YtfbggkmlkkffbaaDoor
end
/- Insertion sort by swaps: its laws. -/
section
open Go Mk
namespace Mk
/-! Insertion sort by swaps, as slices.insertionSortCmpFunc does it. -/
section
variable {α : Type} {lt : α → α → Bool}
end
end Mk
end
/- The comparisons by which Normalize sorts. -/
section
open Go Mk
namespace Go.Proofs.YtfbggkmlkkffbaaDoor
set_option maxHeartbeats 16000000
attribute [local irreducible] Calls
instance pc_cmpi (a b : Int) : PC Tryd.prog 20 [.int .i64 a, .int .i64 b] (.int .i64 (cI a b)) := ⟨fun w => by
  refine calls_of_W Tryd.func20 rfl rfl ?_
  repeat (first | refine byW ?_ | (refine byV ?_; intro w hw))
  refine W_cond_false rfl ?_
  repeat (first | refine byW ?_ | (refine byV ?_; intro w hw))
  refine W_cond_false rfl ?_
  repeat (first | refine byW ?_ | (refine byV ?_; intro w hw))
  refine W_cond rfl (fun h => ?_) (fun h => ?_)
  · repeat (first | refine byW ?_ | (refine byV ?_; intro w hw))
    exact ⟨_, rfl, ret_i rfl (by simp at h; simp [cI, h]), rfl⟩
  repeat (first | refine byW ?_ | (refine byV ?_; intro w hw))
  refine W_cond rfl (fun h2 => ?_) (fun h2 => ?_)
  · repeat (first | refine byW ?_ | (refine byV ?_; intro w hw))
    exact ⟨_, rfl, ret_i rfl (by simp at h h2; unfold cI; rw [if_neg (by omega), if_pos h2]), rfl⟩
  · repeat (first | refine byW ?_ | (refine byV ?_; intro w hw))
    exact ⟨_, rfl, ret_i rfl (by simp at h h2; unfold cI; rw [if_neg (by omega), if_neg (by omega)]), rfl⟩⟩
end Go.Proofs.YtfbggkmlkkffbaaDoor
end
/- The library's sort lies in this program: a row a fact (written by a program of mine; the kernel checks each). -/
section
open Go Mk
namespace Go.Proofs.YtfbggkmlkkffbaaDoor
def lay_rng_ren : Go.Shelf.Ren := ⟨fun | 6 => 18 | 15 => 29 | 14 => 28 | 28 => 50 | 29 => 51 | 20 => 42 | 21 => 43 | 22 => 44 | 23 => 45 | 24 => 46 | 25 => 47 | 26 => 48 | 27 => 49 | 46 => 73 | 47 => 74 | 48 => 75 | 49 => 76 | 50 => 77 | 57 => 84 | n => n, fun | 22 => 38 | 24 => 43 | 25 => 74 | 3 => 3 | 39 => 44 | 0 => 0 | 53 => 99 | 55 => 41 | 4 => 4 | 46 => 92 | 45 => 91 | 50 => 96 | 5 => 5 | 9 => 9 | 66 => 121 | 70 => 125 | 76 => 134 | 77 => 135 | n => n, fun | n => n⟩
theorem lay_rng : Go.Proofs.SlLaysF0.n6 Tryd.prog lay_rng_ren := {
  mixed := by kernel_rfl
  f6 := ⟨Tryd.f18.name, by decide, Tryd.func18.trans (congrArg some (by kernel_rfl))⟩
  f14 := ⟨Tryd.f28.name, by decide, Tryd.func28.trans (congrArg some (by kernel_rfl))⟩
  f15 := Tryd.func29.trans (congrArg some (by kernel_rfl))
  f20 := ⟨Tryd.f42.name, by decide, Tryd.func42.trans (congrArg some (by kernel_rfl))⟩
  f21 := ⟨Tryd.f43.name, by decide, Tryd.func43.trans (congrArg some (by kernel_rfl))⟩
  f22 := ⟨Tryd.f44.name, by decide, Tryd.func44.trans (congrArg some (by kernel_rfl))⟩
  f23 := ⟨Tryd.f45.name, by decide, Tryd.func45.trans (congrArg some (by kernel_rfl))⟩
  f24 := ⟨Tryd.f46.name, by decide, Tryd.func46.trans (congrArg some (by kernel_rfl))⟩
  f25 := ⟨Tryd.f47.name, by decide, Tryd.func47.trans (congrArg some (by kernel_rfl))⟩
  f26 := ⟨Tryd.f48.name, by decide, Tryd.func48.trans (congrArg some (by kernel_rfl))⟩
  f27 := ⟨Tryd.f49.name, by decide, Tryd.func49.trans (congrArg some (by kernel_rfl))⟩
  f28 := Tryd.func50.trans (congrArg some (by kernel_rfl))
  f29 := Tryd.func51.trans (congrArg some (by kernel_rfl))
  f46 := ⟨Tryd.f73.name, by decide, Tryd.func73.trans (congrArg some (by kernel_rfl))⟩
  f47 := Tryd.func74.trans (congrArg some (by kernel_rfl))
  f48 := Tryd.func75.trans (congrArg some (by kernel_rfl))
  f49 := ⟨Tryd.f76.name, by decide, Tryd.func76.trans (congrArg some (by kernel_rfl))⟩
  f50 := ⟨Tryd.f77.name, by decide, Tryd.func77.trans (congrArg some (by kernel_rfl))⟩
  f57 := ⟨Tryd.f84.name, by decide, Tryd.func84.trans (congrArg some (by kernel_rfl))⟩
  t0 := Tryd.underlying0
  a0 := Tryd.isAgg0
  z0 := Tryd.sizeOf0
  v0 := Tryd.zeroValue0
  t3 := Tryd.underlying3
  a3 := Tryd.isAgg3
  z3 := Tryd.sizeOf3
  v3 := Tryd.zeroValue3
  t4 := Tryd.underlying4
  a4 := Tryd.isAgg4
  z4 := Tryd.sizeOf4
  v4 := Tryd.zeroValue4
  t5 := Tryd.underlying5
  a5 := Tryd.isAgg5
  z5 := Tryd.sizeOf5
  v5 := Tryd.zeroValue5
  t9 := Tryd.underlying9
  a9 := Tryd.isAgg9
  z9 := Tryd.sizeOf9
  v9 := Tryd.zeroValue9
  t22 := Tryd.underlying38
  a22 := Tryd.isAgg38
  z22 := Tryd.sizeOf38
  v22 := Tryd.zeroValue38
  t25 := Tryd.underlying74
  a25 := Tryd.isAgg74
  z25 := Tryd.sizeOf74
  v25 := Tryd.zeroValue74
  t39 := Tryd.underlying44
  a39 := Tryd.isAgg44
  z39 := Tryd.sizeOf44
  v39 := Tryd.zeroValue44
  t45 := Tryd.underlying91
  a45 := Tryd.isAgg91
  z45 := Tryd.sizeOf91
  v45 := Tryd.zeroValue91
  t46 := Tryd.underlying92
  a46 := Tryd.isAgg92
  z46 := Tryd.sizeOf92
  v46 := Tryd.zeroValue92
  t50 := Tryd.underlying96
  a50 := Tryd.isAgg96
  z50 := Tryd.sizeOf96
  v50 := Tryd.zeroValue96
  t53 := Tryd.underlying99
  a53 := Tryd.isAgg99
  z53 := Tryd.sizeOf99
  v53 := Tryd.zeroValue99
  t55 := Tryd.underlying41
  a55 := Tryd.isAgg41
  z55 := Tryd.sizeOf41
  v55 := Tryd.zeroValue41
  t66 := Tryd.underlying121
  a66 := Tryd.isAgg121
  z66 := Tryd.sizeOf121
  v66 := Tryd.zeroValue121
  t70 := Tryd.underlying125
  a70 := Tryd.isAgg125
  z70 := Tryd.sizeOf125
  v70 := Tryd.zeroValue125
  t76 := Tryd.underlying134
  a76 := Tryd.isAgg134
  z76 := Tryd.sizeOf134
  v76 := Tryd.zeroValue134
  t77 := Tryd.underlying135
  a77 := Tryd.isAgg135
  z77 := Tryd.sizeOf135
  v77 := Tryd.zeroValue135 }
end Go.Proofs.YtfbggkmlkkffbaaDoor
end
/- The comparisons of height and Plan; the least of a group; children are sorted. -/
section
open Go Mk
namespace Go.Proofs.YtfbggkmlkkffbaaDoor
set_option maxHeartbeats 8000000
attribute [local irreducible] Calls
end Go.Proofs.YtfbggkmlkkffbaaDoor
end
/- What Plan computes, in plain words: groups by node, forwarders, children. -/
section
open Go Mk
namespace Go.Proofs.YtfbggkmlkkffbaaDoor

section
variable (H : HwT) (r : Int) (ms : List Int)
end
section
variable {H : HwT} {r : Int} {ms : List Int}
/-! ### the tree -/
end
end Go.Proofs.YtfbggkmlkkffbaaDoor
end
/- The plan's tree: whom it reaches, that it is valid, and that an exchange of two edges of one sender leaves it valid. -/
section
open Go Mk
namespace Go.Proofs.YtfbggkmlkkffbaaDoor

/-! ### what is given -/
section
variable {H : HwT} {r : Int} {ms : List Int}
/-! ### blocks of edges -/
def blocks (K : Int → List Int) (fs : List Int) : List Pl := fs.flatMap fun f => (K f).map fun t => (f, t)
/-! ### one sender's edges lie together -/
end
end Go.Proofs.YtfbggkmlkkffbaaDoor
end
/- Arrivals, walked. -/
section
open Go Mk
namespace Go.Proofs.YtfbggkmlkkffbaaDoor
set_option maxHeartbeats 8000000
attribute [local irreducible] Calls
end Go.Proofs.YtfbggkmlkkffbaaDoor
end
/- Completion, walked. -/
section
open Go Mk
namespace Go.Proofs.YtfbggkmlkkffbaaDoor
end Go.Proofs.YtfbggkmlkkffbaaDoor
end
/- Arrivals, in plain words; the plan completes no later than after an exchange. -/
section
open Go Mk
namespace Go.Proofs.YtfbggkmlkkffbaaDoor

/-! ### when an edge arrives -/
def stL (l : List (Pl × Int)) (st : Int → Int) : Int → Int := l.foldl (fun f p => updI f p.1.2 p.2) st
section
variable {far : Int → Int → Int} {cost : Int}
/-! ### the greatest -/
end

end Go.Proofs.YtfbggkmlkkffbaaDoor
end
/- Numbers drawn from a list. -/
section
open Go Mk
namespace Go.Proofs.YtfbggkmlkkffbaaDoor
set_option maxHeartbeats 8000000
attribute [local irreducible] Calls
section
variable {P : Program} {n : Nat} {ops : List Oper} {Γ : Gho} {K : List Res} {wr tc stab : List (List Nat)} {Q : Fr → World → Prop} {i : Nat} {rest : List Oper} {ρ : Fr} {M : Nat → Fr → List Res}
/-- In a mixed region: a call that changes what lies in the cell c, and whose answer is known. -/
theorem mCallD {c f : Nat} {d : Option Tmp} {ty : TypeId} {pos : String} {es : Array Edge} {args : List Operand} {tys : Array TypeId} {vs : List Value} {v : Value} {X X' : List Res} [FnOk P f]
    (hcall : ∀ S w, Wd Γ (X ++ S) w → Calls P f vs.toArray w fun e w' => e = .returned v ∧ Wd Γ (X' ++ S) w') (h : MSw (mV P n ops Γ K wr tc stab) Q (i + 1) rest ⟨putO ρ d v, setC M c fun _ => X'⟩)
    (ht : tc.getD i [] = [c] := by exact rfl) (hM : M c = (fun _ => X) := by first | exact setC_self | exact rfl) (hw0 : wr.getD i [] = [c] := by exact rfl) (ha : ∀ g, EvL (ovr stab.flatten g ρ) args vs := by intro g; exact byEV) :
    MSw (mV P n ops Γ K wr tc stab) Q i (⟨d, .call { callee := .value (.func f), args := args.toArray, argTypes := tys }, ty, pos, es, none⟩ :: rest) ⟨ρ, M⟩ := by
  refine mM (v := v) _ (fun Y w g hw => ?_) h hw0 rfl
  rw [cells1 ht, hM] at hw
  refine s_call (ha g).eqA ((hcall _ _ hw.swapApp).mono fun e w' ⟨h1, h2⟩ => ⟨v, h1, ?_, fun _ => rfl⟩)
  rw [cells1 ht, setC_self]
  exact h2.swapApp
end

/-- The number that is drawn as number k. -/
def nx (L : List Int) (k : Nat) (n : Int) : Int := ((if L = [] then 0 else (L.getD (k % L.length) 0) % 1073741824) + 7 * ((k / max L.length 1 : Nat) : Int)) % n
theorem nx_range {L : List Int} {k : Nat} {n : Int} (h : 0 < n) : 0 ≤ nx L k n ∧ nx L k n < n := ⟨Int.emod_nonneg _ (by omega), Int.emod_lt_of_pos _ h⟩
instance : PosL 1073741824 := ⟨by decide⟩
def drwB (bs : Nat) (a : Option Addr) (m c k : Nat) : Res := .blk bs (.cells #[.slice a m c, .int .i64 k] 56)
theorem Next_any {Γ : Gho} {S : List Res} {w : World} {bs : Nat} {a : Option Addr} {m c k : Nat} {L : List Int} {n : Int} (hn0 : 0 < n) (hk : k ≤ 1000000) (hr : RepS Γ (.slice a m c) 1 (intRows L)) (hw : Wd Γ (drwB bs a m c k :: S) w) :
    Calls Tryd.prog 12 #[.pointer (some ⟨bs, 0, none⟩), .int .i64 n] w fun e w' => e = .returned (.int .i64 (nx L k n)) ∧ Wd Γ (drwB bs a m c (k + 1) :: S) w' := by
  obtain ⟨hn, hnc, hc⟩ := rep_facts hr
  simp only [intRows, List.length_map] at hn
  unfold drwB at hw
  refine calls_of_W Tryd.func12 rfl rfl ?_
  iterate 8 (first | refine byW ?_ | (refine byV ?_; intro w hw))
  obtain ⟨v0, hv0⟩ : ∃ v0 : Int, v0 = (if L = [] then 0 else (L.getD (k % L.length) 0) % 1073741824) := ⟨_, rfl⟩
  have hvb : 0 ≤ v0 ∧ v0 < 1073741824 := by
    rw [hv0]; split
    · omega
    · exact ⟨Int.emod_nonneg _ (by omega), Int.emod_lt_of_pos _ (by omega)⟩
  refine W_cut (fun ρ w => Has ρ [(0, .pointer (some ⟨bs, 0, none⟩)), (1, .int .i64 n), (5, .int .i64 v0)] ∧ Wd Γ (.blk bs (.cells #[.slice a m c, .int .i64 k] 56) :: S) w) ?_ ?_
  · repeat (first | refine byW ?_ | (refine byV ?_; intro w hw))
    refine W_cond rfl (fun h => ?_) (fun h => ?_)
    · have hm : 0 < m := by simp at h; omega
      have hkm : (k : Int).tmod m = ((k % m : Nat) : Int) := by rw [Int.tmod_eq_emod_of_nonneg (by omega)]; exact (Int.natCast_emod k m).symm
      have hlt : k % m < m := Nat.mod_lt _ hm
      obtain ⟨x, hx⟩ := get_lt (l := L) (k := k % m) (by omega)
      have hx' : L[((k % m : Nat) : Int).toNat]? = some x := hx
      have hvx : v0 = x % 1073741824 := by
        rw [hv0, if_neg (fun e => by rw [e] at hn; simp at hn; omega), ← hn, List.getD_eq_getElem?_getD, hx]; rfl
      repeat (first | refine byW ?_ | (refine byV ?_; intro w hw))
      refine W_quiet (by kernel_rfl) (by kernel_rfl) hw ?_
      iterate 13 (first | refine Q_nil ?_ | (apply Q_plain; first | (apply Q_go; first | refine qP ?_ | refine qPg ?_) | refine qY ?_) | (apply Q_guarded; first | (apply Q_go; first | refine qPG ?_ | refine qPgG ?_) | refine qG ?_))
      refine qY (v := .int .i64 ((k % m : Nat) : Int)) ?_ (hy := fun w hw => by
        rw [← hkm]; exact y_rem rfl rfl (by omega))
      repeat (first | refine Q_nil ?_ | (apply Q_plain; first | (apply Q_go; first | refine qP ?_ | refine qPg ?_) | refine qY ?_) | (apply Q_guarded; first | (apply Q_go; first | refine qPG ?_ | refine qPgG ?_) | refine qG ?_))
      clear hw
      intro w hw
      repeat (first | refine byW ?_ | (refine byV ?_; intro w hw))
      exact ⟨⟨rfl, rfl, by rw [hvx]; rfl, trivial⟩, hw⟩
    · have hm : m = 0 := by simp at h; omega
      have hL : L = [] := List.eq_nil_of_length_eq_zero (by omega)
      repeat (first | refine byW ?_ | (refine byV ?_; intro w hw))
      exact ⟨⟨rfl, rfl, by rw [hv0, if_pos hL]; rfl, trivial⟩, hw⟩
  · rintro ρ w ⟨hρ, hw⟩
    rw [hρ.eq]
    clear hρ
    have hlen : max L.length 1 = max m 1 := by rw [hn]
    have hnx : nx L k n = (v0 + 7 * ((k / max m 1 : Nat) : Int)) % n := by unfold nx; rw [← hv0, hlen]
    rw [hnx]
    clear hnx hlen
    have hM : (if (m : Int) < 1 then 1 else (m : Int)) = ((max m 1 : Nat) : Int) := by
      split <;> omega
    have hMp : 0 < max m 1 := by omega
    have hq1 : (k : Int).tdiv ((max m 1 : Nat) : Int) = ((k / max m 1 : Nat) : Int) := by rw [Int.tdiv_eq_ediv_of_nonneg (by omega)]; rfl
    have hqk : k / max m 1 ≤ k := Nat.div_le_self _ _
    generalize k / max m 1 = q at *
    generalize max m 1 = M at *
    have hw1 : IntKind.i64.wrap ((q : Nat) : Int) = ((q : Nat) : Int) := wrap_i64 (by omega) (by omega)
    refine W_seq ?_
    refine W_quiet (by kernel_rfl) (by kernel_rfl) hw ?_
    iterate 10 (first | refine Q_nil ?_ | (apply Q_plain; first | (apply Q_go; first | refine qP ?_ | refine qPg ?_) | refine qY ?_) | (apply Q_guarded; first | (apply Q_go; first | refine qPG ?_ | refine qPgG ?_) | refine qG ?_))
    refine qY (v := .int .i64 ((M : Nat) : Int)) ?_ (hy := fun w hw => by rw [← hM]; exact y_max2 rfl rfl)
    refine qY (v := .int .i64 ((q : Nat) : Int)) ?_ (hy := fun w hw => by
      rw [← hw1, ← hq1]; exact y_quo rfl rfl (by omega))
    repeat (first | refine Q_nil ?_ | (apply Q_plain; first | (apply Q_go; first | refine qP ?_ | refine qPg ?_) | refine qY ?_) | (apply Q_guarded; first | (apply Q_go; first | refine qPG ?_ | refine qPgG ?_) | refine qG ?_))
    clear hw
    intro w hw
    repeat (first | refine byW ?_ | (refine byV ?_; intro w hw))
    refine lStore ?_
    intro w hw
    have hw : Wd Γ (drwB bs a m c (k + 1) :: S) w := hw
    repeat (first | refine byW ?_ | (refine byV ?_; intro w hw))
    refine ⟨_, rfl, ret_i rfl ?_, hw⟩
    rw [Int.tmod_eq_emod_of_nonneg (by omega)]
end Go.Proofs.YtfbggkmlkkffbaaDoor
end
/- Lists of IDs, and sorting by exchanges of neighbours. -/
section
open Go Mk
namespace Go.Proofs.YtfbggkmlkkffbaaDoor
set_option maxHeartbeats 8000000
attribute [local irreducible] Calls
/-- An element sinks to its place by exchanges with its left neighbour. -/
def bub {α : Type} (lt : α → α → Bool) : Nat → List α → List α
  | 0, l => l
  | k + 1, l => match l[k + 1]?, l[k]? with
    | some x, some y => if lt x y = true then bub lt k ((l.set (k + 1) y).set k x) else l
    | _, _ => l
def bsFrom {α : Type} (lt : α → α → Bool) : Nat → Nat → List α → List α
  | 0, _, l => l
  | f + 1, i, l => bsFrom lt f (i + 1) (bub lt i l)
def bsort {α : Type} (lt : α → α → Bool) (l : List α) : List α := bsFrom lt (l.length - 1) 1 l
theorem bub_step {α : Type} {lt : α → α → Bool} {k : Nat} {l : List α} {x y : α} (hx : l[k + 1]? = some x) (hy : l[k]? = some y) (h : lt x y = true) : bub lt (k + 1) l = bub lt k ((l.set (k + 1) y).set k x) := by
  unfold bub; rw [hx, hy]; simp only [if_pos h]; cases k <;> rfl
theorem bub_stop {α : Type} {lt : α → α → Bool} {k : Nat} {l : List α} {x y : α} (hx : l[k + 1]? = some x) (hy : l[k]? = some y) (h : ¬ lt x y = true) : bub lt (k + 1) l = l := by
  unfold bub; rw [hx, hy]; simp only [if_neg h]
theorem bub_len {α : Type} {lt : α → α → Bool} : ∀ (k : Nat) (l : List α), (bub lt k l).length = l.length
  | 0, l => rfl
  | k + 1, l => by
    unfold bub
    split
    · split
      · rw [bub_len k]; simp
      · rfl
    · rfl
theorem bsFrom_len {α : Type} {lt : α → α → Bool} : ∀ (f i : Nat) (l : List α), (bsFrom lt f i l).length = l.length
  | 0, _, _ => rfl
  | f + 1, i, l => by show (bsFrom lt f (i + 1) (bub lt i l)).length = _; rw [bsFrom_len f, bub_len]
theorem bsort_len {α : Type} {lt : α → α → Bool} (l : List α) : (bsort lt l).length = l.length := bsFrom_len _ _ _
def ltI (a b : Int) : Bool := decide (a < b)
theorem ints_one (xs : List Int) : (intRows xs).flatten.all (·.oneCell') = true := by
  unfold intRows
  induction xs with
  | nil => rfl
  | cons x l ih => simp only [List.map_cons, List.flatten_cons, List.all_append, ih]; rfl
theorem set_rows {xs : List Int} {k : Nat} {x : Int} : (intRows xs).set k [.int .i64 x] = intRows (xs.set k x) := by unfold intRows; rw [List.map_set]
theorem SortInts_any {Γ : Gho} {S : List Res} {w : World} {v : Value} {xs : List Int} (hr : RdS Γ S v 1 (intRows xs)) (hl : xs.length ≤ 1000000) (hw : Wd Γ S w) :
    Calls Tryd.prog 13 #[v] w fun e w' => ∃ v', e = .returned v' ∧ Wd Γ (.own v' 3 1 (intRows (bsort ltI xs)) :: S) w' := by
  obtain ⟨a, n, c, rfl, hn, hnc, hc⟩ := hr.shape
  simp only [intRows, List.length_map] at hn
  refine calls_of_W Tryd.func13 rfl rfl ?_
  repeat (first | refine byW ?_ | (refine byV ?_; intro w hw))
  have hw : Wd Γ (.own (.slice none 0 0) 3 1 [] :: S) w := Wd.addNil hw
  refine lApp (i := 0) (rows2 := intRows xs) ?_ (hr.cons.rd hw) (h1 := ints_one xs) (hm := by simp [intRows]; exact hn)
  intro v' w hw
  obtain ⟨q, m, d, rfl, hm, -, -⟩ := hw.own_shape (i := 0) rfl
  simp [intRows] at hm
  have hw : Wd Γ (.own (.slice q m d) 3 1 (intRows xs) :: S) w := hw
  repeat (first | refine byW ?_ | (refine byV ?_; intro w hw))
  refine W_loop (fun μ ρ w => ∃ (i : Nat) (Y : List Int), 1 ≤ i ∧ (m ≤ i + μ) ∧ Y.length = m ∧ bsort ltI xs = bsFrom ltI (m - i) i Y ∧ Has ρ [(3, .slice q m d), (4, .int .i64 i)] ∧ Wd Γ (.own (.slice q m d) 3 1 (intRows Y) :: S) w) m ⟨1, xs, by omega, by omega, hm.symm, by unfold bsort; rw [← hm], ⟨rfl, rfl, trivial⟩, hw⟩ ?_
  clear hw
  rintro μ ρ w ⟨i, Y, hi, hμ, hY, hB, hρ, hw⟩
  rw [hρ.eq]
  repeat (first | refine byW ?_ | (refine byV ?_; intro w hw))
  refine W_cond rfl (fun h => ?_) (fun h => ?_)
  · have him : i < m := by simpa using h
    have hB2 : bsort ltI xs = bsFrom ltI (m - (i + 1)) (i + 1) (bub ltI i Y) := by
      rw [hB, show m - i = (m - (i + 1)) + 1 by omega]; rfl
    repeat (first | refine byW ?_ | (refine byV ?_; intro w hw))
    refine W_loop (fun μ2 ρ w => ∃ (k : Nat) (Z : List Int), μ2 = k ∧ k ≤ i ∧ Z.length = m ∧ bub ltI i Y = bub ltI k Z ∧ Has ρ [(3, .slice q m d), (4, .int .i64 i), (5, .int .i64 k)] ∧ Wd Γ (.own (.slice q m d) 3 1 (intRows Z) :: S) w) i ⟨i, Y, rfl, Nat.le_refl _, hY, rfl, ⟨rfl, rfl, rfl, trivial⟩, hw⟩ ?_
    clear hw
    rintro μ2 ρ w ⟨k, Z, rfl, hk, hZ, hC, hρ, hw⟩
    rw [hρ.eq]
    refine W_seq ?_
    refine W_seq ?_
    have hnr : m = (intRows Z).length := by simp [intRows]; omega
    cases μ2 with
    | zero =>
      refine W_quiet (by kernel_rfl) (by kernel_rfl) hw ?_
      iterate 3 (first | refine Q_nil ?_ | (apply Q_plain; first | (apply Q_go; first | refine qP ?_ | refine qPg ?_) | refine qY ?_) | (apply Q_guarded; first | (apply Q_go; first | refine qPG ?_ | refine qPgG ?_) | refine qG ?_))
      iterate 10 (refine qGF ?_ rfl)
      refine qY (v := .bool false) ?_ (hy := fun w hw => y_pickF rfl rfl)
      refine Q_nil ?_
      clear hw
      intro w hw
      refine W_cond rfl (fun h => by cases h) (fun _ => ?_)
      repeat (first | refine byW ?_ | (refine byV ?_; intro w hw))
      exact ⟨μ - 1, by omega, i + 1, Z, by omega, by omega, hZ, by rw [hB2, hC]; rfl, ⟨rfl, rfl, trivial⟩, hw⟩
    | succ k =>
      obtain ⟨x, hx⟩ := get_lt (l := Z) (k := k + 1) (by omega)
      obtain ⟨y, hy⟩ := get_lt (l := Z) (k := k) (by omega)
      have e1 : (((k + 1 : Nat) : Int) - 1) = (k : Int) := by omega
      have hx' : Z[((k + 1 : Nat) : Int).toNat]? = some x := hx
      have hy' : Z[(((k + 1 : Nat) : Int) - 1).toNat]? = some y := by rw [e1]; exact hy
      refine W_quiet (by kernel_rfl) (by kernel_rfl) hw ?_
      iterate 1 (first | refine Q_nil ?_ | (apply Q_plain; first | (apply Q_go; first | refine qP ?_ | refine qPg ?_) | refine qY ?_) | (apply Q_guarded; first | (apply Q_go; first | refine qPG ?_ | refine qPgG ?_) | refine qG ?_))
      refine qT (b := decide ((0 : Int) < ((k + 1 : Nat) : Int))) (decide_eq_true (by omega)) ?_
      repeat (first | refine Q_nil ?_ | (apply Q_plain; first | (apply Q_go; first | refine qP ?_ | refine qPg ?_) | refine qY ?_) | (apply Q_guarded; first | (apply Q_go; first | refine qPG ?_ | refine qPgG ?_) | refine qG ?_))
      clear hw
      intro w hw
      refine W_cond rfl (fun h2 => ?_) (fun h2 => ?_)
      · have h2 : ltI x y = true := by simpa [ltI] using h2
        rw [bub_step hx hy h2] at hC
        repeat (first | refine byW ?_ | (refine byV ?_; intro w hw))
        refine lStoreE (k := k + 1) (i := 0) ?_
        intro w hw
        have hw : Wd Γ (.own (.slice q m d) 3 1 ((intRows Z).set (k + 1) [.int .i64 y]) :: S) w := hw
        rw [set_rows] at hw
        have hnr : m = (intRows (Z.set (k + 1) y)).length := by simp [intRows]; omega
        repeat (first | refine byW ?_ | (refine byV ?_; intro w hw))
        refine lStoreE (k := k) (i := 0) ?_ (hx := by show Value.pointer _ = _; rw [show (((k + 1 : Nat) : Int) - 1).toNat = k by omega])
        intro w hw
        have hw : Wd Γ (.own (.slice q m d) 3 1 ((intRows (Z.set (k + 1) y)).set k [.int .i64 x]) :: S) w := hw
        rw [set_rows] at hw
        repeat (first | refine byW ?_ | (refine byV ?_; intro w hw))
        exact ⟨k, by omega, k, _, rfl, by omega, by simp; omega, hC, ⟨rfl, rfl, by show Value.int .i64 (((k + 1 : Nat) : Int) - 1) = _; rw [e1], trivial⟩, hw⟩
      · have h2 : ¬ ltI x y = true := by have : ltI x y = false := by simpa [ltI] using h2
                                         rw [this]; simp
        rw [bub_stop hx hy h2] at hC
        repeat (first | refine byW ?_ | (refine byV ?_; intro w hw))
        exact ⟨μ - 1, by omega, i + 1, Z, by omega, by omega, hZ, by rw [hB2, hC], ⟨rfl, rfl, trivial⟩, hw⟩
  · have him : ¬ i < m := by simpa using h
    repeat (first | refine byW ?_ | (refine byV ?_; intro w hw))
    refine ⟨_, rfl, _, rfl, ?_⟩
    rw [hB, show m - i = 0 by omega]; exact hw
theorem IDs_any {Γ : Gho} {S : List Res} {w : World} {xs : List CoreT} {nm : ByteArray} {v1 v2 v3 v4 v5 : Value} (hr : RdS Γ S v1 4 (xs.map enc)) (hl : xs.length ≤ 1000000) (hw : Wd Γ S w) :
    Calls Tryd.prog 8 #[.agg #[.string nm, v1, v2, v3, v4, v5]] w fun e w' => ∃ v', e = .returned v' ∧ Wd Γ (.own v' 3 1 (intRows (xs.map (·.ID))) :: S) w' := by
  obtain ⟨a, n, c, rfl, hn, hnc, hc⟩ := hr.shape
  have hnr := hn
  simp only [List.length_map] at hn
  refine calls_of_W Tryd.func8 rfl rfl ?_
  repeat (first | refine byW ?_ | (refine byV ?_; intro w hw))
  refine lBox ?_
  intro b1 w hw
  have hw : Wd Γ (.blk b1 (.cells #[.string nm, .slice a n c, v2, v3, v4, v5] 30) :: S) w := hw
  have hw : Wd Γ (.own (.slice none 0 0) 3 1 (intRows ((xs.take 0).map (·.ID))) :: .blk b1 (.cells #[.string nm, .slice a n c, v2, v3, v4, v5] 30) :: S) w := Wd.addNil hw
  repeat (first | refine byW ?_ | (refine byV ?_; intro w hw))
  refine W_loop (fun μ ρ w => ∃ (k : Nat) (q : Option Addr) (m d : Nat), μ + k = n ∧ Has ρ [(1, .pointer (some ⟨b1, 0, none⟩)), (3, .slice q m d), (4, .int .i64 k)] ∧ Wd Γ (.own (.slice q m d) 3 1 (intRows ((xs.take k).map (·.ID))) :: .blk b1 (.cells #[.string nm, .slice a n c, v2, v3, v4, v5] 30) :: S) w) n ⟨0, none, 0, 0, by omega, ⟨rfl, rfl, rfl, trivial⟩, hw⟩ ?_
  clear hw
  rintro μ ρ w ⟨k, q, m, d, hk, hρ, hw⟩
  have hm := own_len (i := 0) hw rfl
  simp only [intRows, List.length_map, List.length_take] at hm
  have hr1 : RdS Γ (.own (.slice q m d) 3 1 (intRows ((xs.take k).map (·.ID))) :: .blk b1 (.cells #[.string nm, .slice a n c, v2, v3, v4, v5] 30) :: S) (.slice a n c) 4 (xs.map enc) := hr.cons.cons
  rw [hρ.eq]
  repeat (first | refine byW ?_ | (refine byV ?_; intro w hw))
  refine W_cond rfl (fun h => ?_) (fun h => ?_)
  · have hkn : k < n := by simpa using h
    obtain ⟨x, hx⟩ := get_lt (l := xs) (k := k) (by omega)
    repeat (first | refine byW ?_ | (refine byV ?_; intro w hw))
    refine lBuildSlice [[.int .i64 x.ID]] ?_
    intro ab w hw
    refine lApp (i := 1) (rows2 := [[.int .i64 x.ID]]) ?_ (Wd.own_rd (i := 0) hw rfl)
    intro v' w hw
    obtain ⟨q', m', d', rfl, -, -, -⟩ := hw.own_shape (i := 1) rfl
    have hw : Wd Γ (.own (.slice q' m' d') 3 1 (intRows ((xs.take (k + 1)).map (·.ID))) :: .blk b1 (.cells #[.string nm, .slice a n c, v2, v3, v4, v5] 30) :: S) w := by
      rw [← rows_snocI (f := fun c : CoreT => c.ID) hx]; exact hw.drop
    repeat (first | refine byW ?_ | (refine byV ?_; intro w hw))
    exact ⟨μ - 1, by omega, k + 1, _, _, _, by omega, ⟨rfl, rfl, rfl, trivial⟩, hw⟩
  · have hkn : ¬ k < n := by simpa using h
    rw [List.take_of_length_le (by omega)] at hw
    repeat (first | refine byW ?_ | (refine byV ?_; intro w hw))
    exact ⟨_, rfl, _, rfl, hw.dropAt 1⟩
end Go.Proofs.YtfbggkmlkkffbaaDoor
end
/- What the descriptions made of numbers are like. -/
section
open Go Mk
namespace Go.Proofs.YtfbggkmlkkffbaaDoor
set_option maxHeartbeats 8000000
attribute [local irreducible] Calls
def nodeG (sh : Int) (j : Int) : Int := (5 * j + sh) % 64
def IsNodeG (nodes sh n : Int) : Prop := ∃ j : Int, 0 ≤ j ∧ j < nodes ∧ n = nodeG sh j
def CoresG (nodes sh first : Int) (l : List CoreT) : Prop := ∀ (i : Nat) (x : CoreT), l[i]? = some x → x.ID = (3 * i + first) % 32 ∧ (x.Width = 32 ∨ x.Width = 39) ∧ IsNodeG nodes sh x.Node ∧ 1 ≤ x.Speed ∧ x.Speed ≤ 4
def LinkIs (sh : Int) (l : LinkT) (p : Nat × Nat) : Prop := (l.A = nodeG sh p.1 ∧ l.B = nodeG sh p.2 ∨ l.A = nodeG sh p.2 ∧ l.B = nodeG sh p.1) ∧ 1 ≤ l.Latency ∧ l.Latency ≤ 9
def LinksG (sh : Int) (k : Nat) (l : List LinkT) : Prop := l.length ≤ 2 * k ∧ ∃ P : List (Nat × Nat), P.length = l.length ∧ P.Nodup ∧ (∀ p ∈ P, p.2 < p.1 ∧ p.1 < k) ∧ (∀ (i : Nat) (x : LinkT) (p : Nat × Nat), l[i]? = some x → P[i]? = some p → LinkIs sh x p) ∧ ∀ i, 1 ≤ i → i < k → ∃ j, (i, j) ∈ P
def ramN (i : Nat) : ByteArray := ⟨#[114, 97, 109, UInt8.ofNat (48 + i)]⟩
def devN (i : Nat) : ByteArray := ⟨#[100, 101, 118, UInt8.ofNat (48 + i)]⟩
def pairN (i : Nat) : ByteArray := ⟨#[112, 97, 105, 114, UInt8.ofNat (48 + i)]⟩
def ownN (i : Nat) : ByteArray := ⟨#[111, 119, 110, UInt8.ofNat (48 + i)]⟩
def MemsG (nodes sh : Int) (l : List MemT) : Prop := ∀ (i : Nat) (x : MemT), l[i]? = some x → x.Name = ramN i ∧ x.Base = (5 - i) * 16777216 ∧ (∃ e : Nat, 12 ≤ e ∧ e ≤ 19 ∧ x.Size = 2 ^ e) ∧ IsNodeG nodes sh x.Node ∧ 1 ≤ x.Latency ∧ x.Latency ≤ 9
def DevsG (nodes sh irq : Int) (l : List DevT) : Prop := ∀ (i : Nat) (x : DevT), l[i]? = some x → x.Name = devN i ∧ IsNodeG nodes sh x.Node ∧ x.IRQ = (7 * i + irq) % 256 ∧ x.Base = 4294967296 + i * 65536 ∧ (∃ t : Int, 1 ≤ t ∧ t ≤ 3 ∧ x.Size = 4096 * t)
def allB : ByteArray := ⟨#[97, 108, 108]⟩
def cacheG (ids : List Int) (p : Nat × Nat) : CacheT :=
  if p.1 = 3 then ⟨allB, 3, 64, 1048576, ids⟩ else if p.1 = 2 then ⟨pairN p.2, 2, 64, 65536, (ids.drop (2 * p.2)).take 2⟩ else ⟨ownN p.2, 1, 32, 4096, (ids.drop (2 * p.2)).take 1⟩
def TagsG (ids : List Int) (k : Nat) (T : List (Nat × Nat)) : Prop := T.Nodup ∧ T.length ≤ 1 + 2 * k ∧ ∀ p ∈ T, p = (3, 0) ∨ ((p.1 = 2 ∨ p.1 = 1) ∧ p.2 < k ∧ 2 * p.2 < ids.length)
def CachesG (ids : List Int) (l : List CacheT) : Prop := ∃ k T, TagsG ids k T ∧ k ≤ 4 ∧ l = T.map (cacheG ids)
structure Gen (H : HwT) (nodes sh first irq : Int) : Prop where
  nd : 1 ≤ nodes ∧ nodes ≤ 6
  sr : 0 ≤ sh ∧ sh < 64
  fi : 0 ≤ first ∧ first < 32
  iq : 0 ≤ irq ∧ irq < 256
  nm : H.Name = ⟨#[109]⟩
  nc : 1 ≤ H.Cores.length ∧ H.Cores.length ≤ 8
  co : CoresG nodes sh first H.Cores
  li : LinksG sh nodes.toNat H.Links
  nm' : H.Mems.length ≤ 4
  me : MemsG nodes sh H.Mems
  nd' : H.Devs.length ≤ 4
  de : DevsG nodes sh irq H.Devs
  ca : CachesG (bsort ltI (H.Cores.map (·.ID))) H.Caches

/-! ### one more of each -/
theorem get_snoc {α : Type} {l : List α} {y x : α} {i : Nat} (h : (l ++ [y])[i]? = some x) : l[i]? = some x ∨ (i = l.length ∧ x = y) := by
  rw [List.getElem?_append] at h
  split at h
  · exact .inl h
  · rename_i h2
    rcases Nat.eq_or_lt_of_le (Nat.not_lt.1 h2) with e | e
    · subst e; simp at h; exact .inr ⟨rfl, h.symm⟩
    · rw [List.getElem?_eq_none (by simp; omega)] at h; cases h
theorem CoresG.snoc {nodes sh first : Int} {l : List CoreT} {x : CoreT} (h : CoresG nodes sh first l) (hx : x.ID = (3 * l.length + first) % 32 ∧ (x.Width = 32 ∨ x.Width = 39) ∧ IsNodeG nodes sh x.Node ∧ 1 ≤ x.Speed ∧ x.Speed ≤ 4) : CoresG nodes sh first (l ++ [x]) := fun i y hy => by
  rcases get_snoc hy with h1 | ⟨rfl, rfl⟩
  · exact h i y h1
  · exact hx
theorem MemsG.snoc {nodes sh : Int} {l : List MemT} {x : MemT} (h : MemsG nodes sh l) (hx : x.Name = ramN l.length ∧ x.Base = (5 - l.length) * 16777216 ∧ (∃ e : Nat, 12 ≤ e ∧ e ≤ 19 ∧ x.Size = 2 ^ e) ∧ IsNodeG nodes sh x.Node ∧ 1 ≤ x.Latency ∧ x.Latency ≤ 9) : MemsG nodes sh (l ++ [x]) := fun i y hy => by
  rcases get_snoc hy with h1 | ⟨rfl, rfl⟩
  · exact h i y h1
  · exact hx
theorem DevsG.snoc {nodes sh irq : Int} {l : List DevT} {x : DevT} (h : DevsG nodes sh irq l) (hx : x.Name = devN l.length ∧ IsNodeG nodes sh x.Node ∧ x.IRQ = (7 * l.length + irq) % 256 ∧ x.Base = 4294967296 + l.length * 65536 ∧ (∃ t : Int, 1 ≤ t ∧ t ≤ 3 ∧ x.Size = 4096 * t)) : DevsG nodes sh irq (l ++ [x]) := fun i y hy => by
  rcases get_snoc hy with h1 | ⟨rfl, rfl⟩
  · exact h i y h1
  · exact hx
theorem LinksG.start {sh : Int} : LinksG sh 1 [] := ⟨by simp, [], rfl, List.nodup_nil, by simp, by simp, fun i h1 h2 => by omega⟩
theorem LinksG.one {sh : Int} {k up : Nat} {l : List LinkT} {x : LinkT} (h : LinksG sh k l) (hup : up < k) (hx : LinkIs sh x (k, up)) : LinksG sh (k + 1) (l ++ [x]) := by
  obtain ⟨h1, P, h2, h3, h4, h5, h6⟩ := h
  refine ⟨by simp; omega, P ++ [(k, up)], by simp [h2], nodup_snoc.2 ⟨h3, fun hm => by have := h4 _ hm; simp at this⟩, fun p hp => ?_, fun i y p hy hp => ?_, fun i hi hk => ?_⟩
  · rcases List.mem_append.1 hp with hp | hp
    · have := h4 p hp; omega
    · cases List.mem_singleton.1 hp; dsimp; omega
  · rcases get_snoc hy with a | ⟨a, rfl⟩
    · rcases get_snoc hp with b | ⟨b, rfl⟩
      · exact h5 i y p a b
      · have := (List.getElem?_eq_some_iff.1 a).1; omega
    · subst a
      rw [← h2] at hp
      simp at hp; subst hp; exact hx
  · by_cases e : i = k
    · subst e; exact ⟨up, by simp⟩
    · obtain ⟨j, hj⟩ := h6 i hi (by omega); exact ⟨j, List.mem_append_left _ hj⟩
theorem LinksG.two {sh : Int} {k up mo : Nat} {l : List LinkT} {x y : LinkT} (h : LinksG sh k l) (hk1 : 1 ≤ k) (hup : up < k) (hmo : mo < k) (hne : mo ≠ up) (hx : LinkIs sh x (k, up)) (hy : LinkIs sh y (k, mo)) : LinksG sh (k + 1) (l ++ [x] ++ [y]) := by
  obtain ⟨h1, P, h2, h3, h4, h5, h6⟩ := h
  have hfresh : ∀ j, (k, j) ∉ P := fun j hm => by have := h4 _ hm; simp at this
  refine ⟨by simp; omega, P ++ [(k, up)] ++ [(k, mo)], by simp [h2], nodup_snoc.2 ⟨nodup_snoc.2 ⟨h3, hfresh up⟩, fun hm => ?_⟩, fun p hp => ?_, fun i z p hz hp => ?_, fun i hi hk => ?_⟩
  · rcases List.mem_append.1 hm with hm | hm
    · exact hfresh mo hm
    · simp at hm; exact hne hm
  · rcases List.mem_append.1 hp with hp | hp
    · rcases List.mem_append.1 hp with hp | hp
      · have := h4 p hp; omega
      · cases List.mem_singleton.1 hp; dsimp; omega
    · cases List.mem_singleton.1 hp; dsimp; omega
  · rcases get_snoc hz with a | ⟨a, rfl⟩
    · have ha := (List.getElem?_eq_some_iff.1 a).1
      simp at ha
      rcases get_snoc hp with b | ⟨b, rfl⟩
      · rcases get_snoc a with a2 | ⟨a2, rfl⟩
        · rcases get_snoc b with b2 | ⟨b2, rfl⟩
          · exact h5 i z p a2 b2
          · have := (List.getElem?_eq_some_iff.1 a2).1; omega
        · subst a2
          rw [← h2] at b
          simp at b; subst b; exact hx
      · simp at b; omega
    · simp at a; subst a
      rw [← h2] at hp
      simp [List.getElem?_append] at hp; subst hp; exact hy
  · by_cases e : i = k
    · subst e; exact ⟨up, by simp⟩
    · obtain ⟨j, hj⟩ := h6 i hi (by omega); exact ⟨j, List.mem_append_left _ (List.mem_append_left _ hj)⟩
theorem TagsG.start {ids : List Int} : TagsG ids 0 [] := ⟨List.nodup_nil, by simp, by simp⟩
theorem TagsG.all {ids : List Int} : TagsG ids 0 [(3, 0)] := ⟨by simp, by simp, by simp⟩
theorem TagsG.step {ids : List Int} {k : Nat} {T : List (Nat × Nat)} (h : TagsG ids k T) (hk : 2 * k < ids.length) (b1 b2 : Bool) : TagsG ids (k + 1) (T ++ (if b1 = true then [(2, k)] else []) ++ (if b2 = true then [(1, k)] else [])) := by
  obtain ⟨h1, h2, h3⟩ := h
  have hfr : ∀ t, t ≠ 3 → (t, k) ∉ T := fun t ht hm => by
    rcases h3 _ hm with h | h
    · injection h with h4 _; exact ht h4
    · have := h.2.1; dsimp at this; omega
  have hold : ∀ p ∈ T, p = (3, 0) ∨ ((p.1 = 2 ∨ p.1 = 1) ∧ p.2 < k + 1 ∧ 2 * p.2 < ids.length) := fun p hp => by
    rcases h3 p hp with h | ⟨a, b, c⟩
    · exact .inl h
    · exact .inr ⟨a, by omega, c⟩
  cases b1 <;> cases b2 <;> simp only [if_true, if_false, List.append_nil, Bool.false_eq_true]
  · exact ⟨h1, by omega, hold⟩
  · refine ⟨nodup_snoc.2 ⟨h1, hfr 1 (by decide)⟩, by simp; omega, fun p hp => ?_⟩
    rcases List.mem_append.1 hp with hp | hp
    · exact hold p hp
    · cases List.mem_singleton.1 hp; exact .inr ⟨.inr rfl, by dsimp; omega, by dsimp; omega⟩
  · refine ⟨nodup_snoc.2 ⟨h1, hfr 2 (by decide)⟩, by simp; omega, fun p hp => ?_⟩
    rcases List.mem_append.1 hp with hp | hp
    · exact hold p hp
    · cases List.mem_singleton.1 hp; exact .inr ⟨.inl rfl, by dsimp; omega, by dsimp; omega⟩
  · refine ⟨nodup_snoc.2 ⟨nodup_snoc.2 ⟨h1, hfr 2 (by decide)⟩, fun hm => ?_⟩, by simp; omega, fun p hp => ?_⟩
    · rcases List.mem_append.1 hm with hm | hm
      · exact hfr 1 (by decide) hm
      · simp at hm
    · rcases List.mem_append.1 hp with hp | hp
      · rcases List.mem_append.1 hp with hp | hp
        · exact hold p hp
        · cases List.mem_singleton.1 hp; exact .inr ⟨.inl rfl, by dsimp; omega, by dsimp; omega⟩
      · cases List.mem_singleton.1 hp; exact .inr ⟨.inr rfl, by dsimp; omega, by dsimp; omega⟩
end Go.Proofs.YtfbggkmlkkffbaaDoor
end
/- Sorting by exchanges: what comes out is sorted and has the same elements. -/
section
open Go Mk
namespace Go.Proofs.YtfbggkmlkkffbaaDoor
set_option maxHeartbeats 4000000
attribute [local irreducible] Calls
theorem swap_perm {α : Type} {l : List α} {k : Nat} {x y : α} (hx : l[k + 1]? = some x) (hy : l[k]? = some y) : ((l.set (k + 1) y).set k x).Perm l := by
  induction l generalizing k with
  | nil => simp at hx
  | cons a l ih =>
    cases k with
    | zero =>
      cases l with
      | nil => simp at hx
      | cons b l =>
        simp at hx hy
        subst hx hy
        exact List.Perm.swap _ _ _
    | succ k =>
      simp only [List.getElem?_cons_succ] at hx hy
      simp only [List.set_cons_succ]
      exact List.Perm.cons _ (ih hx hy)
theorem bub_perm {α : Type} {lt : α → α → Bool} : ∀ (k : Nat) (l : List α), (bub lt k l).Perm l
  | 0, l => List.Perm.refl _
  | k + 1, l => by
    unfold bub
    split
    · rename_i x y hx hy
      split
      · exact (bub_perm k _).trans (swap_perm hx hy)
      · exact List.Perm.refl _
    · exact List.Perm.refl _
theorem bsFrom_perm {α : Type} {lt : α → α → Bool} : ∀ (f i : Nat) (l : List α), (bsFrom lt f i l).Perm l
  | 0, _, l => List.Perm.refl _
  | f + 1, i, l => (bsFrom_perm f (i + 1) _).trans (bub_perm i l)
theorem bsort_perm {α : Type} {lt : α → α → Bool} (l : List α) : (bsort lt l).Perm l := bsFrom_perm _ _ _

/-- The elements at two places are in order. -/
def leAt {α : Type} (le : α → α → Prop) (l : List α) (p q : Nat) : Prop := ∀ x y, l[p]? = some x → l[q]? = some y → le x y
structure LeLt {α : Type} (le : α → α → Prop) (lt : α → α → Bool) : Prop where
  t : ∀ {x y}, lt x y = true → le x y
  f : ∀ {x y}, lt x y = false → le y x
  tr : ∀ {x y z}, le x y → le y z → le x z
theorem bub_sorted {α : Type} {le : α → α → Prop} {lt : α → α → Bool} (hl : LeLt le lt) : ∀ (k i : Nat) (l : List α), k ≤ i → i < l.length → (∀ p q, p < q → q ≤ i → p ≠ k → q ≠ k → leAt le l p q) → (∀ q, k < q → q ≤ i → leAt le l k q) → ∀ p q, p < q → q ≤ i → leAt le (bub lt k l) p q
  | 0, i, l, hk, hi, h1, h2, p, q, hpq, hq => by
    show leAt le l p q
    by_cases e : p = 0
    · subst e; exact h2 q hpq hq
    · exact h1 p q hpq hq e (by omega)
  | k + 1, i, l, hk, hi, h1, h2, p, q, hpq, hq => by
    obtain ⟨x, hx⟩ := get_lt (l := l) (k := k + 1) (by omega)
    obtain ⟨y, hy⟩ := get_lt (l := l) (k := k) (by omega)
    by_cases hlt : lt x y = true
    · rw [bub_step hx hy hlt]
      have g0 : ∀ r, r ≠ k → r ≠ k + 1 → ((l.set (k + 1) y).set k x)[r]? = l[r]? := fun r a b => by
        rw [List.getElem?_set_ne (by omega), List.getElem?_set_ne (by omega)]
      have g1 : ((l.set (k + 1) y).set k x)[k]? = some x := by rw [List.getElem?_set_self (by simp; omega)]
      have g2 : ((l.set (k + 1) y).set k x)[k + 1]? = some y := by rw [List.getElem?_set_ne (by omega), List.getElem?_set_self (by omega)]
      refine bub_sorted hl k i _ (by omega) (by simp; omega) (fun p q hpq hq hp1 hq1 => ?_) (fun q hkq hq => ?_) p q hpq hq
      · intro u v hu hv
        by_cases e1 : q = k + 1
        · subst e1
          rw [g2] at hv; cases hv
          rw [g0 p hp1 (by omega)] at hu
          exact h1 p k (by omega) (by omega) (by omega) (by omega) u y hu hy
        · rw [g0 q hq1 e1] at hv
          by_cases e2 : p = k + 1
          · subst e2
            rw [g2] at hu; cases hu
            exact h1 k q (by omega) hq (by omega) e1 y v hy hv
          · rw [g0 p hp1 e2] at hu
            exact h1 p q hpq hq e2 e1 u v hu hv
      · intro u v hu hv
        rw [g1] at hu; cases hu
        by_cases e1 : q = k + 1
        · subst e1; rw [g2] at hv; cases hv; exact hl.t hlt
        · rw [g0 q (by omega) e1] at hv
          exact h2 q (by omega) hq x v hx hv
    · rw [bub_stop hx hy hlt]
      have hge : le y x := hl.f (by simpa using hlt)
      by_cases e1 : p = k + 1
      · subst e1; exact h2 q hpq hq
      · by_cases e2 : q = k + 1
        · subst e2
          intro u v hu hv
          rw [hx] at hv; cases hv
          by_cases e3 : p = k
          · subst e3; rw [hy] at hu; cases hu; exact hge
          · exact hl.tr (h1 p k (by omega) (by omega) e1 (by omega) u y hu hy) hge
        · exact h1 p q hpq hq e1 e2
theorem bsFrom_sorted {α : Type} {le : α → α → Prop} {lt : α → α → Bool} (hl : LeLt le lt) : ∀ (f i : Nat) (l : List α), l.length ≤ i + f → (∀ p q, p < q → q < i → leAt le l p q) → ∀ p q, p < q → leAt le (bsFrom lt f i l) p q
  | 0, i, l, hf, h, p, q, hpq => by
    intro u v hu hv
    have : q < l.length := (List.getElem?_eq_some_iff.1 hv).1
    exact h p q hpq (by omega) u v hu hv
  | f + 1, i, l, hf, h, p, q, hpq => by
    by_cases hi : i < l.length
    · refine bsFrom_sorted hl f (i + 1) (bub lt i l) (by rw [bub_len]; omega) (fun p q hpq hq => ?_) p q hpq
      exact bub_sorted hl i i l (Nat.le_refl _) hi (fun p q a b c d => h p q a (by omega)) (fun q a b => by omega) p q hpq (by omega)
    · refine bsFrom_sorted hl f (i + 1) (bub lt i l) (by rw [bub_len]; omega) (fun p q hpq hq => ?_) p q hpq
      have hb : bub lt i l = l := by
        cases i with
        | zero => rfl
        | succ i => unfold bub; rw [List.getElem?_eq_none (by omega)]
      rw [hb]
      intro u v hu hv
      have : q < l.length := (List.getElem?_eq_some_iff.1 hv).1
      exact h p q hpq (by omega) u v hu hv
theorem bsort_sorted {α : Type} {le : α → α → Prop} {lt : α → α → Bool} (hl : LeLt le lt) (l : List α) {p q : Nat} (hpq : p < q) : leAt le (bsort lt l) p q :=
  bsFrom_sorted hl _ 1 l (by omega) (fun p q a b => by omega) p q hpq
theorem leLtI : LeLt (fun a b : Int => a ≤ b) ltI := ⟨fun h => by unfold ltI at h; simp at h; omega, fun h => by unfold ltI at h; simp at h; omega, fun a b => Int.le_trans a b⟩
theorem sortI {l : List Int} : sortedP (bsort ltI l) := fun i a b ha hb => bsort_sorted leLtI l (Nat.lt_succ_self i) a b ha hb
end Go.Proofs.YtfbggkmlkkffbaaDoor
end
/- The descriptions made of numbers are valid: names, counts, numbers, alignment. -/
section
open Go Mk
namespace Go.Proofs.YtfbggkmlkkffbaaDoor
set_option maxHeartbeats 4000000
attribute [local irreducible] Calls
section
variable {H : HwT} {nodes sh first irq : Int}
theorem nodeG_in (sh j : Int) : 0 ≤ nodeG sh j ∧ nodeG sh j < 64 := by unfold nodeG; omega
theorem nodeG_inj {sh : Int} {i j : Int} (h0 : 0 ≤ i) (h1 : i < 6) (h2 : 0 ≤ j) (h3 : j < 6) (h : nodeG sh i = nodeG sh j) : i = j := by unfold nodeG at h; omega
theorem isNode_G (sh j : Int) : isNodeB (nodeG sh j) = true := by
  have := nodeG_in sh j
  simp [isNodeB]; omega
theorem IsNodeG.ok {n : Int} (h : IsNodeG nodes sh n) : isNodeB n = true := by obtain ⟨j, -, -, rfl⟩ := h; exact isNode_G sh j
theorem mem_get {α : Type} {l : List α} {x : α} (h : x ∈ l) : ∃ i, i < l.length ∧ l[i]? = some x := by
  obtain ⟨i, hi, he⟩ := List.getElem_of_mem h
  exact ⟨i, hi, by rw [List.getElem?_eq_getElem hi, he]⟩
theorem tags_lt {ids : List Int} {k : Nat} {T : List (Nat × Nat)} (h : TagsG ids k T) (hk : k ≤ 4) {p : Nat × Nat} (hp : p ∈ T) : p = (3, 0) ∨ ((p.1 = 2 ∨ p.1 = 1) ∧ p.2 < 4 ∧ 2 * p.2 < ids.length) := by
  rcases h.2.2 p hp with h | ⟨a, b, c⟩
  · exact .inl h
  · exact .inr ⟨a, by omega, c⟩
theorem ramN_ok {i : Nat} (h : i < 4) : nameS (ramN i) = true := by
  have : i = 0 ∨ i = 1 ∨ i = 2 ∨ i = 3 := by omega
  rcases this with rfl | rfl | rfl | rfl <;> decide +kernel
theorem devN_ok {i : Nat} (h : i < 4) : nameS (devN i) = true := by
  have : i = 0 ∨ i = 1 ∨ i = 2 ∨ i = 3 := by omega
  rcases this with rfl | rfl | rfl | rfl <;> decide +kernel
theorem pairN_ok {i : Nat} (h : i < 4) : nameS (pairN i) = true := by
  have : i = 0 ∨ i = 1 ∨ i = 2 ∨ i = 3 := by omega
  rcases this with rfl | rfl | rfl | rfl <;> decide +kernel
theorem ownN_ok {i : Nat} (h : i < 4) : nameS (ownN i) = true := by
  have : i = 0 ∨ i = 1 ∨ i = 2 ∨ i = 3 := by omega
  rcases this with rfl | rfl | rfl | rfl <;> decide +kernel
/-- The caches, one by one. -/
inductive CacheK (ids : List Int) : CacheT → Nat × Nat → Prop
  | all : CacheK ids ⟨allB, 3, 64, 1048576, ids⟩ (3, 0)
  | pair {t : Nat} : t < 4 → 2 * t < ids.length → CacheK ids ⟨pairN t, 2, 64, 65536, (ids.drop (2 * t)).take 2⟩ (2, t)
  | own {t : Nat} : t < 4 → 2 * t < ids.length → CacheK ids ⟨ownN t, 1, 32, 4096, (ids.drop (2 * t)).take 1⟩ (1, t)
theorem cacheK {ids : List Int} {k : Nat} {T : List (Nat × Nat)} (h : TagsG ids k T) (hk : k ≤ 4) {p : Nat × Nat} (hp : p ∈ T) : CacheK ids (cacheG ids p) p := by
  rcases tags_lt h hk hp with rfl | ⟨a, b, c⟩
  · exact .all
  · obtain ⟨p1, p2⟩ := p
    rcases a with rfl | rfl
    · exact .pair b c
    · exact .own b c
theorem cacheK_name {ids : List Int} {c : CacheT} {p : Nat × Nat} (h : CacheK ids c p) : nameS c.Name = true := by
  cases h with
  | all => show nameS allB = true; decide +kernel
  | pair h => exact pairN_ok h
  | own h => exact ownN_ok h
theorem cacheK_rng {ids : List Int} {c : CacheT} {p : Nat × Nat} (h : CacheK ids c p) (hi : 0 < ids.length) : cacheRB c = true := by
  have e64 : decide (bitsZ .and .i64 64 (IntKind.i64.wrap (64 - 1)) = 0) = true := by decide +kernel
  have e32 : decide (bitsZ .and .i64 32 (IntKind.i64.wrap (32 - 1)) = 0) = true := by decide +kernel
  have w64 : IntKind.u64.wrap 64 = 64 := by decide +kernel
  have w32 : IntKind.u64.wrap 32 = 32 := by decide +kernel
  cases h with
  | all => unfold cacheRB; dsimp only; rw [e64, w64]; simp; omega
  | pair h1 h2 => unfold cacheRB; dsimp only; rw [e64, w64]; simp; omega
  | own h1 h2 => unfold cacheRB; dsimp only; rw [e32, w32]; simp; omega
theorem gen_ids (g : Gen H nodes sh first irq) : (bsort ltI (H.Cores.map (·.ID))).length = H.Cores.length := by rw [bsort_len]; simp
theorem gen_names (g : Gen H nodes sh first irq) : namesB H = true := by
  have hh : headB H = true := by unfold headB; rw [g.nm]; decide +kernel
  obtain ⟨k, T, hT, hk, hc⟩ := g.ca
  unfold namesB
  rw [hh]
  simp only [Bool.true_and, Bool.and_eq_true, List.all_eq_true]
  refine ⟨⟨fun c hcm => ?_, fun x hx => ?_⟩, fun x hx => ?_⟩
  · rw [hc] at hcm
    obtain ⟨p, hp, rfl⟩ := List.mem_map.1 hcm
    exact cacheK_name (cacheK hT hk hp)
  · obtain ⟨i, hi, he⟩ := mem_get hx
    rw [(g.me i x he).1]; exact ramN_ok (by have := g.nm'; omega)
  · obtain ⟨i, hi, he⟩ := mem_get hx
    rw [(g.de i x he).1]; exact devN_ok (by have := g.nd'; omega)
theorem gen_counts (g : Gen H nodes sh first irq) : countsB H = true := by
  obtain ⟨k, T, hT, hk, hc⟩ := g.ca
  have h1 := g.nc
  have h2 := g.nm'
  have h3 := g.nd'
  have h4 := g.li.1
  have h5 := g.nd
  have h6 := hT.2.1
  have h7 : H.Caches.length = T.length := by rw [hc]; simp
  unfold countsB
  simp only [Bool.and_eq_true, decide_eq_true_eq]
  omega
theorem wrap_top {s : Int} (h0 : 0 ≤ s) (h : s ≤ 1099511627776) : IntKind.u64.wrap (1099511627776 - s) = 1099511627776 - s := by simp [IntKind.wrap, IntKind.bits, IntKind.signed]; omega
theorem pow_rng {e : Nat} (h1 : 12 ≤ e) (h2 : e ≤ 19) : (4096 : Int) ≤ 2 ^ e ∧ (2 : Int) ^ e ≤ 524288 := by
  have : e = 12 ∨ e = 13 ∨ e = 14 ∨ e = 15 ∨ e = 16 ∨ e = 17 ∨ e = 18 ∨ e = 19 := by omega
  rcases this with rfl | rfl | rfl | rfl | rfl | rfl | rfl | rfl <;> decide
theorem link_of (g : LinksG sh nodes.toNat H.Links) {i : Nat} {x : LinkT} (hx : H.Links[i]? = some x) : ∃ P : List (Nat × Nat), P.length = H.Links.length ∧ P.Nodup ∧ (∃ p, P[i]? = some p) ∧ ∀ (i : Nat) (x : LinkT), H.Links[i]? = some x → ∃ p, P[i]? = some p ∧ LinkIs sh x p ∧ p.2 < p.1 ∧ p.1 < nodes.toNat := by
  obtain ⟨-, P, h2, h3, h4, h5, -⟩ := g
  refine ⟨P, h2, h3, ?_, fun i x hx => ?_⟩
  · exact get_lt (by have := (List.getElem?_eq_some_iff.1 hx).1; omega)
  · obtain ⟨p, hp⟩ := get_lt (l := P) (k := i) (by have := (List.getElem?_eq_some_iff.1 hx).1; omega)
    exact ⟨p, hp, h5 i x p hx hp, h4 p (List.mem_of_getElem? hp)⟩
theorem gen_cores (g : Gen H nodes sh first irq) : coresRB H = true := by
  obtain ⟨k, T, hT, hk, hc⟩ := g.ca
  have hfi := g.fi
  have hnd := g.nd
  unfold coresRB
  simp only [Bool.and_eq_true, List.all_eq_true]
  refine ⟨fun x hx => ?_, fun c hcm => ?_, fun x hx => ?_⟩
  · obtain ⟨i, hi, he⟩ := mem_get hx
    obtain ⟨h1, h2, h3, h4, h5⟩ := g.co i x he
    have := h3.ok
    unfold coreRB
    rw [this]
    simp; omega
  · rw [hc] at hcm
    obtain ⟨p, hp, rfl⟩ := List.mem_map.1 hcm
    exact cacheK_rng (cacheK hT hk hp) (by rw [gen_ids g]; have := g.nc; omega)
  · obtain ⟨i, hi, he⟩ := mem_get hx
    obtain ⟨P, -, -, -, hP⟩ := link_of g.li he
    obtain ⟨p, hp, ⟨h1, h2, h3⟩, h4, h5⟩ := hP i x he
    have hne : nodeG sh p.1 ≠ nodeG sh p.2 := fun e => by
      have := nodeG_inj (by omega) (by omega) (by omega) (by omega) e
      omega
    unfold linkRB
    rcases h1 with ⟨a, b⟩ | ⟨a, b⟩
    · rw [a, b, isNode_G, isNode_G]; simp [isLatB]; exact ⟨hne, by omega⟩
    · rw [a, b, isNode_G, isNode_G]; simp [isLatB]; exact ⟨fun e => hne e.symm, by omega⟩
theorem gen_regions (g : Gen H nodes sh first irq) : regionsRB H = true := by
  have h7 := g.nm'
  have h8 := g.nd'
  unfold regionsRB
  simp only [Bool.and_eq_true, List.all_eq_true]
  refine ⟨fun x hx => ?_, fun x hx => ?_⟩
  · obtain ⟨i, hi, he⟩ := mem_get hx
    obtain ⟨h1, h2, ⟨e, e1, e2, h3⟩, h4, h5, h6⟩ := g.me i x he
    obtain ⟨p1, p2⟩ := pow_rng e1 e2
    unfold memRB inSpaceB
    rw [h4.ok, wrap_top (by omega) (by omega)]
    simp [isLatB]; omega
  · obtain ⟨i, hi, he⟩ := mem_get hx
    obtain ⟨h1, h2, h3, h4, t, t1, t2, h5⟩ := g.de i x he
    have := g.iq
    unfold devRB inSpaceB
    rw [h2.ok, wrap_top (by omega) (by omega)]
    simp; omega
theorem align_mem {i e : Nat} (hi : i < 4) (h1 : 12 ≤ e) (h2 : e ≤ 19) : (decide (bitsZ .and .u64 (2 ^ e) (IntKind.u64.wrap (2 ^ e - 1)) = 0) && decide (bitsZ .and .u64 ((5 - (i : Int)) * 16777216) (IntKind.u64.wrap (2 ^ e - 1)) = 0)) = true := by
  have a : i = 0 ∨ i = 1 ∨ i = 2 ∨ i = 3 := by omega
  have b : e = 12 ∨ e = 13 ∨ e = 14 ∨ e = 15 ∨ e = 16 ∨ e = 17 ∨ e = 18 ∨ e = 19 := by omega
  rcases a with rfl | rfl | rfl | rfl <;> rcases b with rfl | rfl | rfl | rfl | rfl | rfl | rfl | rfl <;> decide +kernel
theorem gen_align (g : Gen H nodes sh first irq) : alignRB H = true := by
  have h7 := g.nm'
  have h8 := g.nd'
  unfold alignRB
  simp only [Bool.and_eq_true, List.all_eq_true]
  refine ⟨fun x hx => ?_, fun x hx => ?_⟩
  · obtain ⟨i, hi, he⟩ := mem_get hx
    obtain ⟨h1, h2, ⟨e, e1, e2, h3⟩, -⟩ := g.me i x he
    unfold memAB
    rw [h2, h3]
    exact align_mem (by omega) e1 e2
  · obtain ⟨i, hi, he⟩ := mem_get hx
    obtain ⟨h1, h2, h3, h4, t, t1, t2, h5⟩ := g.de i x he
    unfold devAB
    rw [h4, h5, Int.tmod_eq_emod_of_nonneg (by omega), Int.tmod_eq_emod_of_nonneg (by omega)]
    simp; omega
end
end Go.Proofs.YtfbggkmlkkffbaaDoor
end
/- The descriptions made of numbers are valid: nothing twice, nesting, disjoint regions, connected nodes. -/
section
open Go Mk
namespace Go.Proofs.YtfbggkmlkkffbaaDoor
set_option maxHeartbeats 4000000
attribute [local irreducible] Calls
section
variable {H : HwT} {nodes sh first irq : Int}
theorem nodup_of {α : Type} : ∀ {l : List α}, (∀ (i j : Nat) (x : α), l[i]? = some x → l[j]? = some x → i = j) → l.Nodup
  | [], _ => List.nodup_nil
  | a :: l, h => List.nodup_cons.2 ⟨fun hm => by
      obtain ⟨i, hi, he⟩ := mem_get hm
      have := h 0 (i + 1) a rfl (by simpa using he)
      omega, nodup_of fun i j x hi hj => by
      have := h (i + 1) (j + 1) x (by simpa using hi) (by simpa using hj)
      omega⟩
theorem nodup_get {α : Type} : ∀ {l : List α}, l.Nodup → ∀ {i j : Nat} {x : α}, l[i]? = some x → l[j]? = some x → i = j
  | [], _, i, j, x, h, _ => by simp at h
  | a :: l, h, 0, 0, x, _, _ => rfl
  | a :: l, h, 0, j + 1, x, h1, h2 => by
    simp at h1 h2; subst h1
    exact absurd (List.mem_of_getElem? h2) (List.nodup_cons.1 h).1
  | a :: l, h, i + 1, 0, x, h1, h2 => by
    simp at h1 h2; subst h2
    exact absurd (List.mem_of_getElem? h1) (List.nodup_cons.1 h).1
  | a :: l, h, i + 1, j + 1, x, h1, h2 => by
    simp at h1 h2
    rw [nodup_get (List.nodup_cons.1 h).2 h1 h2]
theorem map_get {α β : Type} {f : α → β} {l : List α} {i : Nat} {y : β} (h : (l.map f)[i]? = some y) : ∃ x, l[i]? = some x ∧ f x = y := by
  rw [List.getElem?_map] at h
  exact Option.map_eq_some_iff.1 h
theorem ids_nodup (g : Gen H nodes sh first irq) : (H.Cores.map (·.ID)).Nodup := nodup_of fun i j x hi hj => by
  obtain ⟨a, ha, rfl⟩ := map_get hi
  obtain ⟨b, hb, he⟩ := map_get hj
  have h1 := (g.co i a ha).1
  have h2 := (g.co j b hb).1
  have := (List.getElem?_eq_some_iff.1 ha).1
  have := (List.getElem?_eq_some_iff.1 hb).1
  have := g.nc
  have := g.fi
  rw [h1, h2] at he
  omega
theorem ramN_inj {i j : Nat} (hi : i < 4) (hj : j < 4) (h : ramN i = ramN j) : i = j := by
  have a : i = 0 ∨ i = 1 ∨ i = 2 ∨ i = 3 := by omega
  have b : j = 0 ∨ j = 1 ∨ j = 2 ∨ j = 3 := by omega
  rcases a with rfl | rfl | rfl | rfl <;> rcases b with rfl | rfl | rfl | rfl <;> first | rfl | (revert h; decide +kernel)
theorem devN_inj {i j : Nat} (hi : i < 4) (hj : j < 4) (h : devN i = devN j) : i = j := by
  have a : i = 0 ∨ i = 1 ∨ i = 2 ∨ i = 3 := by omega
  have b : j = 0 ∨ j = 1 ∨ j = 2 ∨ j = 3 := by omega
  rcases a with rfl | rfl | rfl | rfl <;> rcases b with rfl | rfl | rfl | rfl <;> first | rfl | (revert h; decide +kernel)
theorem pairN_inj {i j : Nat} (hi : i < 4) (hj : j < 4) (h : pairN i = pairN j) : i = j := by
  have a : i = 0 ∨ i = 1 ∨ i = 2 ∨ i = 3 := by omega
  have b : j = 0 ∨ j = 1 ∨ j = 2 ∨ j = 3 := by omega
  rcases a with rfl | rfl | rfl | rfl <;> rcases b with rfl | rfl | rfl | rfl <;> first | rfl | (revert h; decide +kernel)
theorem ownN_inj {i j : Nat} (hi : i < 4) (hj : j < 4) (h : ownN i = ownN j) : i = j := by
  have a : i = 0 ∨ i = 1 ∨ i = 2 ∨ i = 3 := by omega
  have b : j = 0 ∨ j = 1 ∨ j = 2 ∨ j = 3 := by omega
  rcases a with rfl | rfl | rfl | rfl <;> rcases b with rfl | rfl | rfl | rfl <;> first | rfl | (revert h; decide +kernel)
theorem bytes_ne {a b : ByteArray} (h : a.data.toList.head? ≠ b.data.toList.head?) : a ≠ b := fun e => h (by rw [e])
theorem cacheK_inj {ids : List Int} {c d : CacheT} {p q : Nat × Nat} (h : CacheK ids c p) (k : CacheK ids d q) (e : c.Name = d.Name) : p = q := by
  cases h with
  | all => cases k with
    | all => rfl
    | pair => exact absurd e (bytes_ne (by show some (97 : UInt8) ≠ some 112; decide))
    | own => exact absurd e (bytes_ne (by show some (97 : UInt8) ≠ some 111; decide))
  | pair h1 => cases k with
    | all => exact absurd e (bytes_ne (by show some (112 : UInt8) ≠ some 97; decide))
    | pair h2 => rw [pairN_inj h1 h2 e]
    | own => exact absurd e (bytes_ne (by show some (112 : UInt8) ≠ some 111; decide))
  | own h1 => cases k with
    | all => exact absurd e (bytes_ne (by show some (111 : UInt8) ≠ some 97; decide))
    | pair => exact absurd e (bytes_ne (by show some (111 : UInt8) ≠ some 112; decide))
    | own h2 => rw [ownN_inj h1 h2 e]
theorem cacheK_cores {ids : List Int} {c : CacheT} {p : Nat × Nat} (h : CacheK ids c p) : c.Cores.Sublist ids := by
  cases h with
  | all => exact List.Sublist.refl _
  | pair => exact (List.take_sublist _ _).trans (List.drop_sublist _ _)
  | own => exact (List.take_sublist _ _).trans (List.drop_sublist _ _)
theorem linkKey_of {x : LinkT} {p : Nat × Nat} (h : LinkIs sh x p) : linkKey x = (min (nodeG sh p.1) (nodeG sh p.2), max (nodeG sh p.1) (nodeG sh p.2)) := by
  obtain ⟨h1, -⟩ := h
  unfold linkKey
  rcases h1 with ⟨a, b⟩ | ⟨a, b⟩
  · rw [a, b]; congr 1 <;> split <;> omega
  · rw [a, b]; congr 1 <;> split <;> omega
theorem links_nodup (g : Gen H nodes sh first irq) : (H.Links.map linkKey).Nodup := nodup_of fun i j z hi hj => by
  obtain ⟨a, ha, rfl⟩ := map_get hi
  obtain ⟨b, hb, he⟩ := map_get hj
  obtain ⟨P, hl, hn, -, hP⟩ := link_of g.li ha
  obtain ⟨p, hp, hp1, hp2, hp3⟩ := hP i a ha
  obtain ⟨q, hq, hq1, hq2, hq3⟩ := hP j b hb
  have hnd := g.nd
  rw [linkKey_of hp1, linkKey_of hq1] at he
  injection he with e1 e2
  have hpq : p = q := by
    have c : (nodeG sh p.1 = nodeG sh q.1 ∧ nodeG sh p.2 = nodeG sh q.2) ∨ (nodeG sh p.1 = nodeG sh q.2 ∧ nodeG sh p.2 = nodeG sh q.1) := by omega
    rcases c with ⟨c1, c2⟩ | ⟨c1, c2⟩
    · have d1 := nodeG_inj (by omega) (by omega) (by omega) (by omega) c1
      have d2 := nodeG_inj (by omega) (by omega) (by omega) (by omega) c2
      exact Prod.ext (by omega) (by omega)
    · have d1 := nodeG_inj (by omega) (by omega) (by omega) (by omega) c1
      have d2 := nodeG_inj (by omega) (by omega) (by omega) (by omega) c2
      omega
  subst hpq
  exact nodup_get hn hp hq
theorem gen_unique (g : Gen H nodes sh first irq) : uniqueB H = true := by
  obtain ⟨k, T, hT, hk, hc⟩ := g.ca
  have hids : (bsort ltI (H.Cores.map (·.ID))).Nodup := (bsort_perm _).nodup_iff.2 (ids_nodup g)
  unfold uniqueB
  simp only [Bool.and_eq_true, List.all_eq_true, decide_eq_true_eq]
  refine ⟨fun c hcm => ?_, ⟨⟨⟨⟨⟨ids_nodup g, ?_⟩, ?_⟩, ?_⟩, ?_⟩, links_nodup g⟩⟩
  · rw [hc] at hcm
    obtain ⟨p, hp, rfl⟩ := List.mem_map.1 hcm
    exact hids.sublist (cacheK_cores (cacheK hT hk hp))
  · rw [hc, List.map_map]
    refine nodup_of fun i j z hi hj => ?_
    obtain ⟨p, hp, rfl⟩ := map_get hi
    obtain ⟨q, hq, he⟩ := map_get hj
    have hpq := cacheK_inj (cacheK hT hk (List.mem_of_getElem? hq)) (cacheK hT hk (List.mem_of_getElem? hp)) he
    subst hpq
    exact nodup_get hT.1 hp hq
  · refine nodup_of fun i j z hi hj => ?_
    obtain ⟨a, ha, rfl⟩ := map_get hi
    obtain ⟨b, hb, he⟩ := map_get hj
    rw [(g.me i a ha).1, (g.me j b hb).1] at he
    have := (List.getElem?_eq_some_iff.1 ha).1
    have := (List.getElem?_eq_some_iff.1 hb).1
    have := g.nm'
    exact (ramN_inj (by omega) (by omega) he).symm
  · refine nodup_of fun i j z hi hj => ?_
    obtain ⟨a, ha, rfl⟩ := map_get hi
    obtain ⟨b, hb, he⟩ := map_get hj
    rw [(g.de i a ha).1, (g.de j b hb).1] at he
    have := (List.getElem?_eq_some_iff.1 ha).1
    have := (List.getElem?_eq_some_iff.1 hb).1
    have := g.nd'
    exact (devN_inj (by omega) (by omega) he).symm
  · refine nodup_of fun i j z hi hj => ?_
    obtain ⟨a, ha, rfl⟩ := map_get hi
    obtain ⟨b, hb, he⟩ := map_get hj
    have h1 := (g.de i a ha).2.2.1
    have h2 := (g.de j b hb).2.2.1
    rw [h1, h2] at he
    have := (List.getElem?_eq_some_iff.1 ha).1
    have := (List.getElem?_eq_some_iff.1 hb).1
    have := g.nd'
    have := g.iq
    omega
theorem gen_known (g : Gen H nodes sh first irq) : knownB H = true := by
  obtain ⟨k, T, hT, hk, hc⟩ := g.ca
  unfold knownB
  simp only [List.all_eq_true, List.any_eq_true, decide_eq_true_eq]
  intro c hcm id hid
  rw [hc] at hcm
  obtain ⟨p, hp, rfl⟩ := List.mem_map.1 hcm
  have h1 := (cacheK_cores (cacheK hT hk hp)).subset hid
  have h2 := (bsort_perm _).mem_iff.1 h1
  obtain ⟨x, hx, he⟩ := List.mem_map.1 h2
  exact ⟨x, hx, he⟩
theorem gen_disj (g : Gen H nodes sh first irq) : disjB H = true := decP_t fun i k a b hki ha hb => by
  have h7 := g.nm'
  have h8 := g.nd'
  have hm : ∀ (i : Nat) (x : MemT), H.Mems[i]? = some x → i < 4 ∧ (memBlk x).1 = (5 - i) * 16777216 ∧ (memBlk x).2 ≤ (5 - i) * 16777216 + 524288 ∧ (memBlk x).1 < (memBlk x).2 := fun i x hx => by
    obtain ⟨-, h2, ⟨e, e1, e2, h3⟩, -⟩ := g.me i x hx
    obtain ⟨p1, p2⟩ := pow_rng e1 e2
    have := (List.getElem?_eq_some_iff.1 hx).1
    unfold memBlk
    dsimp only
    rw [show IntKind.u64.wrap (x.Base + x.Size) = x.Base + x.Size from by simp [IntKind.wrap, IntKind.bits, IntKind.signed]; omega]
    omega
  have hd : ∀ (i : Nat) (x : DevT), H.Devs[i]? = some x → i < 4 ∧ (devBlk x).1 = 4294967296 + i * 65536 ∧ (devBlk x).2 ≤ 4294967296 + i * 65536 + 12288 ∧ (devBlk x).1 < (devBlk x).2 := fun i x hx => by
    obtain ⟨-, -, -, h2, t, t1, t2, h3⟩ := g.de i x hx
    have := (List.getElem?_eq_some_iff.1 hx).1
    unfold devBlk
    dsimp only
    rw [show IntKind.u64.wrap (x.Base + x.Size) = x.Base + x.Size from by simp [IntKind.wrap, IntKind.bits, IntKind.signed]; omega]
    omega
  have hr : ∀ (i : Nat) (a : Int × Int), (regs H)[i]? = some a → (∃ x, H.Mems[i]? = some x ∧ memBlk x = a) ∨ (∃ j x, i = H.Mems.length + j ∧ H.Devs[j]? = some x ∧ devBlk x = a) := fun i a ha => by
    unfold regs at ha
    rw [List.getElem?_append] at ha
    split at ha
    · exact .inl (map_get ha)
    · rename_i hlt
      obtain ⟨x, hx, he⟩ := map_get ha
      simp at hlt hx
      exact .inr ⟨i - H.Mems.length, x, by omega, hx, he⟩
  have key : ¬ (a.1 < b.2 ∧ b.1 < a.2) := by
    rcases hr i a ha with ⟨x, hx, rfl⟩ | ⟨j, x, hj, hx, rfl⟩ <;> rcases hr k b hb with ⟨y, hy, rfl⟩ | ⟨l, y, hl, hy, rfl⟩
    · have := hm i x hx; have := hm k y hy; omega
    · have := (List.getElem?_eq_some_iff.1 hx).1; omega
    · have := hd j x hx; have := hm k y hy; omega
    · have := hd j x hx; have := hd l y hy; omega
  unfold apartB
  simp only [Bool.not_eq_true', Bool.and_eq_false_iff, decide_eq_false_iff_not]
  omega
theorem reach_trans {ls : List LinkT} {a b c : Int} (h : Reach ls a b) (k : Reach ls b c) : Reach ls a c := by
  induction k with
  | refl => exact h
  | ab hl _ ih => exact .ab hl ih
  | ba hl _ ih => exact .ba hl ih
theorem reach_symm {ls : List LinkT} {a b : Int} (h : Reach ls a b) : Reach ls b a := by
  induction h with
  | refl => exact .refl
  | ab hl _ ih => exact reach_trans (.ba hl .refl) ih
  | ba hl _ ih => exact reach_trans (.ab hl .refl) ih
theorem gen_conn (g : Gen H nodes sh first irq) : connB H = true := by
  obtain ⟨-, P, h2, h3, h4, h5, h6⟩ := g.li
  have hnd := g.nd
  have r0 : ∀ i : Nat, i < nodes.toNat → Reach H.Links (nodeG sh 0) (nodeG sh i) := by
    intro i
    induction i using Nat.strongRecOn with
    | ind i ih =>
      intro hi
      by_cases e : i = 0
      · subst e; exact .refl
      · obtain ⟨j, hj⟩ := h6 i (by omega) hi
        have hji := (h4 _ hj).1
        dsimp at hji
        obtain ⟨n, hn, hp⟩ := mem_get hj
        obtain ⟨x, hx⟩ := get_lt (l := H.Links) (k := n) (by omega)
        have hl := h5 n x _ hx hp
        have hxm := List.mem_of_getElem? hx
        have hr := ih j hji (by omega)
        rcases hl.1 with ⟨a, b⟩ | ⟨a, b⟩
        · dsimp at a b; rw [← a]; rw [← b] at hr; exact .ba hxm hr
        · dsimp at a b; rw [← b]; rw [← a] at hr; exact .ab hxm hr
  have hu : ∀ n ∈ usedN H, IsNodeG nodes sh n := fun n hn => by
    unfold usedN at hn
    simp only [List.mem_append, List.mem_map] at hn
    rcases hn with (⟨x, hx, rfl⟩ | ⟨x, hx, rfl⟩) | ⟨x, hx, rfl⟩
    · obtain ⟨i, hi, he⟩ := mem_get hx; exact (g.co i x he).2.2.1
    · obtain ⟨i, hi, he⟩ := mem_get hx; exact (g.me i x he).2.2.2.1
    · obtain ⟨i, hi, he⟩ := mem_get hx; exact (g.de i x he).2.1
  have hr : ∀ n ∈ usedN H, Reach H.Links (nodeG sh 0) n := fun n hn => by
    obtain ⟨j, j0, j1, rfl⟩ := hu n hn
    have := r0 j.toNat (by omega)
    rwa [Int.toNat_of_nonneg j0] at this
  have hlen : 0 < (usedN H).length := by have := g.nc; simp [usedN]; omega
  obtain ⟨s0, hs0⟩ := get_lt (l := usedN H) (k := 0) hlen
  refine decP_t fun n hn => ?_
  rw [head_used hs0]
  exact reach_trans (reach_symm (hr s0 (List.mem_of_getElem? hs0))) (hr n hn)
end
end Go.Proofs.YtfbggkmlkkffbaaDoor
end
/- Exchanging two edges of one sender leaves a tree valid, and completes a plan no earlier. -/
section
open Go Mk
namespace Go.Proofs.YtfbggkmlkkffbaaDoor

/-! ### arrivals of a tree of two levels -/
section
variable {far : Int → Int → Int} {cost : Int} {r : Int} {es : List Pl}
end

/-! ### the plan -/
section
variable {H : HwT} {r : Int} {ms : List Int} {cost : Int}
end
end Go.Proofs.YtfbggkmlkkffbaaDoor
end
/- The reference's reached, NodeOf and Valid, walked. -/
section
open Go Mk
namespace Go.Proofs.YtfbggkmlkkffbaaDoor
set_option maxHeartbeats 16000000
attribute [local irreducible] Calls
/-! ### protocol -/
end Go.Proofs.YtfbggkmlkkffbaaDoor
end
/- Path, walked. -/
section
open Go Mk
namespace Go.Proofs.YtfbggkmlkkffbaaDoor
set_option maxHeartbeats 8000000
attribute [local irreducible] Calls
end Go.Proofs.YtfbggkmlkkffbaaDoor
end
/- The chapter's example: its distances, path, tree and completion. -/
section
open Go Mk
namespace Go.Proofs.YtfbggkmlkkffbaaDoor

end Go.Proofs.YtfbggkmlkkffbaaDoor
end
/- height, walked. -/
section
open Go Mk
namespace Go.Proofs.YtfbggkmlkkffbaaDoor
set_option maxHeartbeats 16000000
attribute [local irreducible] Calls
end Go.Proofs.YtfbggkmlkkffbaaDoor
end
/- Plan, walked (printed in part by gen_h25.py). -/
section
open Go Mk
namespace Go.Proofs.YtfbggkmlkkffbaaDoor
set_option maxHeartbeats 16000000
attribute [local irreducible] Calls
theorem intRows_app (a b : List Int) : intRows (a ++ b) = intRows a ++ intRows b := by unfold intRows; rw [List.map_append]
end Go.Proofs.YtfbggkmlkkffbaaDoor
end
/- The reference's SameInts and Equal (printed by a program). -/
section
open Go Mk
namespace Go.Proofs.YtfbggkmlkkffbaaDoor
set_option maxHeartbeats 16000000
attribute [local irreducible] Calls
end Go.Proofs.YtfbggkmlkkffbaaDoor
end
/- The chapter's sanity check, walked. -/
section
open Go Mk
namespace Go.Proofs.YtfbggkmlkkffbaaDoor
set_option maxHeartbeats 16000000
attribute [local irreducible] Calls
end Go.Proofs.YtfbggkmlkkffbaaDoor
end
/- The descriptions made of numbers are valid: nesting; and Validate says so. -/
section
open Go Mk
namespace Go.Proofs.YtfbggkmlkkffbaaDoor
set_option maxHeartbeats 4000000
attribute [local irreducible] Calls
theorem memI_iff {x : Int} {l : List Int} : memI x l = true ↔ x ∈ l := by
  unfold memI
  rw [List.any_eq_true]
  exact ⟨fun ⟨y, hy, he⟩ => by rw [of_decide_eq_true he]; exact hy, fun h => ⟨x, h, decide_eq_true rfl⟩⟩
theorem shared_all {a b : List Int} (h : ∀ x ∈ a, x ∈ b) : sharedN a b = a.length := by
  unfold sharedN
  rw [List.filter_eq_self.2 fun x hx => memI_iff.2 (h x hx)]
theorem shared_none {a b : List Int} (h : ∀ x ∈ a, x ∉ b) : sharedN a b = 0 := by
  unfold sharedN
  rw [List.filter_eq_nil_iff.2 fun x hx => by rw [memI_iff]; exact h x hx]; rfl
theorem sortedP.part {l : List Int} (h : sortedP l) (a b : Nat) : sortedP ((l.drop a).take b) := fun i x y hx hy => by
  rw [List.getElem?_take] at hx hy
  split at hx
  · split at hy
    · rw [List.getElem?_drop] at hx hy
      exact h (a + i) x y hx (by rw [show a + i + 1 = a + (i + 1) by omega]; exact hy)
    · cases hy
  · cases hx
theorem part_at {l : List Int} {t m : Nat} (hm : m ≤ 2) {x : Int} (h : x ∈ (l.drop (2 * t)).take m) : ∃ j, j / 2 = t ∧ l[j]? = some x := by
  obtain ⟨i, hi, he⟩ := mem_get h
  rw [List.getElem?_take] at he
  split at he
  · rw [List.getElem?_drop] at he
    exact ⟨2 * t + i, by omega, he⟩
  · cases he
section
variable {H : HwT} {nodes sh first irq : Int}
theorem cacheK_pair {ids : List Int} (hn : ids.Nodup) {c d : CacheT} {p q : Nat × Nat} (h : CacheK ids c p) (k : CacheK ids d q) (hne : p ≠ q) (hl : ¬ d.Level < c.Level) : sharedN c.Cores d.Cores = 0 ∨ (c.Level ≠ d.Level ∧ sharedN c.Cores d.Cores = c.Cores.length) := by
  have apart : ∀ {t s m n : Nat}, t ≠ s → m ≤ 2 → n ≤ 2 → sharedN ((ids.drop (2 * t)).take m) ((ids.drop (2 * s)).take n) = 0 := fun hts hm hn2 => shared_none fun x hx hx2 => by
    obtain ⟨i, hi, hi2⟩ := part_at hm hx
    obtain ⟨j, hj, hj2⟩ := part_at hn2 hx2
    have := nodup_get hn hi2 hj2
    omega
  cases h with
  | all => cases k with
    | all => exact absurd rfl hne
    | pair => exact absurd (by dsimp only; omega) hl
    | own => exact absurd (by dsimp only; omega) hl
  | pair h1 h2 => cases k with
    | all => exact .inr ⟨by dsimp only; omega, shared_all fun x hx => List.mem_of_mem_drop (List.mem_of_mem_take hx)⟩
    | pair h3 h4 => exact .inl (apart (fun e => hne (by rw [e])) (by omega) (by omega))
    | own => exact absurd (by dsimp only; omega) hl
  | own h1 h2 => cases k with
    | all => exact .inr ⟨by dsimp only; omega, shared_all fun x hx => List.mem_of_mem_drop (List.mem_of_mem_take hx)⟩
    | @pair s h3 h4 =>
      rename_i t
      by_cases e : t = s
      · subst e
        refine .inr ⟨by dsimp only; omega, shared_all fun x hx => ?_⟩
        exact (List.take_sublist_take_left (by omega)).subset hx
      · exact .inl (apart e (by omega) (by omega))
    | own h3 h4 => exact .inl (apart (fun e => hne (by rw [e])) (by omega) (by omega))
theorem cacheK_sorted {ids : List Int} (hs : sortedP ids) {c : CacheT} {p : Nat × Nat} (h : CacheK ids c p) : sortedP c.Cores := by
  cases h with
  | all => exact hs
  | pair => exact hs.part _ _
  | own => exact hs.part _ _
theorem gen_hier (g : Gen H nodes sh first irq) : hierB H = true := by
  obtain ⟨k, T, hT, hk, hc⟩ := g.ca
  have hids : (bsort ltI (H.Cores.map (·.ID))).Nodup := (bsort_perm _).nodup_iff.2 (ids_nodup g)
  refine decP_t ⟨fun c hcm => ?_, fun i j a b ha hb => ?_⟩
  · rw [hc] at hcm
    obtain ⟨p, hp, rfl⟩ := List.mem_map.1 hcm
    exact cacheK_sorted sortI (cacheK hT hk hp)
  · rw [hc] at ha hb
    obtain ⟨p, hp, rfl⟩ := map_get ha
    obtain ⟨q, hq, rfl⟩ := map_get hb
    unfold pairB
    by_cases e : i = j
    · simp [e]
    · have hne : p ≠ q := fun h => e (by subst h; exact nodup_get hT.1 hp hq)
      by_cases hl : (cacheG (bsort ltI (H.Cores.map (·.ID))) q).Level < (cacheG (bsort ltI (H.Cores.map (·.ID))) p).Level
      · simp [hl]
      · rcases cacheK_pair hids (cacheK hT hk (List.mem_of_getElem? hp)) (cacheK hT hk (List.mem_of_getElem? hq)) hne hl with h | ⟨h1, h2⟩
        · rw [h]; simp
        · rw [h2]; simp [h1]
/-- A description made of numbers is valid. -/
theorem gen_valid (g : Gen H nodes sh first irq) : validS H = 0 := by
  simp [validS, gen_names g, gen_counts g, gen_cores g, gen_regions g, gen_align g, gen_unique g, gen_known g, gen_hier g, gen_disj g, gen_conn g]
theorem name_small {s : ByteArray} (h : nameS s = true) : s.size ≤ maxS := by
  unfold nameS at h
  simp only [Bool.and_eq_true, decide_eq_true_eq] at h
  unfold maxS
  omega
theorem names_sz {H : HwT} (h : namesB H = true) : HwSz H := by
  unfold namesB headB at h
  simp only [Bool.and_eq_true, List.all_eq_true, decide_eq_true_eq] at h
  obtain ⟨⟨⟨⟨⟨-, h0⟩, -⟩, h1⟩, h2⟩, h3⟩ := h
  exact ⟨by unfold maxS; omega, fun c hc => name_small (h1 c hc), fun c hc => name_small (h2 c hc), fun c hc => name_small (h3 c hc)⟩
theorem gen_sz (g : Gen H nodes sh first irq) : HwSz H := names_sz (gen_names g)
end
end Go.Proofs.YtfbggkmlkkffbaaDoor
end
/- Sums along a path; what Distance and Path answer for cores of a valid description. -/
section
open Go Mk
namespace Go.Proofs.YtfbggkmlkkffbaaDoor

theorem lats_ok {ls : List LinkT} (h : LinksOk ls) : ∀ l ∈ ls, 0 ≤ l.Latency ∧ l.Latency ≤ 1000000 := fun l hl => by
  have := h.2 l hl; omega

/-! ### cores of a valid description -/
theorem valid_keys {H : HwT} (h : validS H = 0) : (H.Links.map linkKey).Nodup := by
  obtain ⟨-, -, -, -, h5, -⟩ := valid_all h
  unfold uniqueB at h5
  simp only [Bool.and_eq_true, decide_eq_true_eq] at h5
  exact h5.2.2
end Go.Proofs.YtfbggkmlkkffbaaDoor
end
