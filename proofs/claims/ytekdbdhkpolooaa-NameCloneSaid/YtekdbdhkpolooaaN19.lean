/- Two lists alike. (printed by gen_same.py) -/
import Derived.Test.YtekdbdhkpolooaaN18
open Go Mk
namespace Go.Proofs.Ytekdbdhkpolooaa
set_option maxHeartbeats 2000000
attribute [local irreducible] Calls

theorem SameServices_own (Γ : Gho) (S : List Res) (w : World) (va vb : Value) (xs ys : List Service) (hw : Wd Γ (.own va 31 4 (xs.map enc) :: .own vb 31 4 (ys.map enc) :: S) w) :
    Calls Try.prog 23 #[va, vb] w fun e w' => e = .returned (.bool (decide (xs = ys))) ∧ Wd Γ (.own va 31 4 (xs.map enc) :: .own vb 31 4 (ys.map enc) :: S) w' := by
  obtain ⟨a, n, c, rfl, hn, hnc, hc⟩ := hw.own_shape (i := 0) rfl
  obtain ⟨b, m, c', rfl, hm, hmc, hc'⟩ := hw.own_shape (i := 1) rfl
  simp only [List.length_map] at hn hm
  refine calls_of_W Try.func23 rfl rfl ?_
  repeat (first | (first | refine W_seq ?_ | refine W_block ?_ | refine W_region ?_ | refine W_skip ?_ | refine W_ret ?_ | refine W_exit ?_) | (first | refine L_nil ?_ | (apply L_plain; first | (apply L_go; refine lP ?_) | (apply L_mf; refine lMakeFunc ?_) | refine lY ?_) | (apply L_guarded; first | refine lGT ?_ | refine lGF ?_ | (apply L_go; refine lPG ?_) | refine lG ?_)))
  refine W_cond rfl (fun h => ?_) (fun h => ?_)
  · repeat (first | (first | refine W_seq ?_ | refine W_block ?_ | refine W_region ?_ | refine W_skip ?_ | refine W_ret ?_ | refine W_exit ?_) | (first | refine L_nil ?_ | (apply L_plain; first | (apply L_go; refine lP ?_) | (apply L_mf; refine lMakeFunc ?_) | refine lY ?_) | (apply L_guarded; first | refine lGT ?_ | refine lGF ?_ | (apply L_go; refine lPG ?_) | refine lG ?_)))
    refine ⟨_, rfl, ret_b rfl ?_, hw⟩
    have : xs ≠ ys := fun e => by subst e; simp at h; omega
    simp [this]
  · repeat (first | (first | refine W_seq ?_ | refine W_block ?_ | refine W_region ?_ | refine W_skip ?_ | refine W_ret ?_ | refine W_exit ?_) | (first | refine L_nil ?_ | (apply L_plain; first | (apply L_go; refine lP ?_) | (apply L_mf; refine lMakeFunc ?_) | refine lY ?_) | (apply L_guarded; first | refine lGT ?_ | refine lGF ?_ | (apply L_go; refine lPG ?_) | refine lG ?_)))
    have hnm : n = m := by simp at h; omega
    refine W_loop (fun μ ρ w => ∃ k : Nat, μ + k = n ∧ Has ρ [(0, .slice a n c), (1, .slice b m c'), (5, .int .i64 k)] ∧ Wd Γ (.own (.slice a n c) 31 4 (xs.map enc) :: .own (.slice b m c') 31 4 (ys.map enc) :: S) w ∧ ∀ i, i < k → xs[i]? = ys[i]?) n ⟨0, rfl, ⟨rfl, rfl, rfl, trivial⟩, hw, fun i h => absurd h (Nat.not_lt_zero i)⟩ ?_
    rintro μ ρ w ⟨k, hk, hρ, hw, hi⟩
    rw [hρ.eq]
    repeat (first | (first | refine W_seq ?_ | refine W_block ?_ | refine W_region ?_ | refine W_skip ?_ | refine W_ret ?_ | refine W_exit ?_) | (first | refine L_nil ?_ | (apply L_plain; first | (apply L_go; refine lP ?_) | (apply L_mf; refine lMakeFunc ?_) | refine lY ?_) | (apply L_guarded; first | refine lGT ?_ | refine lGF ?_ | (apply L_go; refine lPG ?_) | refine lG ?_)))
    refine W_cond rfl (fun h => ?_) (fun h => ?_)
    · have hkn : k < n := by simpa using h
      obtain ⟨x, hx⟩ := get_lt (l := xs) (k := k) (by omega)
      obtain ⟨y, hy⟩ := get_lt (l := ys) (k := k) (by omega)
      repeat (first | (first | refine W_seq ?_ | refine W_block ?_ | refine W_region ?_ | refine W_skip ?_ | refine W_ret ?_ | refine W_exit ?_) | (first | refine L_nil ?_ | (apply L_plain; first | (apply L_go; refine lP ?_) | (apply L_mf; refine lMakeFunc ?_) | refine lY ?_) | (apply L_guarded; first | refine lGT ?_ | refine lGF ?_ | (apply L_go; refine lPG ?_) | refine lG ?_)))
      refine W_quiet (by kernel_rfl) (by kernel_rfl) hw ?_
      repeat (first | refine Q_nil ?_ | (apply Q_plain; first | (apply Q_go; refine qP ?_) | refine qY ?_) | (apply Q_guarded; first | (apply Q_go; refine qPG ?_) | refine qG ?_))
      intro w hw
      refine W_cond rfl (fun h2 => ?_) (fun h2 => ?_)
      · repeat (first | (first | refine W_seq ?_ | refine W_block ?_ | refine W_region ?_ | refine W_skip ?_ | refine W_ret ?_ | refine W_exit ?_) | (first | refine L_nil ?_ | (apply L_plain; first | (apply L_go; refine lP ?_) | (apply L_mf; refine lMakeFunc ?_) | refine lY ?_) | (apply L_guarded; first | refine lGT ?_ | refine lGF ?_ | (apply L_go; refine lPG ?_) | refine lG ?_)))
        refine ⟨_, rfl, ret_b rfl ?_, hw⟩
        have : xs ≠ ys := fun e => by subst e; rw [hx] at hy; cases hy; simp at h2
        simp [this]
      · repeat (first | (first | refine W_seq ?_ | refine W_block ?_ | refine W_region ?_ | refine W_skip ?_ | refine W_ret ?_ | refine W_exit ?_) | (first | refine L_nil ?_ | (apply L_plain; first | (apply L_go; refine lP ?_) | (apply L_mf; refine lMakeFunc ?_) | refine lY ?_) | (apply L_guarded; first | refine lGT ?_ | refine lGF ?_ | (apply L_go; refine lPG ?_) | refine lG ?_)))
        refine ⟨μ - 1, by omega, k + 1, by omega, ⟨rfl, rfl, rfl, trivial⟩, hw, fun i hi' => ?_⟩
        by_cases e : i = k
        · subst e; rw [hx, hy]; simpa using h2
        · exact hi i (by omega)
    · repeat (first | (first | refine W_seq ?_ | refine W_block ?_ | refine W_region ?_ | refine W_skip ?_ | refine W_ret ?_ | refine W_exit ?_) | (first | refine L_nil ?_ | (apply L_plain; first | (apply L_go; refine lP ?_) | (apply L_mf; refine lMakeFunc ?_) | refine lY ?_) | (apply L_guarded; first | refine lGT ?_ | refine lGF ?_ | (apply L_go; refine lPG ?_) | refine lG ?_)))
      refine ⟨_, rfl, ret_b rfl ?_, hw⟩
      have : xs = ys := List.ext_getElem? fun i => by
        by_cases e : i < k
        · exact hi i e
        · have : ¬ k < n := by simpa using h
          rw [List.getElem?_eq_none (by omega), List.getElem?_eq_none (by omega)]
      simp [this]

theorem SameWaiters_own (Γ : Gho) (S : List Res) (w : World) (va vb : Value) (xs ys : List Waiter) (hw : Wd Γ (.own va 35 3 (xs.map enc) :: .own vb 35 3 (ys.map enc) :: S) w) :
    Calls Try.prog 19 #[va, vb] w fun e w' => e = .returned (.bool (decide (xs = ys))) ∧ Wd Γ (.own va 35 3 (xs.map enc) :: .own vb 35 3 (ys.map enc) :: S) w' := by
  obtain ⟨a, n, c, rfl, hn, hnc, hc⟩ := hw.own_shape (i := 0) rfl
  obtain ⟨b, m, c', rfl, hm, hmc, hc'⟩ := hw.own_shape (i := 1) rfl
  simp only [List.length_map] at hn hm
  refine calls_of_W Try.func19 rfl rfl ?_
  repeat (first | (first | refine W_seq ?_ | refine W_block ?_ | refine W_region ?_ | refine W_skip ?_ | refine W_ret ?_ | refine W_exit ?_) | (first | refine L_nil ?_ | (apply L_plain; first | (apply L_go; refine lP ?_) | (apply L_mf; refine lMakeFunc ?_) | refine lY ?_) | (apply L_guarded; first | refine lGT ?_ | refine lGF ?_ | (apply L_go; refine lPG ?_) | refine lG ?_)))
  refine W_cond rfl (fun h => ?_) (fun h => ?_)
  · repeat (first | (first | refine W_seq ?_ | refine W_block ?_ | refine W_region ?_ | refine W_skip ?_ | refine W_ret ?_ | refine W_exit ?_) | (first | refine L_nil ?_ | (apply L_plain; first | (apply L_go; refine lP ?_) | (apply L_mf; refine lMakeFunc ?_) | refine lY ?_) | (apply L_guarded; first | refine lGT ?_ | refine lGF ?_ | (apply L_go; refine lPG ?_) | refine lG ?_)))
    refine ⟨_, rfl, ret_b rfl ?_, hw⟩
    have : xs ≠ ys := fun e => by subst e; simp at h; omega
    simp [this]
  · repeat (first | (first | refine W_seq ?_ | refine W_block ?_ | refine W_region ?_ | refine W_skip ?_ | refine W_ret ?_ | refine W_exit ?_) | (first | refine L_nil ?_ | (apply L_plain; first | (apply L_go; refine lP ?_) | (apply L_mf; refine lMakeFunc ?_) | refine lY ?_) | (apply L_guarded; first | refine lGT ?_ | refine lGF ?_ | (apply L_go; refine lPG ?_) | refine lG ?_)))
    have hnm : n = m := by simp at h; omega
    refine W_loop (fun μ ρ w => ∃ k : Nat, μ + k = n ∧ Has ρ [(0, .slice a n c), (1, .slice b m c'), (5, .int .i64 k)] ∧ Wd Γ (.own (.slice a n c) 35 3 (xs.map enc) :: .own (.slice b m c') 35 3 (ys.map enc) :: S) w ∧ ∀ i, i < k → xs[i]? = ys[i]?) n ⟨0, rfl, ⟨rfl, rfl, rfl, trivial⟩, hw, fun i h => absurd h (Nat.not_lt_zero i)⟩ ?_
    rintro μ ρ w ⟨k, hk, hρ, hw, hi⟩
    rw [hρ.eq]
    repeat (first | (first | refine W_seq ?_ | refine W_block ?_ | refine W_region ?_ | refine W_skip ?_ | refine W_ret ?_ | refine W_exit ?_) | (first | refine L_nil ?_ | (apply L_plain; first | (apply L_go; refine lP ?_) | (apply L_mf; refine lMakeFunc ?_) | refine lY ?_) | (apply L_guarded; first | refine lGT ?_ | refine lGF ?_ | (apply L_go; refine lPG ?_) | refine lG ?_)))
    refine W_cond rfl (fun h => ?_) (fun h => ?_)
    · have hkn : k < n := by simpa using h
      obtain ⟨x, hx⟩ := get_lt (l := xs) (k := k) (by omega)
      obtain ⟨y, hy⟩ := get_lt (l := ys) (k := k) (by omega)
      repeat (first | (first | refine W_seq ?_ | refine W_block ?_ | refine W_region ?_ | refine W_skip ?_ | refine W_ret ?_ | refine W_exit ?_) | (first | refine L_nil ?_ | (apply L_plain; first | (apply L_go; refine lP ?_) | (apply L_mf; refine lMakeFunc ?_) | refine lY ?_) | (apply L_guarded; first | refine lGT ?_ | refine lGF ?_ | (apply L_go; refine lPG ?_) | refine lG ?_)))
      refine W_quiet (by kernel_rfl) (by kernel_rfl) hw ?_
      repeat (first | refine Q_nil ?_ | (apply Q_plain; first | (apply Q_go; refine qP ?_) | refine qY ?_) | (apply Q_guarded; first | (apply Q_go; refine qPG ?_) | refine qG ?_))
      intro w hw
      refine W_cond rfl (fun h2 => ?_) (fun h2 => ?_)
      · repeat (first | (first | refine W_seq ?_ | refine W_block ?_ | refine W_region ?_ | refine W_skip ?_ | refine W_ret ?_ | refine W_exit ?_) | (first | refine L_nil ?_ | (apply L_plain; first | (apply L_go; refine lP ?_) | (apply L_mf; refine lMakeFunc ?_) | refine lY ?_) | (apply L_guarded; first | refine lGT ?_ | refine lGF ?_ | (apply L_go; refine lPG ?_) | refine lG ?_)))
        refine ⟨_, rfl, ret_b rfl ?_, hw⟩
        have : xs ≠ ys := fun e => by subst e; rw [hx] at hy; cases hy; simp at h2
        simp [this]
      · repeat (first | (first | refine W_seq ?_ | refine W_block ?_ | refine W_region ?_ | refine W_skip ?_ | refine W_ret ?_ | refine W_exit ?_) | (first | refine L_nil ?_ | (apply L_plain; first | (apply L_go; refine lP ?_) | (apply L_mf; refine lMakeFunc ?_) | refine lY ?_) | (apply L_guarded; first | refine lGT ?_ | refine lGF ?_ | (apply L_go; refine lPG ?_) | refine lG ?_)))
        refine ⟨μ - 1, by omega, k + 1, by omega, ⟨rfl, rfl, rfl, trivial⟩, hw, fun i hi' => ?_⟩
        by_cases e : i = k
        · subst e; rw [hx, hy]; simpa using h2
        · exact hi i (by omega)
    · repeat (first | (first | refine W_seq ?_ | refine W_block ?_ | refine W_region ?_ | refine W_skip ?_ | refine W_ret ?_ | refine W_exit ?_) | (first | refine L_nil ?_ | (apply L_plain; first | (apply L_go; refine lP ?_) | (apply L_mf; refine lMakeFunc ?_) | refine lY ?_) | (apply L_guarded; first | refine lGT ?_ | refine lGF ?_ | (apply L_go; refine lPG ?_) | refine lG ?_)))
      refine ⟨_, rfl, ret_b rfl ?_, hw⟩
      have : xs = ys := List.ext_getElem? fun i => by
        by_cases e : i < k
        · exact hi i e
        · have : ¬ k < n := by simpa using h
          rw [List.getElem?_eq_none (by omega), List.getElem?_eq_none (by omega)]
      simp [this]

theorem SameFound_own (Γ : Gho) (S : List Res) (w : World) (va vb : Value) (xs ys : List Found) (hw : Wd Γ (.own va 47 6 (xs.map enc) :: .own vb 47 6 (ys.map enc) :: S) w) :
    Calls Try.prog 38 #[va, vb] w fun e w' => e = .returned (.bool (decide (xs = ys))) ∧ Wd Γ (.own va 47 6 (xs.map enc) :: .own vb 47 6 (ys.map enc) :: S) w' := by
  obtain ⟨a, n, c, rfl, hn, hnc, hc⟩ := hw.own_shape (i := 0) rfl
  obtain ⟨b, m, c', rfl, hm, hmc, hc'⟩ := hw.own_shape (i := 1) rfl
  simp only [List.length_map] at hn hm
  refine calls_of_W Try.func38 rfl rfl ?_
  repeat (first | (first | refine W_seq ?_ | refine W_block ?_ | refine W_region ?_ | refine W_skip ?_ | refine W_ret ?_ | refine W_exit ?_) | (first | refine L_nil ?_ | (apply L_plain; first | (apply L_go; refine lP ?_) | (apply L_mf; refine lMakeFunc ?_) | refine lY ?_) | (apply L_guarded; first | refine lGT ?_ | refine lGF ?_ | (apply L_go; refine lPG ?_) | refine lG ?_)))
  refine W_cond rfl (fun h => ?_) (fun h => ?_)
  · repeat (first | (first | refine W_seq ?_ | refine W_block ?_ | refine W_region ?_ | refine W_skip ?_ | refine W_ret ?_ | refine W_exit ?_) | (first | refine L_nil ?_ | (apply L_plain; first | (apply L_go; refine lP ?_) | (apply L_mf; refine lMakeFunc ?_) | refine lY ?_) | (apply L_guarded; first | refine lGT ?_ | refine lGF ?_ | (apply L_go; refine lPG ?_) | refine lG ?_)))
    refine ⟨_, rfl, ret_b rfl ?_, hw⟩
    have : xs ≠ ys := fun e => by subst e; simp at h; omega
    simp [this]
  · repeat (first | (first | refine W_seq ?_ | refine W_block ?_ | refine W_region ?_ | refine W_skip ?_ | refine W_ret ?_ | refine W_exit ?_) | (first | refine L_nil ?_ | (apply L_plain; first | (apply L_go; refine lP ?_) | (apply L_mf; refine lMakeFunc ?_) | refine lY ?_) | (apply L_guarded; first | refine lGT ?_ | refine lGF ?_ | (apply L_go; refine lPG ?_) | refine lG ?_)))
    have hnm : n = m := by simp at h; omega
    refine W_loop (fun μ ρ w => ∃ k : Nat, μ + k = n ∧ Has ρ [(0, .slice a n c), (1, .slice b m c'), (5, .int .i64 k)] ∧ Wd Γ (.own (.slice a n c) 47 6 (xs.map enc) :: .own (.slice b m c') 47 6 (ys.map enc) :: S) w ∧ ∀ i, i < k → xs[i]? = ys[i]?) n ⟨0, rfl, ⟨rfl, rfl, rfl, trivial⟩, hw, fun i h => absurd h (Nat.not_lt_zero i)⟩ ?_
    rintro μ ρ w ⟨k, hk, hρ, hw, hi⟩
    rw [hρ.eq]
    repeat (first | (first | refine W_seq ?_ | refine W_block ?_ | refine W_region ?_ | refine W_skip ?_ | refine W_ret ?_ | refine W_exit ?_) | (first | refine L_nil ?_ | (apply L_plain; first | (apply L_go; refine lP ?_) | (apply L_mf; refine lMakeFunc ?_) | refine lY ?_) | (apply L_guarded; first | refine lGT ?_ | refine lGF ?_ | (apply L_go; refine lPG ?_) | refine lG ?_)))
    refine W_cond rfl (fun h => ?_) (fun h => ?_)
    · have hkn : k < n := by simpa using h
      obtain ⟨x, hx⟩ := get_lt (l := xs) (k := k) (by omega)
      obtain ⟨y, hy⟩ := get_lt (l := ys) (k := k) (by omega)
      repeat (first | (first | refine W_seq ?_ | refine W_block ?_ | refine W_region ?_ | refine W_skip ?_ | refine W_ret ?_ | refine W_exit ?_) | (first | refine L_nil ?_ | (apply L_plain; first | (apply L_go; refine lP ?_) | (apply L_mf; refine lMakeFunc ?_) | refine lY ?_) | (apply L_guarded; first | refine lGT ?_ | refine lGF ?_ | (apply L_go; refine lPG ?_) | refine lG ?_)))
      refine W_quiet (by kernel_rfl) (by kernel_rfl) hw ?_
      repeat (first | refine Q_nil ?_ | (apply Q_plain; first | (apply Q_go; refine qP ?_) | refine qY ?_) | (apply Q_guarded; first | (apply Q_go; refine qPG ?_) | refine qG ?_))
      intro w hw
      refine W_cond rfl (fun h2 => ?_) (fun h2 => ?_)
      · repeat (first | (first | refine W_seq ?_ | refine W_block ?_ | refine W_region ?_ | refine W_skip ?_ | refine W_ret ?_ | refine W_exit ?_) | (first | refine L_nil ?_ | (apply L_plain; first | (apply L_go; refine lP ?_) | (apply L_mf; refine lMakeFunc ?_) | refine lY ?_) | (apply L_guarded; first | refine lGT ?_ | refine lGF ?_ | (apply L_go; refine lPG ?_) | refine lG ?_)))
        refine ⟨_, rfl, ret_b rfl ?_, hw⟩
        have : xs ≠ ys := fun e => by subst e; rw [hx] at hy; cases hy; simp at h2
        simp [this]
      · repeat (first | (first | refine W_seq ?_ | refine W_block ?_ | refine W_region ?_ | refine W_skip ?_ | refine W_ret ?_ | refine W_exit ?_) | (first | refine L_nil ?_ | (apply L_plain; first | (apply L_go; refine lP ?_) | (apply L_mf; refine lMakeFunc ?_) | refine lY ?_) | (apply L_guarded; first | refine lGT ?_ | refine lGF ?_ | (apply L_go; refine lPG ?_) | refine lG ?_)))
        refine ⟨μ - 1, by omega, k + 1, by omega, ⟨rfl, rfl, rfl, trivial⟩, hw, fun i hi' => ?_⟩
        by_cases e : i = k
        · subst e; rw [hx, hy]; simpa using h2
        · exact hi i (by omega)
    · repeat (first | (first | refine W_seq ?_ | refine W_block ?_ | refine W_region ?_ | refine W_skip ?_ | refine W_ret ?_ | refine W_exit ?_) | (first | refine L_nil ?_ | (apply L_plain; first | (apply L_go; refine lP ?_) | (apply L_mf; refine lMakeFunc ?_) | refine lY ?_) | (apply L_guarded; first | refine lGT ?_ | refine lGF ?_ | (apply L_go; refine lPG ?_) | refine lG ?_)))
      refine ⟨_, rfl, ret_b rfl ?_, hw⟩
      have : xs = ys := List.ext_getElem? fun i => by
        by_cases e : i < k
        · exact hi i e
        · have : ¬ k < n := by simpa using h
          rw [List.getElem?_eq_none (by omega), List.getElem?_eq_none (by omega)]
      simp [this]
end Go.Proofs.Ytekdbdhkpolooaa
