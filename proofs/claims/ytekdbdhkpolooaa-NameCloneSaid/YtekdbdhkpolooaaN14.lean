/- The reference's name server: looking up, waiting, taking off. -/
import Derived.Test.YtekdbdhkpolooaaN12
open Go Mk
namespace Go.Proofs.Ytekdbdhkpolooaa
set_option maxHeartbeats 2000000
attribute [local irreducible] Calls

/-- The reference's state in memory. -/
def refL (b : Nat) (v1 v2 : Value) (ss : List Service) (ws : List Waiter) : List Res := [.blk b (.cells #[v1, v2] 57), .own v1 31 4 (ss.map enc), .own v2 35 3 (ws.map enc)]
def isN (name : ByteArray) (x : Service) : Bool := decide (x.Name = name)

theorem rAt_any (Γ : Gho) (S : List Res) (w : World) (b : Nat) (v1 v2 : Value) (ss : List Service) (ws : List Waiter) (name : ByteArray) (hw : Wd Γ (refL b v1 v2 ss ws ++ S) w) :
    Calls Try.prog 55 #[.pointer (some ⟨b, 0, none⟩), .string name] w fun e w' => e = .returned (.int .i64 (ixZ (ss.findIdx? (isN name)))) ∧ Wd Γ (refL b v1 v2 ss ws ++ S) w' := by
  unfold refL at *
  obtain ⟨a, n, c, rfl, hn, hnc, hc⟩ := hw.own_shape (i := 1) rfl
  simp only [List.length_map] at hn
  refine calls_of_W Try.func55 rfl rfl ?_
  repeat (first | (first | refine W_seq ?_ | refine W_block ?_ | refine W_region ?_ | refine W_skip ?_ | refine W_ret ?_ | refine W_exit ?_) | (first | refine L_nil ?_ | (apply L_plain; first | (apply L_go; refine lP ?_) | (apply L_mf; refine lMakeFunc ?_) | refine lY ?_) | (apply L_guarded; first | refine lGT ?_ | refine lGF ?_ | (apply L_go; refine lPG ?_) | refine lG ?_)))
  refine W_loop (fun μ ρ w => ∃ k : Nat, μ + k = n ∧ Has ρ [(0, .pointer (some ⟨b, 0, none⟩)), (1, .string name), (5, .int .i64 k)] ∧ Wd Γ (.blk b (.cells #[.slice a n c, v2] 57) :: .own (.slice a n c) 31 4 (ss.map enc) :: .own v2 35 3 (ws.map enc) :: S) w ∧ ∀ i x, i < k → ss[i]? = some x → isN name x = false) n ⟨0, by omega, ⟨rfl, rfl, rfl, trivial⟩, hw, fun i x h => absurd h (Nat.not_lt_zero i)⟩ ?_
  rintro μ ρ w ⟨k, hk, hρ, hw, hi⟩
  rw [hρ.eq]
  repeat (first | (first | refine W_seq ?_ | refine W_block ?_ | refine W_region ?_ | refine W_skip ?_ | refine W_ret ?_ | refine W_exit ?_) | (first | refine L_nil ?_ | (apply L_plain; first | (apply L_go; refine lP ?_) | (apply L_mf; refine lMakeFunc ?_) | refine lY ?_) | (apply L_guarded; first | refine lGT ?_ | refine lGF ?_ | (apply L_go; refine lPG ?_) | refine lG ?_)))
  refine W_cond rfl (fun h => ?_) (fun h => ?_)
  · have hkn : k < n := by simpa using h
    obtain ⟨x, hx⟩ := get_lt (l := ss) (k := k) (by omega)
    repeat (first | (first | refine W_seq ?_ | refine W_block ?_ | refine W_region ?_ | refine W_skip ?_ | refine W_ret ?_ | refine W_exit ?_) | (first | refine L_nil ?_ | (apply L_plain; first | (apply L_go; refine lP ?_) | (apply L_mf; refine lMakeFunc ?_) | refine lY ?_) | (apply L_guarded; first | refine lGT ?_ | refine lGF ?_ | (apply L_go; refine lPG ?_) | refine lG ?_)))
    refine W_cond rfl (fun h2 => ?_) (fun h2 => ?_)
    · repeat (first | (first | refine W_seq ?_ | refine W_block ?_ | refine W_region ?_ | refine W_skip ?_ | refine W_ret ?_ | refine W_exit ?_) | (first | refine L_nil ?_ | (apply L_plain; first | (apply L_go; refine lP ?_) | (apply L_mf; refine lMakeFunc ?_) | refine lY ?_) | (apply L_guarded; first | refine lGT ?_ | refine lGF ?_ | (apply L_go; refine lPG ?_) | refine lG ?_)))
      have hf := findIdx_at (p := isN name) hx h2 hi
      rw [hf]
      exact ⟨_, rfl, ret_i rfl rfl, hw⟩
    · repeat (first | (first | refine W_seq ?_ | refine W_block ?_ | refine W_region ?_ | refine W_skip ?_ | refine W_ret ?_ | refine W_exit ?_) | (first | refine L_nil ?_ | (apply L_plain; first | (apply L_go; refine lP ?_) | (apply L_mf; refine lMakeFunc ?_) | refine lY ?_) | (apply L_guarded; first | refine lGT ?_ | refine lGF ?_ | (apply L_go; refine lPG ?_) | refine lG ?_)))
      refine ⟨μ - 1, by omega, k + 1, by omega, ⟨rfl, rfl, rfl, trivial⟩, hw, fun i y hi' hy => ?_⟩
      by_cases e : i = k
      · subst e; rw [hx] at hy; cases hy; exact h2
      · exact hi i y (by omega) hy
  · repeat (first | (first | refine W_seq ?_ | refine W_block ?_ | refine W_region ?_ | refine W_skip ?_ | refine W_ret ?_ | refine W_exit ?_) | (first | refine L_nil ?_ | (apply L_plain; first | (apply L_go; refine lP ?_) | (apply L_mf; refine lMakeFunc ?_) | refine lY ?_) | (apply L_guarded; first | refine lGT ?_ | refine lGF ?_ | (apply L_go; refine lPG ?_) | refine lG ?_)))
    have hkn : ¬ k < n := by simpa using h
    have hf : ss.findIdx? (isN name) = none := List.findIdx?_eq_none_iff.2 (fun x hx => by
      obtain ⟨i, hil, rfl⟩ := List.getElem_of_mem hx
      exact hi i _ (by omega) (List.getElem?_eq_getElem hil))
    rw [hf]
    exact ⟨_, rfl, ret_i rfl rfl, hw⟩

theorem rWaiter_any (Γ : Gho) (S : List Res) (w : World) (b : Nat) (v1 v2 : Value) (ss : List Service) (ws : List Waiter) (token core : Int) (hw : Wd Γ (refL b v1 v2 ss ws ++ S) w) :
    Calls Try.prog 56 #[.pointer (some ⟨b, 0, none⟩), .int .i64 token, .int .i64 core] w fun e w' => e = .returned (.int .i64 (ixZ (ws.findIdx? (isW token core)))) ∧ Wd Γ (refL b v1 v2 ss ws ++ S) w' := by
  unfold refL at *
  obtain ⟨a, n, c, rfl, hn, hnc, hc⟩ := hw.own_shape (i := 2) rfl
  simp only [List.length_map] at hn
  refine calls_of_W Try.func56 rfl rfl ?_
  repeat (first | (first | refine W_seq ?_ | refine W_block ?_ | refine W_region ?_ | refine W_skip ?_ | refine W_ret ?_ | refine W_exit ?_) | (first | refine L_nil ?_ | (apply L_plain; first | (apply L_go; refine lP ?_) | (apply L_mf; refine lMakeFunc ?_) | refine lY ?_) | (apply L_guarded; first | refine lGT ?_ | refine lGF ?_ | (apply L_go; refine lPG ?_) | refine lG ?_)))
  refine W_loop (fun μ ρ w => ∃ k : Nat, μ + k = n ∧ Has ρ [(0, .pointer (some ⟨b, 0, none⟩)), (1, .int .i64 token), (2, .int .i64 core), (7, .int .i64 k)] ∧ Wd Γ (.blk b (.cells #[v1, .slice a n c] 57) :: .own v1 31 4 (ss.map enc) :: .own (.slice a n c) 35 3 (ws.map enc) :: S) w ∧ ∀ i x, i < k → ws[i]? = some x → isW token core x = false) n ⟨0, by omega, ⟨rfl, rfl, rfl, rfl, trivial⟩, hw, fun i x h => absurd h (Nat.not_lt_zero i)⟩ ?_
  rintro μ ρ w ⟨k, hk, hρ, hw, hi⟩
  rw [hρ.eq]
  repeat (first | (first | refine W_seq ?_ | refine W_block ?_ | refine W_region ?_ | refine W_skip ?_ | refine W_ret ?_ | refine W_exit ?_) | (first | refine L_nil ?_ | (apply L_plain; first | (apply L_go; refine lP ?_) | (apply L_mf; refine lMakeFunc ?_) | refine lY ?_) | (apply L_guarded; first | refine lGT ?_ | refine lGF ?_ | (apply L_go; refine lPG ?_) | refine lG ?_)))
  refine W_cond rfl (fun h => ?_) (fun h => ?_)
  · have hkn : k < n := by simpa using h
    obtain ⟨x, hx⟩ := get_lt (l := ws) (k := k) (by omega)
    repeat (first | (first | refine W_seq ?_ | refine W_block ?_ | refine W_region ?_ | refine W_skip ?_ | refine W_ret ?_ | refine W_exit ?_) | (first | refine L_nil ?_ | (apply L_plain; first | (apply L_go; refine lP ?_) | (apply L_mf; refine lMakeFunc ?_) | refine lY ?_) | (apply L_guarded; first | refine lGT ?_ | refine lGF ?_ | (apply L_go; refine lPG ?_) | refine lG ?_)))
    refine W_cond rfl (fun h2 => ?_) (fun h2 => ?_)
    · repeat (first | (first | refine W_seq ?_ | refine W_block ?_ | refine W_region ?_ | refine W_skip ?_ | refine W_ret ?_ | refine W_exit ?_) | (first | refine L_nil ?_ | (apply L_plain; first | (apply L_go; refine lP ?_) | (apply L_mf; refine lMakeFunc ?_) | refine lY ?_) | (apply L_guarded; first | refine lGT ?_ | refine lGF ?_ | (apply L_go; refine lPG ?_) | refine lG ?_)))
      have hf := findIdx_at (p := isW token core) hx h2 hi
      rw [hf]
      exact ⟨_, rfl, ret_i rfl rfl, hw⟩
    · repeat (first | (first | refine W_seq ?_ | refine W_block ?_ | refine W_region ?_ | refine W_skip ?_ | refine W_ret ?_ | refine W_exit ?_) | (first | refine L_nil ?_ | (apply L_plain; first | (apply L_go; refine lP ?_) | (apply L_mf; refine lMakeFunc ?_) | refine lY ?_) | (apply L_guarded; first | refine lGT ?_ | refine lGF ?_ | (apply L_go; refine lPG ?_) | refine lG ?_)))
      refine ⟨μ - 1, by omega, k + 1, by omega, ⟨rfl, rfl, rfl, rfl, trivial⟩, hw, fun i y hi' hy => ?_⟩
      by_cases e : i = k
      · subst e; rw [hx] at hy; cases hy; exact h2
      · exact hi i y (by omega) hy
  · repeat (first | (first | refine W_seq ?_ | refine W_block ?_ | refine W_region ?_ | refine W_skip ?_ | refine W_ret ?_ | refine W_exit ?_) | (first | refine L_nil ?_ | (apply L_plain; first | (apply L_go; refine lP ?_) | (apply L_mf; refine lMakeFunc ?_) | refine lY ?_) | (apply L_guarded; first | refine lGT ?_ | refine lGF ?_ | (apply L_go; refine lPG ?_) | refine lG ?_)))
    have hkn : ¬ k < n := by simpa using h
    have hf : ws.findIdx? (isW token core) = none := List.findIdx?_eq_none_iff.2 (fun x hx => by
      obtain ⟨i, hil, rfl⟩ := List.getElem_of_mem hx
      exact hi i _ (by omega) (List.getElem?_eq_getElem hil))
    rw [hf]
    exact ⟨_, rfl, ret_i rfl rfl, hw⟩

def rGet (ss : List Service) (name : ByteArray) : Option Service := (ss.findIdx? (isN name)).bind (ss[·]?)
def rLkErr (ss : List Service) (name : ByteArray) : Int := if (rGet ss name).isSome then 0 else 17
theorem rLookup_any (Γ : Gho) (S : List Res) (w : World) (b : Nat) (v1 v2 : Value) (ss : List Service) (ws : List Waiter) (name : ByteArray) (hw : Wd Γ (refL b v1 v2 ss ws ++ S) w) :
    Calls Try.prog 41 #[.pointer (some ⟨b, 0, none⟩), .string name] w fun e w' => e = .returned (.tuple #[svcV ((rGet ss name).getD default), .int .i64 (rLkErr ss name)]) ∧ Wd Γ (refL b v1 v2 ss ws ++ S) w' := by
  refine calls_of_WC Try.func41 rfl rfl ?_
  repeat (first | (first | refine W_seq ?_ | refine W_block ?_ | refine W_region ?_ | refine W_skip ?_ | refine W_ret ?_ | refine W_exit ?_) | (first | refine L_nil ?_ | (apply L_plain; first | (apply L_go; refine lP ?_) | (apply L_mf; refine lMakeFunc ?_) | refine lY ?_) | (apply L_guarded; first | refine lGT ?_ | refine lGF ?_ | (apply L_go; refine lPG ?_) | refine lG ?_)))
  refine lAlloc ?_
  intro br w hw
  repeat (first | (first | refine W_seq ?_ | refine W_block ?_ | refine W_region ?_ | refine W_skip ?_ | refine W_ret ?_ | refine W_exit ?_) | (first | refine L_nil ?_ | (apply L_plain; first | (apply L_go; refine lP ?_) | (apply L_mf; refine lMakeFunc ?_) | refine lY ?_) | (apply L_guarded; first | refine lGT ?_ | refine lGF ?_ | (apply L_go; refine lPG ?_) | refine lG ?_)))
  refine lCall ?_
  refine (rAt_any Γ (.blk br _ :: S) w b v1 v2 ss ws name (hw.ps [3, 3, 3])).mono ?_
  rintro e w ⟨rfl, hw⟩
  refine ⟨_, rfl, ?_⟩
  unfold refL at hw
  obtain ⟨a, n, c, rfl, hn, hnc, hc⟩ := hw.own_shape (i := 1) rfl
  simp only [List.length_map] at hn
  cases hf : ss.findIdx? (isN name) with
  | none =>
    have hg : rGet ss name = none := by simp [rGet, hf]
    repeat (first | (first | refine W_seq ?_ | refine W_block ?_ | refine W_region ?_ | refine W_skip ?_ | refine W_ret ?_ | refine W_exit ?_) | (first | refine L_nil ?_ | (apply L_plain; first | (apply L_go; refine lP ?_) | (apply L_mf; refine lMakeFunc ?_) | refine lY ?_) | (apply L_guarded; first | refine lGT ?_ | refine lGF ?_ | (apply L_go; refine lPG ?_) | refine lG ?_)))
    refine W_cond rfl (fun h => absurd h (by simp [ixZ])) (fun _ => ?_)
    repeat (first | (first | refine W_seq ?_ | refine W_block ?_ | refine W_region ?_ | refine W_skip ?_ | refine W_ret ?_ | refine W_exit ?_) | (first | refine L_nil ?_ | (apply L_plain; first | (apply L_go; refine lP ?_) | (apply L_mf; refine lMakeFunc ?_) | refine lY ?_) | (apply L_guarded; first | refine lGT ?_ | refine lGF ?_ | (apply L_go; refine lPG ?_) | refine lG ?_)) | (refine lAlloc ?_; intro _ w hw) | (refine lBox ?_; intro _ w hw) | (refine lStore ?_; intro w hw))
    refine ⟨[svcV default, .int .i64 17], ⟨resC (i := 3) hw rfl rfl rfl, rfl, trivial⟩, ?_, (hw.dropAt 3)⟩
    rw [hg, show rLkErr ss name = 17 from by simp [rLkErr, hg]]; rfl
  | some k =>
    have hk := findIdx_lt hf
    obtain ⟨x, hx⟩ := get_lt (l := ss) (k := k) (by omega)
    have hg : rGet ss name = some x := by simp [rGet, hf, hx]
    have hz : ixZ (some k) = (k : Int) := rfl
    repeat (first | (first | refine W_seq ?_ | refine W_block ?_ | refine W_region ?_ | refine W_skip ?_ | refine W_ret ?_ | refine W_exit ?_) | (first | refine L_nil ?_ | (apply L_plain; first | (apply L_go; refine lP ?_) | (apply L_mf; refine lMakeFunc ?_) | refine lY ?_) | (apply L_guarded; first | refine lGT ?_ | refine lGF ?_ | (apply L_go; refine lPG ?_) | refine lG ?_)))
    refine W_cond rfl (fun _ => ?_) (fun h => absurd h (by simp [hz]))
    repeat (first | (first | refine W_seq ?_ | refine W_block ?_ | refine W_region ?_ | refine W_skip ?_ | refine W_ret ?_ | refine W_exit ?_) | (first | refine L_nil ?_ | (apply L_plain; first | (apply L_go; refine lP ?_) | (apply L_mf; refine lMakeFunc ?_) | refine lY ?_) | (apply L_guarded; first | refine lGT ?_ | refine lGF ?_ | (apply L_go; refine lPG ?_) | refine lG ?_)) | (refine lAlloc ?_; intro _ w hw) | (refine lBox ?_; intro _ w hw) | (refine lStore ?_; intro w hw))
    refine ⟨[svcV x, .int .i64 0], ⟨resC (i := 3) hw rfl rfl rfl, rfl, trivial⟩, ?_, (hw.dropAt 3)⟩
    rw [hg, show rLkErr ss name = 0 from by simp [rLkErr, hg]]; rfl
end Go.Proofs.Ytekdbdhkpolooaa
