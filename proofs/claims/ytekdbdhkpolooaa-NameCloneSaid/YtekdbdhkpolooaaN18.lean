/- The reference's name server: a core waits for a name. -/
import Derived.Test.YtekdbdhkpolooaaN17
open Go Mk
namespace Go.Proofs.Ytekdbdhkpolooaa
set_option maxHeartbeats 4000000
attribute [local irreducible] Calls

def rawErr (ss : List Service) (ws : List Waiter) (x : Waiter) : Int :=
  if nameS x.Name = false then 63 else if (!coreS x.Core || decide (x.Token ≤ 0)) = true then 1 else if (ws.findIdx? (isW x.Token x.Core)).isSome then 56 else if (rGet ss x.Name).isNone ∧ 64 ≤ ws.length then 15 else 0
def rawW (ss : List Service) (ws : List Waiter) (x : Waiter) : List Waiter := if rawErr ss ws x = 0 ∧ (rGet ss x.Name).isNone then ws ++ [x] else ws
def rawF (ss : List Service) (ws : List Waiter) (x : Waiter) : Bool := decide (rawErr ss ws x = 0) && (rGet ss x.Name).isSome
def rawS (ss : List Service) (ws : List Waiter) (x : Waiter) : Service := if rawErr ss ws x = 0 then (rGet ss x.Name).getD default else default

theorem rAwait_any (Γ : Gho) (S : List Res) (w : World) (b : Nat) (v1 v2 : Value) (ss : List Service) (ws : List Waiter) (x : Waiter) [SB x.Name] (hws : ws.length ≤ 64) (hw : Wd Γ (refL b v1 v2 ss ws ++ S) w) :
    Calls Try.prog 42 #[.pointer (some ⟨b, 0, none⟩), .agg (enc x).toArray] w fun e w' => ∃ v2', e = .returned (.tuple #[svcV (rawS ss ws x), .bool (rawF ss ws x), .int .i64 (rawErr ss ws x)]) ∧ Wd Γ (refL b v1 v2' ss (rawW ss ws x) ++ S) w' := by
  unfold refL at hw
  obtain ⟨a, n, c, rfl, hn, hnc, hc⟩ := hw.own_shape (i := 1) rfl
  obtain ⟨a2, n2, c2, rfl, hn2, hnc2, hc2⟩ := hw.own_shape (i := 2) rfl
  simp only [List.length_map] at hn hn2
  refine calls_of_WC Try.func42 rfl rfl ?_
  repeat (first | (first | refine W_seq ?_ | refine W_block ?_ | refine W_region ?_ | refine W_skip ?_ | refine W_ret ?_ | refine W_exit ?_) | (first | refine L_nil ?_ | (apply L_plain; first | (apply L_go; refine lP ?_) | (apply L_mf; refine lMakeFunc ?_) | refine lY ?_) | (apply L_guarded; first | refine lGT ?_ | refine lGF ?_ | (apply L_go; refine lPG ?_) | refine lG ?_)))
  refine lBox ?_
  intro bx w hw
  refine lAlloc ?_
  intro br w hw
  have fin : ∀ {e : Int} {w} {S' : List Res}, rawErr ss ws x = e → e ≠ 0 → Wd Γ (S' ++ (refL b (.slice a n c) (.slice a2 n2 c2) ss ws ++ S)) w → Wd Γ (refL b (.slice a n c) (.slice a2 n2 c2) ss (rawW ss ws x) ++ S) w ∧ rawF ss ws x = false ∧ rawS ss ws x = default := fun h1 h2 h3 => by
    subst h1
    exact ⟨by rw [show rawW ss ws x = ws from by simp [rawW, h2]]; exact h3.right, by simp [rawF, h2], by simp [rawS, h2]⟩
  repeat (first | (first | refine W_seq ?_ | refine W_block ?_ | refine W_region ?_ | refine W_skip ?_ | refine W_ret ?_ | refine W_exit ?_) | (first | refine L_nil ?_ | (apply L_plain; first | (apply L_go; refine lP ?_) | (apply L_mf; refine lMakeFunc ?_) | refine lY ?_) | (apply L_guarded; first | refine lGT ?_ | refine lGF ?_ | (apply L_go; refine lPG ?_) | refine lG ?_)))
  refine W_cond rfl (fun h1 => ?_) (fun h1 => ?_)
  · have hE : rawErr ss ws x = 63 := by simp [rawErr, show nameS x.Name = false from by simpa using h1]
    repeat (first | (first | refine W_seq ?_ | refine W_block ?_ | refine W_region ?_ | refine W_skip ?_ | refine W_ret ?_ | refine W_exit ?_) | (first | refine L_nil ?_ | (apply L_plain; first | (apply L_go; refine lP ?_) | (apply L_mf; refine lMakeFunc ?_) | refine lY ?_) | (apply L_guarded; first | refine lGT ?_ | refine lGF ?_ | (apply L_go; refine lPG ?_) | refine lG ?_)) | (refine lAlloc ?_; intro _ w hw) | (refine lBox ?_; intro _ w hw) | (refine lStore ?_; intro w hw))
    obtain ⟨f1, f2, f3⟩ := fin (S' := [_, _]) hE (by decide) hw
    rw [f2, f3, hE]
    exact ⟨[svcV default, .bool false, .int .i64 63], ⟨resC (i := 0) hw rfl rfl rfl, rfl, rfl, trivial⟩, _, rfl, f1⟩
  have h1 : nameS x.Name = true := by simpa using h1
  repeat (first | (first | refine W_seq ?_ | refine W_block ?_ | refine W_region ?_ | refine W_skip ?_ | refine W_ret ?_ | refine W_exit ?_) | (first | refine L_nil ?_ | (apply L_plain; first | (apply L_go; refine lP ?_) | (apply L_mf; refine lMakeFunc ?_) | refine lY ?_) | (apply L_guarded; first | refine lGT ?_ | refine lGF ?_ | (apply L_go; refine lPG ?_) | refine lG ?_)))
  refine W_cond rfl (fun h2 => ?_) (fun h2 => ?_)
  · have h2 : (!coreS x.Core || decide (x.Token ≤ 0)) = true := h2
    have hE : rawErr ss ws x = 1 := by simp only [rawErr, h1, h2]; simp
    repeat (first | (first | refine W_seq ?_ | refine W_block ?_ | refine W_region ?_ | refine W_skip ?_ | refine W_ret ?_ | refine W_exit ?_) | (first | refine L_nil ?_ | (apply L_plain; first | (apply L_go; refine lP ?_) | (apply L_mf; refine lMakeFunc ?_) | refine lY ?_) | (apply L_guarded; first | refine lGT ?_ | refine lGF ?_ | (apply L_go; refine lPG ?_) | refine lG ?_)) | (refine lAlloc ?_; intro _ w hw) | (refine lBox ?_; intro _ w hw) | (refine lStore ?_; intro w hw))
    obtain ⟨f1, f2, f3⟩ := fin (S' := [_, _]) hE (by decide) hw
    rw [f2, f3, hE]
    exact ⟨[svcV default, .bool false, .int .i64 1], ⟨resC (i := 0) hw rfl rfl rfl, rfl, rfl, trivial⟩, _, rfl, f1⟩
  have h2 : (!coreS x.Core || decide (x.Token ≤ 0)) = false := h2
  repeat (first | (first | refine W_seq ?_ | refine W_block ?_ | refine W_region ?_ | refine W_skip ?_ | refine W_ret ?_ | refine W_exit ?_) | (first | refine L_nil ?_ | (apply L_plain; first | (apply L_go; refine lP ?_) | (apply L_mf; refine lMakeFunc ?_) | refine lY ?_) | (apply L_guarded; first | refine lGT ?_ | refine lGF ?_ | (apply L_go; refine lPG ?_) | refine lG ?_)))
  refine lCall ?_
  refine (rWaiter_any Γ ([Res.blk br _, Res.blk bx _] ++ S) w b _ _ ss ws x.Token x.Core (Wd.swapApp (A := [_, _]) hw)).mono ?_
  rintro e w ⟨rfl, hw⟩
  have hw := Wd.swapApp (B := [_, _]) hw
  refine ⟨_, rfl, ?_⟩
  repeat (first | (first | refine W_seq ?_ | refine W_block ?_ | refine W_region ?_ | refine W_skip ?_ | refine W_ret ?_ | refine W_exit ?_) | (first | refine L_nil ?_ | (apply L_plain; first | (apply L_go; refine lP ?_) | (apply L_mf; refine lMakeFunc ?_) | refine lY ?_) | (apply L_guarded; first | refine lGT ?_ | refine lGF ?_ | (apply L_go; refine lPG ?_) | refine lG ?_)))
  refine W_cond rfl (fun h3 => ?_) (fun h3 => ?_)
  · rw [ixZ_ge] at h3
    have hE : rawErr ss ws x = 56 := by simp only [rawErr, h1, h2, h3]; simp
    repeat (first | (first | refine W_seq ?_ | refine W_block ?_ | refine W_region ?_ | refine W_skip ?_ | refine W_ret ?_ | refine W_exit ?_) | (first | refine L_nil ?_ | (apply L_plain; first | (apply L_go; refine lP ?_) | (apply L_mf; refine lMakeFunc ?_) | refine lY ?_) | (apply L_guarded; first | refine lGT ?_ | refine lGF ?_ | (apply L_go; refine lPG ?_) | refine lG ?_)) | (refine lAlloc ?_; intro _ w hw) | (refine lBox ?_; intro _ w hw) | (refine lStore ?_; intro w hw))
    obtain ⟨f1, f2, f3⟩ := fin (S' := [_, _]) hE (by decide) hw
    rw [f2, f3, hE]
    exact ⟨[svcV default, .bool false, .int .i64 56], ⟨resC (i := 0) hw rfl rfl rfl, rfl, rfl, trivial⟩, _, rfl, f1⟩
  rw [ixZ_ge] at h3
  repeat (first | (first | refine W_seq ?_ | refine W_block ?_ | refine W_region ?_ | refine W_skip ?_ | refine W_ret ?_ | refine W_exit ?_) | (first | refine L_nil ?_ | (apply L_plain; first | (apply L_go; refine lP ?_) | (apply L_mf; refine lMakeFunc ?_) | refine lY ?_) | (apply L_guarded; first | refine lGT ?_ | refine lGF ?_ | (apply L_go; refine lPG ?_) | refine lG ?_)))
  refine lCall ?_
  refine (rAt_any Γ ([Res.blk br _, Res.blk bx _] ++ S) w b _ _ ss ws x.Name (Wd.swapApp (A := [_, _]) hw)).mono ?_
  rintro e w ⟨rfl, hw⟩
  have hw := Wd.swapApp (B := [_, _]) hw
  refine ⟨_, rfl, ?_⟩
  unfold refL at hw
  cases hf : ss.findIdx? (isN x.Name) with
  | some k =>
    have hk := findIdx_lt hf
    obtain ⟨y, hy⟩ := get_lt (l := ss) (k := k) (by omega)
    have hg : rGet ss x.Name = some y := by simp [rGet, hf, hy]
    have hE : rawErr ss ws x = 0 := by simp only [rawErr, h1, h2, h3, hg]; simp
    have hz : ixZ (some k) = (k : Int) := rfl
    clear fin
    repeat (first | (first | refine W_seq ?_ | refine W_block ?_ | refine W_region ?_ | refine W_skip ?_ | refine W_ret ?_ | refine W_exit ?_) | (first | refine L_nil ?_ | (apply L_plain; first | (apply L_go; refine lP ?_) | (apply L_mf; refine lMakeFunc ?_) | refine lY ?_) | (apply L_guarded; first | refine lGT ?_ | refine lGF ?_ | (apply L_go; refine lPG ?_) | refine lG ?_)))
    refine W_cond rfl (fun _ => ?_) (fun h => absurd h (by simp [hz]))
    repeat (first | (first | refine W_seq ?_ | refine W_block ?_ | refine W_region ?_ | refine W_skip ?_ | refine W_ret ?_ | refine W_exit ?_) | (first | refine L_nil ?_ | (apply L_plain; first | (apply L_go; refine lP ?_) | (apply L_mf; refine lMakeFunc ?_) | refine lY ?_) | (apply L_guarded; first | refine lGT ?_ | refine lGF ?_ | (apply L_go; refine lPG ?_) | refine lG ?_)) | (refine lAlloc ?_; intro _ w hw) | (refine lBox ?_; intro _ w hw) | (refine lStore ?_; intro w hw))
    refine ⟨[svcV y, .bool true, .int .i64 0], ⟨resC (i := 0) hw rfl rfl rfl, rfl, rfl, trivial⟩, .slice a2 n2 c2, ?_, ?_⟩
    · rw [show rawS ss ws x = y from by simp [rawS, hE, hg], show rawF ss ws x = true from by simp [rawF, hE, hg], hE]; rfl
    · rw [show rawW ss ws x = ws from by simp [rawW, hg]]
      exact hw.drop.drop
  | none =>
    have hg : rGet ss x.Name = none := by simp [rGet, hf]
    repeat (first | (first | refine W_seq ?_ | refine W_block ?_ | refine W_region ?_ | refine W_skip ?_ | refine W_ret ?_ | refine W_exit ?_) | (first | refine L_nil ?_ | (apply L_plain; first | (apply L_go; refine lP ?_) | (apply L_mf; refine lMakeFunc ?_) | refine lY ?_) | (apply L_guarded; first | refine lGT ?_ | refine lGF ?_ | (apply L_go; refine lPG ?_) | refine lG ?_)))
    refine W_cond rfl (fun h => absurd h (by simp [ixZ])) (fun _ => ?_)
    repeat (first | (first | refine W_seq ?_ | refine W_block ?_ | refine W_region ?_ | refine W_skip ?_ | refine W_ret ?_ | refine W_exit ?_) | (first | refine L_nil ?_ | (apply L_plain; first | (apply L_go; refine lP ?_) | (apply L_mf; refine lMakeFunc ?_) | refine lY ?_) | (apply L_guarded; first | refine lGT ?_ | refine lGF ?_ | (apply L_go; refine lPG ?_) | refine lG ?_)))
    refine W_cond rfl (fun h4 => ?_) (fun h4 => ?_)
    · have h4 : 64 ≤ ws.length := by have := of_decide_eq_true h4; omega
      have hE : rawErr ss ws x = 15 := by simp only [rawErr, h1, h2, h3, hg]; simp [h4]
      repeat (first | (first | refine W_seq ?_ | refine W_block ?_ | refine W_region ?_ | refine W_skip ?_ | refine W_ret ?_ | refine W_exit ?_) | (first | refine L_nil ?_ | (apply L_plain; first | (apply L_go; refine lP ?_) | (apply L_mf; refine lMakeFunc ?_) | refine lY ?_) | (apply L_guarded; first | refine lGT ?_ | refine lGF ?_ | (apply L_go; refine lPG ?_) | refine lG ?_)) | (refine lAlloc ?_; intro _ w hw) | (refine lBox ?_; intro _ w hw) | (refine lStore ?_; intro w hw))
      obtain ⟨f1, f2, f3⟩ := fin (S' := [_, _]) hE (by decide) hw
      rw [f2, f3, hE]
      exact ⟨[svcV default, .bool false, .int .i64 15], ⟨resC (i := 0) hw rfl rfl rfl, rfl, rfl, trivial⟩, _, rfl, f1⟩
    have h4 : ¬ 64 ≤ ws.length := by have := of_decide_eq_false h4; omega
    have hE : rawErr ss ws x = 0 := by simp only [rawErr, h1, h2, h3, hg]; simp; omega
    clear fin
    repeat (first | (first | refine W_seq ?_ | refine W_block ?_ | refine W_region ?_ | refine W_skip ?_ | refine W_ret ?_ | refine W_exit ?_) | (first | refine L_nil ?_ | (apply L_plain; first | (apply L_go; refine lP ?_) | (apply L_mf; refine lMakeFunc ?_) | refine lY ?_) | (apply L_guarded; first | refine lGT ?_ | refine lGF ?_ | (apply L_go; refine lPG ?_) | refine lG ?_)))
    refine W_mix2 [_, _, _] _ [[],[],[],[],[],[],[1],[0],[],[],[0]] [[],[],[],[],[0],[],[1],[0,1],[],[],[0]] [[61], [60]] (hw.ps [3, 2, 2]) ?_
    repeat (first | refine mY ?_ | refine mP ?_ | refine mEndAt ?_ | refine mEnd0 ?_ | refine mEnd ?_)
    refine mBuild [enc x] ?_
    refine mApp ?_
    repeat (first | refine mY ?_ | refine mP ?_ | refine mEndAt ?_ | refine mEnd0 ?_ | refine mEnd ?_)
    refine mStoreV ?_
    refine mEnd fun w g hw => ?_
    have hw : Wd Γ (Res.blk br _ :: Res.blk bx _ :: .blk b (.cells #[.slice a n c, g 61] 57) :: .own (.slice a n c) 31 4 (ss.map enc) :: .own (g 61) 35 3 (ws.map enc ++ [enc x]) :: S) w := (Wd.dropEnd hw).ps [2, 3, 3, 3]
    rw [show ws.map enc ++ [enc x] = (ws ++ [x]).map enc from by simp] at hw
    generalize g 61 = vs' at hw
    repeat (first | (first | refine W_seq ?_ | refine W_block ?_ | refine W_region ?_ | refine W_skip ?_ | refine W_ret ?_ | refine W_exit ?_) | (first | refine L_nil ?_ | (apply L_plain; first | (apply L_go; refine lP ?_) | (apply L_mf; refine lMakeFunc ?_) | refine lY ?_) | (apply L_guarded; first | refine lGT ?_ | refine lGF ?_ | (apply L_go; refine lPG ?_) | refine lG ?_)) | (refine lAlloc ?_; intro _ w hw) | (refine lBox ?_; intro _ w hw) | (refine lStore ?_; intro w hw))
    refine ⟨[svcV default, .bool false, .int .i64 0], ⟨resC (i := 0) hw rfl rfl rfl, rfl, rfl, trivial⟩, vs', ?_, ?_⟩
    · rw [show rawS ss ws x = default from by simp [rawS, hg], show rawF ss ws x = false from by simp [rawF, hg], hE]; rfl
    · rw [show rawW ss ws x = ws ++ [x] from by simp [rawW, hE, hg]]
      exact hw.drop.drop
end Go.Proofs.Ytekdbdhkpolooaa
