/- A service is registered. -/
import Derived.Test.YtekdbdhkpolooaaN3
open Go Mk
namespace Go.Proofs.Ytekdbdhkpolooaa
set_option maxHeartbeats 4000000
attribute [local irreducible] Calls

/-- The variable 'found' of Register. -/
def Rf (bf : Nat) (l : List Found) : Res := Res.ex fun fv : Value => [.blk bf (.cells #[fv] 25), .own fv 47 6 (l.map enc)]
def mkF (v : Service) (x : Waiter) : Found := ⟨x.Token, x.Core, v⟩
def foundOf (v : Service) (ws : List Waiter) : List Found := (ws.filter fun x => decide (x.Name = v.Name)).map (mkF v)

theorem Register1_any (Γ : Gho) (S : List Res) (w : World) (bf bv : Nat) (v : Service) (l : List Found) (x : Waiter) (hl : l.length ≤ 1000) (hw : Wd Γ (Rf bf l :: .blk bv (.cells (enc v).toArray 31) :: S) w) :
    Calls Try.prog 27 #[.agg (enc x).toArray, .pointer (some ⟨bv, 0, none⟩), .pointer (some ⟨bf, 0, none⟩)] w fun e w' => e = .returned (.bool (decide (x.Name = v.Name))) ∧ Wd Γ (Rf bf (l ++ if x.Name = v.Name then [mkF v x] else []) :: .blk bv (.cells (enc v).toArray 31) :: S) w' := by
  obtain ⟨fv, hw⟩ := hw.openEx
  obtain ⟨a, n, c, rfl, hn, hnc, hc⟩ := hw.own_shape (i := 1) rfl
  simp only [List.length_map] at hn
  refine calls_of_W Try.func27 rfl rfl ?_
  repeat (first | (first | refine W_seq ?_ | refine W_block ?_ | refine W_region ?_ | refine W_skip ?_ | refine W_ret ?_ | refine W_exit ?_) | (first | refine L_nil ?_ | (apply L_plain; first | (apply L_go; refine lP ?_) | (apply L_mf; refine lMakeFunc ?_) | refine lY ?_) | (apply L_guarded; first | refine lGT ?_ | refine lGF ?_ | (apply L_go; refine lPG ?_) | refine lG ?_)))
  refine lBox ?_
  intro b w hw
  repeat (first | (first | refine W_seq ?_ | refine W_block ?_ | refine W_region ?_ | refine W_skip ?_ | refine W_ret ?_ | refine W_exit ?_) | (first | refine L_nil ?_ | (apply L_plain; first | (apply L_go; refine lP ?_) | (apply L_mf; refine lMakeFunc ?_) | refine lY ?_) | (apply L_guarded; first | refine lGT ?_ | refine lGF ?_ | (apply L_go; refine lPG ?_) | refine lG ?_)))
  refine W_cond rfl (fun h => ?_) (fun h => ?_)
  · have hne : ¬ x.Name = v.Name := by simpa using h
    repeat (first | (first | refine W_seq ?_ | refine W_block ?_ | refine W_region ?_ | refine W_skip ?_ | refine W_ret ?_ | refine W_exit ?_) | (first | refine L_nil ?_ | (apply L_plain; first | (apply L_go; refine lP ?_) | (apply L_mf; refine lMakeFunc ?_) | refine lY ?_) | (apply L_guarded; first | refine lGT ?_ | refine lGF ?_ | (apply L_go; refine lPG ?_) | refine lG ?_)))
    refine ⟨_, rfl, ret_b rfl (by simp [hne]), ?_⟩
    rw [if_neg hne, List.append_nil]
    exact Wd.closeEx (X := fun fv : Value => [.blk bf (.cells #[fv] 25), .own fv 47 6 (l.map enc)]) _ hw.drop
  · have he : x.Name = v.Name := by simpa using h
    repeat (first | (first | refine W_seq ?_ | refine W_block ?_ | refine W_region ?_ | refine W_skip ?_ | refine W_ret ?_ | refine W_exit ?_) | (first | refine L_nil ?_ | (apply L_plain; first | (apply L_go; refine lP ?_) | (apply L_mf; refine lMakeFunc ?_) | refine lY ?_) | (apply L_guarded; first | refine lGT ?_ | refine lGF ?_ | (apply L_go; refine lPG ?_) | refine lG ?_)))
    refine lBuildSlice [enc (mkF v x)] ?_
    intro a2 w hw
    refine lApp (rows2 := [enc (mkF v x)]) ?_ (Wd.own_rd (i := 0) hw rfl)
    intro v' w hw
    obtain ⟨a3, n3, c3, rfl, -, -, -⟩ := hw.own_shape (i := 3) rfl
    refine lStore ?_
    intro w hw
    repeat (first | (first | refine W_seq ?_ | refine W_block ?_ | refine W_region ?_ | refine W_skip ?_ | refine W_ret ?_ | refine W_exit ?_) | (first | refine L_nil ?_ | (apply L_plain; first | (apply L_go; refine lP ?_) | (apply L_mf; refine lMakeFunc ?_) | refine lY ?_) | (apply L_guarded; first | refine lGT ?_ | refine lGF ?_ | (apply L_go; refine lPG ?_) | refine lG ?_)))
    refine ⟨_, rfl, ret_b rfl (by simp [he]), ?_⟩
    rw [if_pos he]
    refine Wd.closeEx (X := fun fv : Value => [.blk bf (.cells #[fv] 25), .own fv 47 6 ((l ++ [mkF v x]).map enc)]) (.slice a3 n3 c3) ?_
    rw [List.map_append]
    exact hw.drop.drop
end Go.Proofs.Ytekdbdhkpolooaa
