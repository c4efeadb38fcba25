/- NameFull: a server takes 64 services and 64 waiters and no more, and a departure makes room. -/
import Derived.Test.YtekdbdhkpolooaaN12
open Go Mk
namespace Go.Proofs.Ytekdbdhkpolooaa
set_option maxHeartbeats 2000000
attribute [local irreducible] Calls
attribute [local irreducible] regErr regM regW regF awErr awW awF awS rm wm longS foundOf delAll

instance : SB other := ⟨by decide⟩
instance : SB third := ⟨by decide⟩
theorem NameFull_any (Γ : Gho) (S : List Res) (w : World) (core : Int) (hw : Wd Γ S w) : Calls Try.prog 3 #[.int .i64 core] w fun e w' => e = .returned (.bool true) ∧ ∃ S', Wd Γ S' w' := by
  refine calls_of_W Try.func3 rfl rfl ?_
  repeat (first | (first | refine W_seq ?_ | refine W_block ?_ | refine W_region ?_ | refine W_skip ?_ | refine W_ret ?_ | refine W_exit ?_) | (first | refine L_nil ?_ | (apply L_plain; first | (apply L_go; refine lP ?_) | (apply L_mf; refine lMakeFunc ?_) | refine lY ?_) | (apply L_guarded; first | refine lGT ?_ | refine lGF ?_ | (apply L_go; refine lPG ?_) | refine lG ?_)))
  refine lCall ?_
  refine (New_any Γ S w hw).mono ?_
  rintro e w ⟨b, bm, rfl, hw⟩
  refine ⟨_, rfl, ?_⟩
  repeat (first | (first | refine W_seq ?_ | refine W_block ?_ | refine W_region ?_ | refine W_skip ?_ | refine W_ret ?_ | refine W_exit ?_) | ((first | apply L_bin | apply L_notop); first | (refine lT ?_ ?_; (first | exact rfl | exact decide_eq_true rfl | (simp; done))) | (refine lF ?_ ?_; (first | exact rfl | exact decide_eq_true rfl | (simp; done)))) | (first | refine L_nil ?_ | (apply L_plain; first | (apply L_go; refine lP ?_) | (apply L_mf; refine lMakeFunc ?_) | refine lY ?_) | (apply L_guarded; first | refine lGT ?_ | refine lGF ?_ | (apply L_go; refine lPG ?_) | refine lG ?_)) | (refine lAlloc ?_; intro _ w hw) | (refine lBox ?_; intro _ w hw) | (refine lStore ?_; intro w hw))
  refine W_cond_false rfl ?_
  repeat (first | (first | refine W_seq ?_ | refine W_block ?_ | refine W_region ?_ | refine W_skip ?_ | refine W_ret ?_ | refine W_exit ?_) | (first | refine L_nil ?_ | (apply L_plain; first | (apply L_go; refine lP ?_) | (apply L_mf; refine lMakeFunc ?_) | refine lY ?_) | (apply L_guarded; first | refine lGT ?_ | refine lGF ?_ | (apply L_go; refine lPG ?_) | refine lG ?_)))
  obtain ⟨c, hc, hcc⟩ : ∃ c : Nat, c < 32 ∧ core % 32 = (c : Int) := ⟨(core % 32).toNat, by omega, by omega⟩
  rw [hcc]
  refine W_loop (fun μ ρ w => ∃ (k : Nat) (vs : Value) (S' : List Res), μ + k = 64 ∧ Has ρ [(3, .pointer (some ⟨b, 0, none⟩)), (4, .int .i64 c), (5, .int .i64 k)] ∧ Wd Γ (srvL b bm vs (rm k) [] ++ S') w) 64 ⟨0, _, S, by omega, ⟨rfl, rfl, rfl, trivial⟩, by unfold rm; exact hw⟩ ?_
  rintro μ ρ w ⟨k, vs, S1, hk, hρ, hw⟩
  rw [hρ.eq]
  repeat (first | (first | refine W_seq ?_ | refine W_block ?_ | refine W_region ?_ | refine W_skip ?_ | refine W_ret ?_ | refine W_exit ?_) | (first | refine L_nil ?_ | (apply L_plain; first | (apply L_go; refine lP ?_) | (apply L_mf; refine lMakeFunc ?_) | refine lY ?_) | (apply L_guarded; first | refine lGT ?_ | refine lGF ?_ | (apply L_go; refine lPG ?_) | refine lG ?_)))
  refine W_cond rfl (fun h => ?_) (fun h => ?_)
  · have hk64 : k < 64 := by have := of_decide_eq_true h; omega
    have hmod : (k : Int).tmod 32 = ((k % 32 : Nat) : Int) := by rw [Int.tmod_eq_emod_of_nonneg (Int.natCast_nonneg k)]; omega
    haveI : SB (lsvc k).Name := ⟨by show (longS k).size ≤ _; rw [lsize hk64]; decide⟩
    repeat (first | (first | refine W_seq ?_ | refine W_block ?_ | refine W_region ?_ | refine W_skip ?_ | refine W_ret ?_ | refine W_exit ?_) | (first | refine L_nil ?_ | (apply L_plain; first | (apply L_go; refine lP ?_) | (apply L_mf; refine lMakeFunc ?_) | refine lY ?_) | (apply L_guarded; first | refine lGT ?_ | refine lGF ?_ | (apply L_go; refine lPG ?_) | refine lG ?_)))
    refine lCall ?_
    refine (long_any Γ _ w k (by omega) hw).mono ?_
    rintro e w ⟨rfl, hw⟩
    refine ⟨_, rfl, ?_⟩
    repeat (first | (first | refine W_seq ?_ | refine W_block ?_ | refine W_region ?_ | refine W_skip ?_ | refine W_ret ?_ | refine W_exit ?_) | (first | refine L_nil ?_ | (apply L_plain; first | (apply L_go; refine lP ?_) | (apply L_mf; refine lMakeFunc ?_) | refine lY ?_) | (apply L_guarded; first | refine lGT ?_ | refine lGF ?_ | (apply L_go; refine lPG ?_) | refine lG ?_)))
    refine lCall ?_
    rw [hmod]
    refine (Register_any Γ S1 w b bm vs (rm k) [] (lsvc k) (by decide) hw).mono ?_
    rintro e w ⟨fv, vs', rfl, hw⟩
    rw [reg0 hk64]
    rw [reg1 hk64, reg2, reg3] at hw
    refine ⟨_, rfl, ?_⟩
    repeat (first | (first | refine W_seq ?_ | refine W_block ?_ | refine W_region ?_ | refine W_skip ?_ | refine W_ret ?_ | refine W_exit ?_) | ((first | apply L_bin | apply L_notop); first | (refine lT ?_ ?_; (first | exact rfl | exact decide_eq_true rfl | (simp; done))) | (refine lF ?_ ?_; (first | exact rfl | exact decide_eq_true rfl | (simp; done)))) | (first | refine L_nil ?_ | (apply L_plain; first | (apply L_go; refine lP ?_) | (apply L_mf; refine lMakeFunc ?_) | refine lY ?_) | (apply L_guarded; first | refine lGT ?_ | refine lGF ?_ | (apply L_go; refine lPG ?_) | refine lG ?_)) | (refine lAlloc ?_; intro _ w hw) | (refine lBox ?_; intro _ w hw) | (refine lStore ?_; intro w hw))
    refine W_cond_false rfl ?_
    repeat (first | (first | refine W_seq ?_ | refine W_block ?_ | refine W_region ?_ | refine W_skip ?_ | refine W_ret ?_ | refine W_exit ?_) | (first | refine L_nil ?_ | (apply L_plain; first | (apply L_go; refine lP ?_) | (apply L_mf; refine lMakeFunc ?_) | refine lY ?_) | (apply L_guarded; first | refine lGT ?_ | refine lGF ?_ | (apply L_go; refine lPG ?_) | refine lG ?_)))
    exact ⟨μ - 1, by omega, k + 1, vs', _, by omega, ⟨rfl, rfl, rfl, trivial⟩, hw.ps [3, 3, 3]⟩
  have hk64 : k = 64 := by have := of_decide_eq_false h; omega
  subst hk64
  repeat (first | (first | refine W_seq ?_ | refine W_block ?_ | refine W_region ?_ | refine W_skip ?_ | refine W_ret ?_ | refine W_exit ?_) | (first | refine L_nil ?_ | (apply L_plain; first | (apply L_go; refine lP ?_) | (apply L_mf; refine lMakeFunc ?_) | refine lY ?_) | (apply L_guarded; first | refine lGT ?_ | refine lGF ?_ | (apply L_go; refine lPG ?_) | refine lG ?_)))
  refine W_loop (fun μ ρ w => ∃ (k : Nat) (vs : Value) (S' : List Res), μ + k = 64 ∧ Has ρ [(3, .pointer (some ⟨b, 0, none⟩)), (4, .int .i64 c), (8, .int .i64 k)] ∧ Wd Γ (srvL b bm vs (rm 64) (wm k) ++ S') w) 64 ⟨0, _, S1, by omega, ⟨rfl, rfl, rfl, trivial⟩, by unfold wm; exact hw⟩ ?_
  clear hρ hw hk h ρ
  rintro μ ρ w ⟨k, vs, S1, hk, hρ, hw⟩
  rw [hρ.eq]
  repeat (first | (first | refine W_seq ?_ | refine W_block ?_ | refine W_region ?_ | refine W_skip ?_ | refine W_ret ?_ | refine W_exit ?_) | (first | refine L_nil ?_ | (apply L_plain; first | (apply L_go; refine lP ?_) | (apply L_mf; refine lMakeFunc ?_) | refine lY ?_) | (apply L_guarded; first | refine lGT ?_ | refine lGF ?_ | (apply L_go; refine lPG ?_) | refine lG ?_)))
  refine W_cond rfl (fun h => ?_) (fun h => ?_)
  · have hk64 : k < 64 := by have := of_decide_eq_true h; omega
    have hmod : (k : Int).tmod 32 = ((k % 32 : Nat) : Int) := by rw [Int.tmod_eq_emod_of_nonneg (Int.natCast_nonneg k)]; omega
    haveI : SB (wtr k).Name := ⟨(by decide : other.size ≤ 4611686018427387904)⟩
    repeat (first | (first | refine W_seq ?_ | refine W_block ?_ | refine W_region ?_ | refine W_skip ?_ | refine W_ret ?_ | refine W_exit ?_) | (first | refine L_nil ?_ | (apply L_plain; first | (apply L_go; refine lP ?_) | (apply L_mf; refine lMakeFunc ?_) | refine lY ?_) | (apply L_guarded; first | refine lGT ?_ | refine lGF ?_ | (apply L_go; refine lPG ?_) | refine lG ?_)))
    refine lCall ?_
    rw [hmod]
    refine (Await_any Γ S1 w b bm vs (rm 64) (wm k) (wtr k) (by rw [wm_len]; omega) hw).mono ?_
    rintro e w ⟨vs', rfl, hw⟩
    rw [aw0 hk64, aw2]
    rw [aw1 hk64] at hw
    refine ⟨_, rfl, ?_⟩
    repeat (first | (first | refine W_seq ?_ | refine W_block ?_ | refine W_region ?_ | refine W_skip ?_ | refine W_ret ?_ | refine W_exit ?_) | ((first | apply L_bin | apply L_notop); first | (refine lT ?_ ?_; (first | exact rfl | exact decide_eq_true rfl | (simp; done))) | (refine lF ?_ ?_; (first | exact rfl | exact decide_eq_true rfl | (simp; done)))) | (first | refine L_nil ?_ | (apply L_plain; first | (apply L_go; refine lP ?_) | (apply L_mf; refine lMakeFunc ?_) | refine lY ?_) | (apply L_guarded; first | refine lGT ?_ | refine lGF ?_ | (apply L_go; refine lPG ?_) | refine lG ?_)) | (refine lAlloc ?_; intro _ w hw) | (refine lBox ?_; intro _ w hw) | (refine lStore ?_; intro w hw))
    refine W_cond_false rfl ?_
    repeat (first | (first | refine W_seq ?_ | refine W_block ?_ | refine W_region ?_ | refine W_skip ?_ | refine W_ret ?_ | refine W_exit ?_) | (first | refine L_nil ?_ | (apply L_plain; first | (apply L_go; refine lP ?_) | (apply L_mf; refine lMakeFunc ?_) | refine lY ?_) | (apply L_guarded; first | refine lGT ?_ | refine lGF ?_ | (apply L_go; refine lPG ?_) | refine lG ?_)))
    exact ⟨μ - 1, by omega, k + 1, vs', _, by omega, ⟨rfl, rfl, rfl, trivial⟩, hw.ps [3, 3, 3]⟩
  have hk64 : k = 64 := by have := of_decide_eq_false h; omega
  subst hk64
  repeat (first | (first | refine W_seq ?_ | refine W_block ?_ | refine W_region ?_ | refine W_skip ?_ | refine W_ret ?_ | refine W_exit ?_) | (first | refine L_nil ?_ | (apply L_plain; first | (apply L_go; refine lP ?_) | (apply L_mf; refine lMakeFunc ?_) | refine lY ?_) | (apply L_guarded; first | refine lGT ?_ | refine lGF ?_ | (apply L_go; refine lPG ?_) | refine lG ?_)))
  refine lCall ?_
  haveI : SB (⟨other, 0, 0, 0⟩ : Service).Name := ⟨by decide⟩
  refine (Register_any Γ S1 w b bm vs (rm 64) (wm 64) ⟨other, 0, 0, 0⟩ (by rw [wm_len]; omega) hw).mono ?_
  rintro e w ⟨fv, vs', rfl, hw⟩
  rw [reg15]
  have r1 : regM (rm 64) ⟨other, 0, 0, 0⟩ = rm 64 := by unfold regM; rw [reg15]; rfl
  have r2 : regW (rm 64) (wm 64) ⟨other, 0, 0, 0⟩ = wm 64 := by unfold regW; rw [reg15]; rfl
  rw [r1, r2] at hw
  refine ⟨_, rfl, ?_⟩
  repeat (first | (first | refine W_seq ?_ | refine W_block ?_ | refine W_region ?_ | refine W_skip ?_ | refine W_ret ?_ | refine W_exit ?_) | (first | refine L_nil ?_ | (apply L_plain; first | (apply L_go; refine lP ?_) | (apply L_mf; refine lMakeFunc ?_) | refine lY ?_) | (apply L_guarded; first | refine lGT ?_ | refine lGF ?_ | (apply L_go; refine lPG ?_) | refine lG ?_)))
  refine lCall ?_
  haveI : SB (⟨1000, c, third⟩ : Waiter).Name := ⟨(by decide : third.size ≤ 4611686018427387904)⟩
  refine (Await_any Γ _ w b bm vs' (rm 64) (wm 64) ⟨1000, c, third⟩ (by rw [wm_len]; omega) (hw.ps [3, 3, 3])).mono ?_
  rintro e w ⟨vs', rfl, hw⟩
  have a1 : awW (rm 64) (wm 64) ⟨1000, c, third⟩ = wm 64 := by unfold awW; rw [aw15 hc]; rfl
  rw [aw15 hc]
  rw [a1] at hw
  refine ⟨_, rfl, ?_⟩
  repeat (first | (first | refine W_seq ?_ | refine W_block ?_ | refine W_region ?_ | refine W_skip ?_ | refine W_ret ?_ | refine W_exit ?_) | (first | refine L_nil ?_ | (apply L_plain; first | (apply L_go; refine lP ?_) | (apply L_mf; refine lMakeFunc ?_) | refine lY ?_) | (apply L_guarded; first | refine lGT ?_ | refine lGF ?_ | (apply L_go; refine lPG ?_) | refine lG ?_)) | (refine lAlloc ?_; intro _ w hw) | (refine lBox ?_; intro _ w hw) | (refine lStore ?_; intro w hw))
  refine lCall ?_
  refine (long_any Γ _ w c (by omega) hw).mono ?_
  rintro e w ⟨rfl, hw⟩
  refine ⟨_, rfl, ?_⟩
  repeat (first | (first | refine W_seq ?_ | refine W_block ?_ | refine W_region ?_ | refine W_skip ?_ | refine W_ret ?_ | refine W_exit ?_) | (first | refine L_nil ?_ | (apply L_plain; first | (apply L_go; refine lP ?_) | (apply L_mf; refine lMakeFunc ?_) | refine lY ?_) | (apply L_guarded; first | refine lGT ?_ | refine lGF ?_ | (apply L_go; refine lPG ?_) | refine lG ?_)))
  refine lCall ?_
  haveI : SB (⟨1000, c, longS c⟩ : Waiter).Name := ⟨by show (longS c).size ≤ _; rw [lsize (by omega)]; decide⟩
  refine (Await_any Γ _ w b bm vs' (rm 64) (wm 64) ⟨1000, c, longS c⟩ (by rw [wm_len]; omega) (hw.ps [3, 3, 3])).mono ?_
  rintro e w ⟨vs', rfl, hw⟩
  have a2 : awW (rm 64) (wm 64) ⟨1000, c, longS c⟩ = wm 64 := by unfold awW; rw [awc hc, getc hc]; rfl
  have a3 : awF (rm 64) (wm 64) ⟨1000, c, longS c⟩ = true := by unfold awF; rw [awc hc, getc hc]; rfl
  have a4 : awS (rm 64) (wm 64) ⟨1000, c, longS c⟩ = lsvc c := by unfold awS; rw [awc hc, getc hc]; rfl
  have a5 : lsvc c = ⟨longS c, c, 0, 0⟩ := by unfold lsvc; rw [Nat.mod_eq_of_lt hc]
  rw [awc hc, a3, a4, a5]
  rw [a2] at hw
  refine ⟨_, rfl, ?_⟩
  repeat (first | (first | refine W_seq ?_ | refine W_block ?_ | refine W_region ?_ | refine W_skip ?_ | refine W_ret ?_ | refine W_exit ?_) | (first | refine L_nil ?_ | (apply L_plain; first | (apply L_go; refine lP ?_) | (apply L_mf; refine lMakeFunc ?_) | refine lY ?_) | (apply L_guarded; first | refine lGT ?_ | refine lGF ?_ | (apply L_go; refine lPG ?_) | refine lG ?_)))
  refine lAlloc ?_
  intro b17 w hw
  refine lStore ?_
  intro w hw
  repeat (first | (first | refine W_seq ?_ | refine W_block ?_ | refine W_region ?_ | refine W_skip ?_ | refine W_ret ?_ | refine W_exit ?_) | (first | refine L_nil ?_ | (apply L_plain; first | (apply L_go; refine lP ?_) | (apply L_mf; refine lMakeFunc ?_) | refine lY ?_) | (apply L_guarded; first | refine lGT ?_ | refine lGF ?_ | (apply L_go; refine lPG ?_) | refine lG ?_)))
  refine lCall ?_
  refine (Depart_any Γ _ w b bm vs' (rm 64) (wm 64) c (by rw [rm_len]; omega) (hw.ps [3, 3, 3])).mono ?_
  rintro e w ⟨gv, ys, vs', rfl, hys, hw⟩
  obtain ⟨ag, ng, cg, rfl, hng, -, -⟩ := hw.own_shape (i := 0) rfl
  have hng2 : ng = 2 := by
    rw [hng, List.length_map, ((hys.perm.filter (sCore c)).length_eq), gone2 hc]
  subst hng2
  refine ⟨_, rfl, ?_⟩
  repeat (first | (first | refine W_seq ?_ | refine W_block ?_ | refine W_region ?_ | refine W_skip ?_ | refine W_ret ?_ | refine W_exit ?_) | (first | refine L_nil ?_ | (apply L_plain; first | (apply L_go; refine lP ?_) | (apply L_mf; refine lMakeFunc ?_) | refine lY ?_) | (apply L_guarded; first | refine lGT ?_ | refine lGF ?_ | (apply L_go; refine lPG ?_) | refine lG ?_)))
  refine lCall ?_
  haveI : SB (⟨other, c, 0, 0⟩ : Service).Name := ⟨(by decide : other.size ≤ 4611686018427387904)⟩
  have hreg : regErr (delAll (rm 64) (ys.filter (sCore c))) ⟨other, c, 0, 0⟩ = 0 := by
    have h1 : aGet (delAll (rm 64) (ys.filter (sCore c))) other = none := delAll_none other_none
    have h2 : (delAll (rm 64) (ys.filter (sCore c))).length < 64 := by
      cases hq : ys.filter (sCore c) with
      | nil => rw [hq] at hng; simp at hng
      | cons x l =>
        have hx : x ∈ ys := (List.mem_filter.1 (by rw [hq]; exact List.mem_cons_self : x ∈ ys.filter (sCore c))).1
        have hx := hys.perm.subset hx
        obtain ⟨p, hp, rfl⟩ := List.mem_map.1 hx
        have hp2 := hp
        unfold rm at hp
        obtain ⟨i, _, rfl⟩ := List.mem_map.1 hp
        have := delAll_lt (x := lsvc i) (l := l) (m := rm 64) (List.mem_map.2 ⟨_, hp2, rfl⟩)
        rwa [rm_len] at this
    have h3 : nameS other = true := by kernel_rfl
    have h4 : coreS (c : Int) = true := by simp [coreS]; omega
    unfold regErr badNums
    simp only [h1, h3, h4]
    simp
    omega
  refine (Register_any Γ _ w b bm vs' (delAll (rm 64) (ys.filter (sCore c))) ((wm 64).filter fun x => !ofCore c x) ⟨other, c, 0, 0⟩ (by rw [left62 hc]; omega) (hw.ps [3, 3, 3])).mono ?_
  rintro e w ⟨fv, vs', rfl, hw⟩
  have hF : regF (delAll (rm 64) (ys.filter (sCore c))) ((wm 64).filter fun x => !ofCore c x) ⟨other, c, 0, 0⟩ = foundOf ⟨other, c, 0, 0⟩ ((wm 64).filter fun x => !ofCore c x) := by unfold regF; rw [hreg]; rfl
  rw [hreg]
  rw [hF] at hw
  obtain ⟨af, nf, cf, rfl, hnf, -, -⟩ := hw.own_shape (i := 0) rfl
  have hnf2 : nf = 62 := by rw [hnf, List.length_map, found62 hc _ rfl]
  subst hnf2
  refine ⟨_, rfl, ?_⟩
  repeat (first | (first | refine W_seq ?_ | refine W_block ?_ | refine W_region ?_ | refine W_skip ?_ | refine W_ret ?_ | refine W_exit ?_) | ((first | apply L_bin | apply L_notop); first | (refine lT ?_ ?_; (first | exact rfl | exact decide_eq_true rfl | (simp; done))) | (refine lF ?_ ?_; (first | exact rfl | exact decide_eq_true rfl | (simp; done)))) | (first | refine L_nil ?_ | (apply L_plain; first | (apply L_go; refine lP ?_) | (apply L_mf; refine lMakeFunc ?_) | refine lY ?_) | (apply L_guarded; first | refine lGT ?_ | refine lGF ?_ | (apply L_go; refine lPG ?_) | refine lG ?_)) | (refine lAlloc ?_; intro _ w hw) | (refine lBox ?_; intro _ w hw) | (refine lStore ?_; intro w hw))

  refine lCall ?_
  refine (awake_any Γ _ w hw).mono ?_
  rintro e w ⟨rfl, S', hw⟩
  refine ⟨_, rfl, ?_⟩
  repeat (first | (first | refine W_seq ?_ | refine W_block ?_ | refine W_region ?_ | refine W_skip ?_ | refine W_ret ?_ | refine W_exit ?_) | ((first | apply L_bin | apply L_notop); first | (refine lT ?_ ?_; (first | exact rfl | exact decide_eq_true rfl | (simp; done))) | (refine lF ?_ ?_; (first | exact rfl | exact decide_eq_true rfl | (simp; done)))) | (first | refine L_nil ?_ | (apply L_plain; first | (apply L_go; refine lP ?_) | (apply L_mf; refine lMakeFunc ?_) | refine lY ?_) | (apply L_guarded; first | refine lGT ?_ | refine lGF ?_ | (apply L_go; refine lPG ?_) | refine lG ?_)) | (refine lAlloc ?_; intro _ w hw) | (refine lBox ?_; intro _ w hw) | (refine lStore ?_; intro w hw))
  exact ⟨_, rfl, rfl, _, hw⟩
end Go.Proofs.Ytekdbdhkpolooaa
