/- The example of the chapter. -/
import Derived.Test.YtekdbdhkpolooaaN10
open Go Mk
namespace Go.Proofs.Ytekdbdhkpolooaa
set_option maxHeartbeats 400000
attribute [local irreducible] Calls

def disk : ByteArray := ⟨#[100, 105, 115, 107]⟩
instance : SB disk := ⟨by decide⟩
theorem awake_any (Γ : Gho) (S : List Res) (w : World) (hw : Wd Γ S w) : Calls Try.prog 13 #[] w fun e w' => e = .returned (.bool true) ∧ ∃ S', Wd Γ (S' ++ S) w' := by
  refine calls_of_W Try.func13 rfl rfl ?_
  repeat (first | (first | refine W_seq ?_ | refine W_block ?_ | refine W_region ?_ | refine W_skip ?_ | refine W_ret ?_ | refine W_exit ?_) | (first | refine L_nil ?_ | (apply L_plain; first | (apply L_go; refine lP ?_) | (apply L_mf; refine lMakeFunc ?_) | refine lY ?_) | (apply L_guarded; first | refine lGT ?_ | refine lGF ?_ | (apply L_go; refine lPG ?_) | refine lG ?_)))
  refine lCall ?_
  refine (New_any Γ S w hw).mono ?_
  rintro e w ⟨b, bm, rfl, hw⟩
  refine ⟨_, rfl, ?_⟩
  repeat (first | (first | refine W_seq ?_ | refine W_block ?_ | refine W_region ?_ | refine W_skip ?_ | refine W_ret ?_ | refine W_exit ?_) | ((first | apply L_bin | apply L_notop); first | (refine lT ?_ ?_; (first | exact rfl | exact decide_eq_true rfl | (simp; done))) | (refine lF ?_ ?_; (first | exact rfl | exact decide_eq_true rfl | (simp; done)))) | (first | refine L_nil ?_ | (apply L_plain; first | (apply L_go; refine lP ?_) | (apply L_mf; refine lMakeFunc ?_) | refine lY ?_) | (apply L_guarded; first | refine lGT ?_ | refine lGF ?_ | (apply L_go; refine lPG ?_) | refine lG ?_)) | (refine lAlloc ?_; intro _ w hw) | (refine lBox ?_; intro _ w hw) | (refine lStore ?_; intro w hw))
  refine W_cond_false rfl ?_
  repeat (first | (first | refine W_seq ?_ | refine W_block ?_ | refine W_region ?_ | refine W_skip ?_ | refine W_ret ?_ | refine W_exit ?_) | ((first | apply L_bin | apply L_notop); first | (refine lT ?_ ?_; (first | exact rfl | exact decide_eq_true rfl | (simp; done))) | (refine lF ?_ ?_; (first | exact rfl | exact decide_eq_true rfl | (simp; done)))) | (first | refine L_nil ?_ | (apply L_plain; first | (apply L_go; refine lP ?_) | (apply L_mf; refine lMakeFunc ?_) | refine lY ?_) | (apply L_guarded; first | refine lGT ?_ | refine lGF ?_ | (apply L_go; refine lPG ?_) | refine lG ?_)) | (refine lAlloc ?_; intro _ w hw) | (refine lBox ?_; intro _ w hw) | (refine lStore ?_; intro w hw))
  refine lCall ?_
  have e1 : awErr [] [] ⟨4, 1, disk⟩ = 0 := by kernel_rfl
  have e2 : awS [] [] ⟨4, 1, disk⟩ = default := rfl
  have e3 : awF [] [] ⟨4, 1, disk⟩ = false := by kernel_rfl
  have e4 : awW [] [] ⟨4, 1, disk⟩ = [⟨4, 1, disk⟩] := by kernel_rfl
  refine (Await_any Γ S w b bm _ [] [] ⟨4, 1, disk⟩ (by decide) hw).mono ?_
  rintro e w ⟨vs, rfl, hw⟩
  refine ⟨_, rfl, ?_⟩
  rw [e1, e2, e3]
  rw [e4] at hw
  repeat (first | (first | refine W_seq ?_ | refine W_block ?_ | refine W_region ?_ | refine W_skip ?_ | refine W_ret ?_ | refine W_exit ?_) | ((first | apply L_bin | apply L_notop); first | (refine lT ?_ ?_; (first | exact rfl | exact decide_eq_true rfl | (simp; done))) | (refine lF ?_ ?_; (first | exact rfl | exact decide_eq_true rfl | (simp; done)))) | (first | refine L_nil ?_ | (apply L_plain; first | (apply L_go; refine lP ?_) | (apply L_mf; refine lMakeFunc ?_) | refine lY ?_) | (apply L_guarded; first | refine lGT ?_ | refine lGF ?_ | (apply L_go; refine lPG ?_) | refine lG ?_)) | (refine lAlloc ?_; intro _ w hw) | (refine lBox ?_; intro _ w hw) | (refine lStore ?_; intro w hw))
  refine lCall ?_
  let v0 : Service := ⟨disk, 2, 64, 1⟩
  have r1 : regErr [] v0 = 0 := by kernel_rfl
  have r2 : regM [] v0 = [(disk, v0)] := by kernel_rfl
  have r3 : regW [] [⟨4, 1, disk⟩] v0 = [] := by kernel_rfl
  have r4 : regF [] [⟨4, 1, disk⟩] v0 = [⟨4, 1, v0⟩] := by kernel_rfl
  haveI : SB v0.Name := ⟨by decide⟩
  refine (Register_any Γ (Res.blk _ _ :: S) w b bm _ [] [⟨4, 1, disk⟩] v0 (by decide) (hw.ps [3, 3, 3])).mono ?_
  rintro e w ⟨fv, vs', rfl, hw⟩
  refine ⟨_, rfl, ?_⟩
  rw [r1]
  rw [r2, r3, r4] at hw
  obtain ⟨af, nf, cf, rfl, hnf, hncf, hcf⟩ := hw.own_shape (i := 0) rfl
  have hnf : nf = 1 := hnf
  subst hnf
  have hr := RdS.own (i := 0) hw rfl
  have hx0 : ([⟨4, 1, v0⟩] : List Found)[0]? = some ⟨4, 1, v0⟩ := rfl
  repeat (first | (first | refine W_seq ?_ | refine W_block ?_ | refine W_region ?_ | refine W_skip ?_ | refine W_ret ?_ | refine W_exit ?_) | ((first | apply L_bin | apply L_notop); first | (refine lT ?_ ?_; (first | exact rfl | exact decide_eq_true rfl | (simp; done))) | (refine lF ?_ ?_; (first | exact rfl | exact decide_eq_true rfl | (simp; done)))) | (first | refine L_nil ?_ | (apply L_plain; first | (apply L_go; refine lP ?_) | (apply L_mf; refine lMakeFunc ?_) | refine lY ?_) | (apply L_guarded; first | refine lGT ?_ | refine lGF ?_ | (apply L_go; refine lPG ?_) | refine lG ?_)) | (refine lAlloc ?_; intro _ w hw) | (refine lBox ?_; intro _ w hw) | (refine lStore ?_; intro w hw))
  refine lCall ?_
  refine (Waiters_any Γ (Res.own _ _ _ _ :: Res.blk _ _ :: S) w b bm _ _ _ (by decide) (hw.ps [3, 3, 3])).mono ?_
  rintro e w ⟨v1, rfl, hw⟩
  obtain ⟨a1, n1, c1, rfl, hn1, hnc1, hc1⟩ := hw.own_shape (i := 0) rfl
  have hn1 : n1 = 0 := hn1
  subst hn1
  refine ⟨_, rfl, ?_⟩
  repeat (first | (first | refine W_seq ?_ | refine W_block ?_ | refine W_region ?_ | refine W_skip ?_ | refine W_ret ?_ | refine W_exit ?_) | ((first | apply L_bin | apply L_notop); first | (refine lT ?_ ?_; (first | exact rfl | exact decide_eq_true rfl | (simp; done))) | (refine lF ?_ ?_; (first | exact rfl | exact decide_eq_true rfl | (simp; done)))) | (first | refine L_nil ?_ | (apply L_plain; first | (apply L_go; refine lP ?_) | (apply L_mf; refine lMakeFunc ?_) | refine lY ?_) | (apply L_guarded; first | refine lGT ?_ | refine lGF ?_ | (apply L_go; refine lPG ?_) | refine lG ?_)) | (refine lAlloc ?_; intro _ w hw) | (refine lBox ?_; intro _ w hw) | (refine lStore ?_; intro w hw))
  refine lCall ?_
  refine (Services_any Γ (Res.own _ _ _ _ :: Res.own _ _ _ _ :: Res.blk _ _ :: S) w b bm _ _ _ (by decide) (hw.ps [3, 3, 3])).mono ?_
  rintro e w ⟨v2, ys, rfl, hys, hw⟩
  obtain ⟨a2, n2, c2, rfl, hn2, hnc2, hc2⟩ := hw.own_shape (i := 0) rfl
  have hn2 : n2 = 1 := by
    have := hys.perm.length_eq
    simp only [List.length_map] at hn2
    rw [hn2, this]; rfl
  subst hn2
  refine ⟨_, rfl, ?_⟩
  repeat (first | (first | refine W_seq ?_ | refine W_block ?_ | refine W_region ?_ | refine W_skip ?_ | refine W_ret ?_ | refine W_exit ?_) | ((first | apply L_bin | apply L_notop); first | (refine lT ?_ ?_; (first | exact rfl | exact decide_eq_true rfl | (simp; done))) | (refine lF ?_ ?_; (first | exact rfl | exact decide_eq_true rfl | (simp; done)))) | (first | refine L_nil ?_ | (apply L_plain; first | (apply L_go; refine lP ?_) | (apply L_mf; refine lMakeFunc ?_) | refine lY ?_) | (apply L_guarded; first | refine lGT ?_ | refine lGF ?_ | (apply L_go; refine lPG ?_) | refine lG ?_)) | (refine lAlloc ?_; intro _ w hw) | (refine lBox ?_; intro _ w hw) | (refine lStore ?_; intro w hw))
  unfold srvL at hw
  exact ⟨_, rfl, rfl, [_, _, _, _, _, _, _], hw⟩
end Go.Proofs.Ytekdbdhkpolooaa
