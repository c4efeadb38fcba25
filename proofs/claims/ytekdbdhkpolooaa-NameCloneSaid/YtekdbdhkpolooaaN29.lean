/- NameClone: the walk. -/
import Derived.Test.YtekdbdhkpolooaaN26
import Derived.Test.YtekdbdhkpolooaaN28
open Go Mk
namespace Go.Proofs.Ytekdbdhkpolooaa
set_option maxHeartbeats 4000000
attribute [local irreducible] Calls regErr regM regW regF awErr awW awF awS unErr unM caErr caW foundOf delAll lkErr rgErr ruErr ruS rLkErr rawErr rawW rawF rawS

theorem NameClone_any (Γ : Gho) (S : List Res) (w : World) (va vb : Value) (xs ys : List Step) (ha : RepS Γ va 12 (xs.map enc)) (hb : RepS Γ vb 12 (ys.map enc)) (hw : Wd Γ S w) :
    Calls Try.prog 6 #[va, vb] w fun e w' => e = .returned (.bool true) ∧ ∃ S', Wd Γ (S' ++ S) w' := by
  obtain ⟨a, n, c, rfl, hn, hnc, hc⟩ := ha.shape
  obtain ⟨a1, n1, c1, rfl, hn1, hnc1, hc1⟩ := hb.shape
  simp only [List.length_map] at hn hn1
  refine calls_of_W Try.func6 rfl rfl ?_
  repeat (first | (first | refine W_seq ?_ | refine W_block ?_ | refine W_region ?_ | refine W_skip ?_ | refine W_ret ?_ | refine W_exit ?_) | (first | refine L_nil ?_ | (apply L_plain; first | (apply L_go; refine lP ?_) | (apply L_mf; refine lMakeFunc ?_) | refine lY ?_) | (apply L_guarded; first | refine lGT ?_ | refine lGF ?_ | (apply L_go; refine lPG ?_) | refine lG ?_)))
  refine lCall ?_
  refine (New_any Γ S w hw).mono ?_
  rintro e w ⟨b, bm, rfl, hw⟩
  refine ⟨_, rfl, ?_⟩
  repeat (first | (first | refine W_seq ?_ | refine W_block ?_ | refine W_region ?_ | refine W_skip ?_ | refine W_ret ?_ | refine W_exit ?_) | (first | refine L_nil ?_ | (apply L_plain; first | (apply L_go; refine lP ?_) | (apply L_mf; refine lMakeFunc ?_) | refine lY ?_) | (apply L_guarded; first | refine lGT ?_ | refine lGF ?_ | (apply L_go; refine lPG ?_) | refine lG ?_)))
  refine lBox ?_
  intro r w hw
  repeat (first | (first | refine W_seq ?_ | refine W_block ?_ | refine W_region ?_ | refine W_skip ?_ | refine W_ret ?_ | refine W_exit ?_) | (first | refine L_nil ?_ | (apply L_plain; first | (apply L_go; refine lP ?_) | (apply L_mf; refine lMakeFunc ?_) | refine lY ?_) | (apply L_guarded; first | refine lGT ?_ | refine lGF ?_ | (apply L_go; refine lPG ?_) | refine lG ?_)))
  refine W_cond rfl (fun h => by simp at h) (fun _ => ?_)
  repeat (first | (first | refine W_seq ?_ | refine W_block ?_ | refine W_region ?_ | refine W_skip ?_ | refine W_ret ?_ | refine W_exit ?_) | (first | refine L_nil ?_ | (apply L_plain; first | (apply L_go; refine lP ?_) | (apply L_mf; refine lMakeFunc ?_) | refine lY ?_) | (apply L_guarded; first | refine lGT ?_ | refine lGF ?_ | (apply L_go; refine lPG ?_) | refine lG ?_)))
  have hw : Wd Γ (srvL b bm (.slice none 0 0) [] [] ++ (refL r (.slice none 0 0) (.slice none 0 0) [] [] ++ ([] ++ S))) w := by
    have h1 := Wd.addNil (a := none) (E := 31) (sz := 4) (Wd.addNil (a := none) (E := 35) (sz := 3) hw)
    exact h1.ps [1, 1, 2, 5, 5, 5]
  refine W_loop (fun μ ρ w => ∃ (k : Nat) (m : List (ByteArray × Service)) (ws : List Waiter) (ss : List Service) (vs v1 v2 : Value) (S1 : List Res), μ + k = n ∧ Has ρ [(0, .slice a n c), (1, .slice a1 n1 c1), (5, .pointer (some ⟨b, 0, none⟩)), (6, .pointer (some ⟨r, 0, none⟩)), (7, .int .i64 k)] ∧ Inv m ws ∧ Val m ∧ Sorted m ss ∧ Wd Γ (srvL b bm vs m ws ++ (refL r v1 v2 ss ws ++ (S1 ++ S))) w) n ⟨0, [], [], [], _, _, _, [], by omega, ⟨rfl, rfl, rfl, rfl, rfl, trivial⟩, inv_nil, val_nil, ⟨List.Perm.refl _, List.Pairwise.nil⟩, hw⟩ ?_
  clear hw
  rintro μ ρ w ⟨k, m, ws, ss, vs, v1, v2, S1, hk, hρ, hI, hV, h2, hw⟩
  rw [hρ.eq]
  repeat (first | (first | refine W_seq ?_ | refine W_block ?_ | refine W_region ?_ | refine W_skip ?_ | refine W_ret ?_ | refine W_exit ?_) | (first | refine L_nil ?_ | (apply L_plain; first | (apply L_go; refine lP ?_) | (apply L_mf; refine lMakeFunc ?_) | refine lY ?_) | (apply L_guarded; first | refine lGT ?_ | refine lGF ?_ | (apply L_go; refine lPG ?_) | refine lG ?_)))
  refine W_cond rfl (fun h => ?_) (fun h => ?_)
  · have hkn : k < n := by simp only [Bool.and_eq_true, decide_eq_true_eq] at h; omega
    obtain ⟨x, hx⟩ := get_lt (l := xs) (k := k) (by omega)
    repeat (first | (first | refine W_seq ?_ | refine W_block ?_ | refine W_region ?_ | refine W_skip ?_ | refine W_ret ?_ | refine W_exit ?_) | (first | refine L_nil ?_ | (apply L_plain; first | (apply L_go; refine lP ?_) | (apply L_mf; refine lMakeFunc ?_) | refine lY ?_) | (apply L_guarded; first | refine lGT ?_ | refine lGF ?_ | (apply L_go; refine lPG ?_) | refine lG ?_)))
    refine lCall ?_
    refine (do_any Γ _ w b bm vs m ws r v1 v2 ss x hI hV h2 hw).mono ?_
    rintro e w ⟨rfl, vs', v1', v2', m', ws', ss', S2, hI', hV', h2', hw⟩
    refine ⟨_, rfl, ?_⟩
    repeat (first | (first | refine W_seq ?_ | refine W_block ?_ | refine W_region ?_ | refine W_skip ?_ | refine W_ret ?_ | refine W_exit ?_) | (first | refine L_nil ?_ | (apply L_plain; first | (apply L_go; refine lP ?_) | (apply L_mf; refine lMakeFunc ?_) | refine lY ?_) | (apply L_guarded; first | refine lGT ?_ | refine lGF ?_ | (apply L_go; refine lPG ?_) | refine lG ?_)))
    refine W_cond rfl (fun h => by simp at h) (fun _ => ?_)
    repeat (first | (first | refine W_seq ?_ | refine W_block ?_ | refine W_region ?_ | refine W_skip ?_ | refine W_ret ?_ | refine W_exit ?_) | (first | refine L_nil ?_ | (apply L_plain; first | (apply L_go; refine lP ?_) | (apply L_mf; refine lMakeFunc ?_) | refine lY ?_) | (apply L_guarded; first | refine lGT ?_ | refine lGF ?_ | (apply L_go; refine lPG ?_) | refine lG ?_)))
    refine ⟨μ - 1, by omega, k + 1, m', ws', ss', vs', v1', v2', S2 ++ S1, by omega, ⟨rfl, rfl, rfl, rfl, rfl, trivial⟩, hI', hV', h2', ?_⟩
    rw [List.append_assoc]; exact hw
  · clear h hk hρ
    repeat (first | (first | refine W_seq ?_ | refine W_block ?_ | refine W_region ?_ | refine W_skip ?_ | refine W_ret ?_ | refine W_exit ?_) | (first | refine L_nil ?_ | (apply L_plain; first | (apply L_go; refine lP ?_) | (apply L_mf; refine lMakeFunc ?_) | refine lY ?_) | (apply L_guarded; first | refine lGT ?_ | refine lGF ?_ | (apply L_go; refine lPG ?_) | refine lG ?_)))
    refine lCall ?_
    refine (sClone_any Γ _ w b bm vs m ws hI.wl hw).mono ?_
    rintro e w ⟨b2, bm2, vs2, rfl, hw⟩
    refine ⟨_, rfl, ?_⟩
    repeat (first | (first | refine W_seq ?_ | refine W_block ?_ | refine W_region ?_ | refine W_skip ?_ | refine W_ret ?_ | refine W_exit ?_) | (first | refine L_nil ?_ | (apply L_plain; first | (apply L_go; refine lP ?_) | (apply L_mf; refine lMakeFunc ?_) | refine lY ?_) | (apply L_guarded; first | refine lGT ?_ | refine lGF ?_ | (apply L_go; refine lPG ?_) | refine lG ?_)))
    refine W_cond rfl (fun h => by simp at h) (fun _ => ?_)
    repeat (first | (first | refine W_seq ?_ | refine W_block ?_ | refine W_region ?_ | refine W_skip ?_ | refine W_ret ?_ | refine W_exit ?_) | (first | refine L_nil ?_ | (apply L_plain; first | (apply L_go; refine lP ?_) | (apply L_mf; refine lMakeFunc ?_) | refine lY ?_) | (apply L_guarded; first | refine lGT ?_ | refine lGF ?_ | (apply L_go; refine lPG ?_) | refine lG ?_)))
    refine lCall ?_
    refine (Services_any Γ _ w b bm vs m ws hI.ml (hw.ps [5, 5, 5])).mono ?_
    rintro e w ⟨vsv, zs, rfl, hzs, hw⟩
    obtain rfl := sorted_eq hI hzs h2
    refine ⟨_, rfl, ?_⟩
    repeat (first | (first | refine W_seq ?_ | refine W_block ?_ | refine W_region ?_ | refine W_skip ?_ | refine W_ret ?_ | refine W_exit ?_) | (first | refine L_nil ?_ | (apply L_plain; first | (apply L_go; refine lP ?_) | (apply L_mf; refine lMakeFunc ?_) | refine lY ?_) | (apply L_guarded; first | refine lGT ?_ | refine lGF ?_ | (apply L_go; refine lPG ?_) | refine lG ?_)))
    refine lCall ?_
    refine (Waiters_any Γ _ w b bm vs m ws hI.wl (hw.ps [3, 3, 3])).mono ?_
    rintro e w ⟨vwt, rfl, hw⟩
    refine ⟨_, rfl, ?_⟩
    repeat (first | (first | refine W_seq ?_ | refine W_block ?_ | refine W_region ?_ | refine W_skip ?_ | refine W_ret ?_ | refine W_exit ?_) | (first | refine L_nil ?_ | (apply L_plain; first | (apply L_go; refine lP ?_) | (apply L_mf; refine lMakeFunc ?_) | refine lY ?_) | (apply L_guarded; first | refine lGT ?_ | refine lGF ?_ | (apply L_go; refine lPG ?_) | refine lG ?_)))
    have hw : Wd Γ (srvL b bm vs m ws ++ (refL r v1 v2 zs ws ++ ([] ++ (.own vwt 35 3 (ws.map enc) :: .own vsv 31 4 (zs.map enc) :: (srvL b2 bm2 vs2 m ws ++ (S1 ++ S)))))) w := hw.ps [10, 10, 10, 6, 6, 6]
    refine W_loop (fun μ ρ w => ∃ (k : Nat) (m' : List (ByteArray × Service)) (ws' : List Waiter) (ss' : List Service) (vs' v1' v2' : Value) (S2 : List Res), μ + k = n1 ∧ Has ρ [(1, .slice a1 n1 c1), (5, .pointer (some ⟨b, 0, none⟩)), (6, .pointer (some ⟨r, 0, none⟩)), (8, .pointer (some ⟨b2, 0, none⟩)), (9, vsv), (10, vwt), (11, .int .i64 k)] ∧ Inv m' ws' ∧ Val m' ∧ Sorted m' ss' ∧ Wd Γ (srvL b bm vs' m' ws' ++ (refL r v1' v2' ss' ws' ++ (S2 ++ (.own vwt 35 3 (ws.map enc) :: .own vsv 31 4 (zs.map enc) :: (srvL b2 bm2 vs2 m ws ++ (S1 ++ S)))))) w) n1 ⟨0, m, ws, zs, vs, v1, v2, [], by omega, ⟨rfl, rfl, rfl, rfl, rfl, rfl, rfl, trivial⟩, hI, hV, h2, hw⟩ ?_
    clear hw
    rintro μ ρ w ⟨k, m', ws', ss', vs', v1', v2', S2, hk, hρ, hI', hV', h2', hw⟩
    rw [hρ.eq]
    repeat (first | (first | refine W_seq ?_ | refine W_block ?_ | refine W_region ?_ | refine W_skip ?_ | refine W_ret ?_ | refine W_exit ?_) | (first | refine L_nil ?_ | (apply L_plain; first | (apply L_go; refine lP ?_) | (apply L_mf; refine lMakeFunc ?_) | refine lY ?_) | (apply L_guarded; first | refine lGT ?_ | refine lGF ?_ | (apply L_go; refine lPG ?_) | refine lG ?_)))
    refine W_cond rfl (fun h => ?_) (fun h => ?_)
    · have hkn : k < n1 := by simp only [Bool.and_eq_true, decide_eq_true_eq] at h; omega
      obtain ⟨x, hx⟩ := get_lt (l := ys) (k := k) (by omega)
      repeat (first | (first | refine W_seq ?_ | refine W_block ?_ | refine W_region ?_ | refine W_skip ?_ | refine W_ret ?_ | refine W_exit ?_) | (first | refine L_nil ?_ | (apply L_plain; first | (apply L_go; refine lP ?_) | (apply L_mf; refine lMakeFunc ?_) | refine lY ?_) | (apply L_guarded; first | refine lGT ?_ | refine lGF ?_ | (apply L_go; refine lPG ?_) | refine lG ?_)))
      refine lCall ?_
      refine (do_any Γ _ w b bm vs' m' ws' r v1' v2' ss' x hI' hV' h2' hw).mono ?_
      rintro e w ⟨rfl, vs3, v3, v4, m3, ws3, ss3, S3, hI3, hV3, h23, hw⟩
      refine ⟨_, rfl, ?_⟩
      repeat (first | (first | refine W_seq ?_ | refine W_block ?_ | refine W_region ?_ | refine W_skip ?_ | refine W_ret ?_ | refine W_exit ?_) | (first | refine L_nil ?_ | (apply L_plain; first | (apply L_go; refine lP ?_) | (apply L_mf; refine lMakeFunc ?_) | refine lY ?_) | (apply L_guarded; first | refine lGT ?_ | refine lGF ?_ | (apply L_go; refine lPG ?_) | refine lG ?_)))
      refine W_cond rfl (fun h => by simp at h) (fun _ => ?_)
      repeat (first | (first | refine W_seq ?_ | refine W_block ?_ | refine W_region ?_ | refine W_skip ?_ | refine W_ret ?_ | refine W_exit ?_) | (first | refine L_nil ?_ | (apply L_plain; first | (apply L_go; refine lP ?_) | (apply L_mf; refine lMakeFunc ?_) | refine lY ?_) | (apply L_guarded; first | refine lGT ?_ | refine lGF ?_ | (apply L_go; refine lPG ?_) | refine lG ?_)))
      refine ⟨μ - 1, by omega, k + 1, m3, ws3, ss3, vs3, v3, v4, S3 ++ S2, by omega, ⟨rfl, rfl, rfl, rfl, rfl, rfl, rfl, trivial⟩, hI3, hV3, h23, ?_⟩
      rw [List.append_assoc]; exact hw
    · clear h hk hρ
      have hw := Wd.right (Wd.right (Wd.right hw))
      repeat (first | (first | refine W_seq ?_ | refine W_block ?_ | refine W_region ?_ | refine W_skip ?_ | refine W_ret ?_ | refine W_exit ?_) | (first | refine L_nil ?_ | (apply L_plain; first | (apply L_go; refine lP ?_) | (apply L_mf; refine lMakeFunc ?_) | refine lY ?_) | (apply L_guarded; first | refine lGT ?_ | refine lGF ?_ | (apply L_go; refine lPG ?_) | refine lG ?_)))
      refine lCall ?_
      refine (Services_any Γ _ w b2 bm2 vs2 m ws hI.ml (hw.ps [4, 4, 4])).mono ?_
      rintro e w ⟨vc, ys2, rfl, hys2, hw⟩
      obtain rfl := sorted_eq hI hys2 h2
      refine ⟨_, rfl, ?_⟩
      repeat (first | (first | refine W_seq ?_ | refine W_block ?_ | refine W_region ?_ | refine W_skip ?_ | refine W_ret ?_ | refine W_exit ?_) | (first | refine L_nil ?_ | (apply L_plain; first | (apply L_go; refine lP ?_) | (apply L_mf; refine lMakeFunc ?_) | refine lY ?_) | (apply L_guarded; first | refine lGT ?_ | refine lGF ?_ | (apply L_go; refine lPG ?_) | refine lG ?_)))
      refine lCall ?_
      refine (SameServices_own Γ _ w vc vsv _ _ (hw.ps [5, 1])).mono ?_
      rintro e w ⟨rfl, hw⟩
      refine ⟨_, rfl, ?_⟩
      rw [show decide (ys2 = ys2) = true from by simp]
      repeat (first | (first | refine W_seq ?_ | refine W_block ?_ | refine W_region ?_ | refine W_skip ?_ | refine W_ret ?_ | refine W_exit ?_) | ((first | apply L_bin | apply L_notop); first | (refine lT ?_ ?_; (first | exact rfl | exact decide_eq_true rfl | (simp; done))) | (refine lF ?_ ?_; (first | exact rfl | exact decide_eq_true rfl | (simp; done)))) | (first | refine L_nil ?_ | (apply L_plain; first | (apply L_go; refine lP ?_) | (apply L_mf; refine lMakeFunc ?_) | refine lY ?_) | (apply L_guarded; first | refine lGT ?_ | refine lGF ?_ | (apply L_go; refine lPG ?_) | refine lG ?_)) | (refine lAlloc ?_; intro _ w hw) | (refine lBox ?_; intro _ w hw) | (refine lStore ?_; intro w hw))
      refine lCall ?_
      refine (Waiters_any Γ _ w b2 bm2 vs2 m ws hI.wl (hw.ps [4, 4, 4])).mono ?_
      rintro e w ⟨vd, rfl, hw⟩
      refine ⟨_, rfl, ?_⟩
      repeat (first | (first | refine W_seq ?_ | refine W_block ?_ | refine W_region ?_ | refine W_skip ?_ | refine W_ret ?_ | refine W_exit ?_) | ((first | apply L_bin | apply L_notop); first | (refine lT ?_ ?_; (first | exact rfl | exact decide_eq_true rfl | (simp; done))) | (refine lF ?_ ?_; (first | exact rfl | exact decide_eq_true rfl | (simp; done)))) | (first | refine L_nil ?_ | (apply L_plain; first | (apply L_go; refine lP ?_) | (apply L_mf; refine lMakeFunc ?_) | refine lY ?_) | (apply L_guarded; first | refine lGT ?_ | refine lGF ?_ | (apply L_go; refine lPG ?_) | refine lG ?_)) | (refine lAlloc ?_; intro _ w hw) | (refine lBox ?_; intro _ w hw) | (refine lStore ?_; intro w hw))
      refine lCall ?_
      refine (SameWaiters_own Γ _ w vd vwt _ _ (hw.ps [6, 1])).mono ?_
      rintro e w ⟨rfl, hw⟩
      refine ⟨_, rfl, ?_⟩
      rw [show decide (ws = ws) = true from by simp]
      repeat (first | (first | refine W_seq ?_ | refine W_block ?_ | refine W_region ?_ | refine W_skip ?_ | refine W_ret ?_ | refine W_exit ?_) | ((first | apply L_bin | apply L_notop); first | (refine lT ?_ ?_; (first | exact rfl | exact decide_eq_true rfl | (simp; done))) | (refine lF ?_ ?_; (first | exact rfl | exact decide_eq_true rfl | (simp; done)))) | (first | refine L_nil ?_ | (apply L_plain; first | (apply L_go; refine lP ?_) | (apply L_mf; refine lMakeFunc ?_) | refine lY ?_) | (apply L_guarded; first | refine lGT ?_ | refine lGF ?_ | (apply L_go; refine lPG ?_) | refine lG ?_)) | (refine lAlloc ?_; intro _ w hw) | (refine lBox ?_; intro _ w hw) | (refine lStore ?_; intro w hw))
      have hw : Wd Γ (S1 ++ S) w := by repeat (first | exact hw | replace hw := hw.drop)
      refine lCall ?_
      refine (awake_any Γ _ w hw).mono ?_
      rintro e w ⟨rfl, S', hw⟩
      refine ⟨_, rfl, ?_⟩
      repeat (first | (first | refine W_seq ?_ | refine W_block ?_ | refine W_region ?_ | refine W_skip ?_ | refine W_ret ?_ | refine W_exit ?_) | ((first | apply L_bin | apply L_notop); first | (refine lT ?_ ?_; (first | exact rfl | exact decide_eq_true rfl | (simp; done))) | (refine lF ?_ ?_; (first | exact rfl | exact decide_eq_true rfl | (simp; done)))) | (first | refine L_nil ?_ | (apply L_plain; first | (apply L_go; refine lP ?_) | (apply L_mf; refine lMakeFunc ?_) | refine lY ?_) | (apply L_guarded; first | refine lGT ?_ | refine lGF ?_ | (apply L_go; refine lPG ?_) | refine lG ?_)) | (refine lAlloc ?_; intro _ w hw) | (refine lBox ?_; intro _ w hw) | (refine lStore ?_; intro w hw))
      exact ⟨_, rfl, rfl, S' ++ S1, hw.sa⟩
end Go.Proofs.Ytekdbdhkpolooaa
