/- One step, on the program and on the reference. (draft) -/
import Derived.Test.YtekdbdhkpolooaaN25
import Derived.Test.YtekdbdhkpolooaaBase21
open Go Mk
namespace Go.Proofs.Ytekdbdhkpolooaa
set_option maxHeartbeats 4000000
attribute [local irreducible] Calls regErr regM regW regF awErr awW awF awS unErr unM caErr caW foundOf delAll lkErr rgErr ruErr ruS rLkErr rawErr rawW rawF rawS

theorem do_any (Γ : Gho) (S : List Res) (w : World) (b bm : Nat) (vs : Value) (m : List (ByteArray × Service)) (ws : List Waiter) (r : Nat) (v1 v2 : Value) (ss : List Service) (x : Step) (hI : Inv m ws) (hV : Val m) (h2 : Sorted m ss) (hw : Wd Γ (srvL b bm vs m ws ++ (refL r v1 v2 ss ws ++ S)) w) :
    Calls Try.prog 21 #[.pointer (some ⟨b, 0, none⟩), .pointer (some ⟨r, 0, none⟩), .agg (enc x).toArray] w fun e w' => e = .returned (.bool true) ∧ ∃ (vs' v1' v2' : Value) (m' : List (ByteArray × Service)) (ws' : List Waiter) (ss' : List Service) (S' : List Res), Inv m' ws' ∧ Val m' ∧ Sorted m' ss' ∧ Wd Γ (srvL b bm vs' m' ws' ++ (refL r v1' v2' ss' ws' ++ (S' ++ S))) w' := by
  have hss : ss.length ≤ 64 := by have := sorted_len h2; have := hI.ml; omega
  have hws := hI.wl
  refine calls_of_W Try.func21 rfl rfl ?_
  repeat (first | (first | refine W_seq ?_ | refine W_block ?_ | refine W_region ?_ | refine W_skip ?_ | refine W_ret ?_ | refine W_exit ?_) | (first | refine L_nil ?_ | (apply L_plain; first | (apply L_go; refine lP ?_) | (apply L_mf; refine lMakeFunc ?_) | refine lY ?_) | (apply L_guarded; first | refine lGT ?_ | refine lGF ?_ | (apply L_go; refine lPG ?_) | refine lG ?_)))
  refine lBox ?_
  intro bx w hw
  repeat (first | (first | refine W_seq ?_ | refine W_block ?_ | refine W_region ?_ | refine W_skip ?_ | refine W_ret ?_ | refine W_exit ?_) | (first | refine L_nil ?_ | (apply L_plain; first | (apply L_go; refine lP ?_) | (apply L_mf; refine lMakeFunc ?_) | refine lY ?_) | (apply L_guarded; first | refine lGT ?_ | refine lGF ?_ | (apply L_go; refine lPG ?_) | refine lG ?_)))
  refine lCall ?_
  refine (plain_any Γ _ w x hw).mono ?_
  rintro e w ⟨rfl, hw⟩
  refine ⟨_, rfl, ?_⟩
  have sv : SB (plS x).Name := inferInstance
  have sw : SB (plW x).Name := inferInstance
  repeat (first | (first | refine W_seq ?_ | refine W_block ?_ | refine W_region ?_ | refine W_skip ?_ | refine W_ret ?_ | refine W_exit ?_) | (first | refine L_nil ?_ | (apply L_plain; first | (apply L_go; refine lP ?_) | (apply L_mf; refine lMakeFunc ?_) | refine lY ?_) | (apply L_guarded; first | refine lGT ?_ | refine lGF ?_ | (apply L_go; refine lPG ?_) | refine lG ?_)))
  refine lAlloc ?_
  intro bs w hw
  refine lAlloc ?_
  intro bw w hw
  refine lStore ?_
  intro w hw
  refine lStore ?_
  intro w hw
  have hw : Wd Γ (.blk bw (.cells (enc (plW x)).toArray 35) :: .blk bs (.cells (enc (plS x)).toArray 31) :: .blk bx (.cells (enc x).toArray 45) :: (srvL b bm vs m ws ++ (refL r v1 v2 ss ws ++ S))) w := hw
  generalize plS x = v at *
  generalize plW x = y at *
  repeat (first | (first | refine W_seq ?_ | refine W_block ?_ | refine W_region ?_ | refine W_skip ?_ | refine W_ret ?_ | refine W_exit ?_) | (first | refine L_nil ?_ | (apply L_plain; first | (apply L_go; refine lP ?_) | (apply L_mf; refine lMakeFunc ?_) | refine lY ?_) | (apply L_guarded; first | refine lGT ?_ | refine lGF ?_ | (apply L_go; refine lPG ?_) | refine lG ?_)))
  refine W_cond rfl (fun e0 => ?_) (fun e0 => ?_)
  · repeat (first | (first | refine W_seq ?_ | refine W_block ?_ | refine W_region ?_ | refine W_skip ?_ | refine W_ret ?_ | refine W_exit ?_) | (first | refine L_nil ?_ | (apply L_plain; first | (apply L_go; refine lP ?_) | (apply L_mf; refine lMakeFunc ?_) | refine lY ?_) | (apply L_guarded; first | refine lGT ?_ | refine lGF ?_ | (apply L_go; refine lPG ?_) | refine lG ?_)))
    refine lCall ?_
    refine (Register_any Γ _ w b bm vs m ws v hws (Wd.swapApp (A := [_, _, _]) hw)).mono ?_
    rintro e w ⟨fv, vs', rfl, hw⟩
    refine ⟨_, rfl, ?_⟩
    repeat (first | (first | refine W_seq ?_ | refine W_block ?_ | refine W_region ?_ | refine W_skip ?_ | refine W_ret ?_ | refine W_exit ?_) | (first | refine L_nil ?_ | (apply L_plain; first | (apply L_go; refine lP ?_) | (apply L_mf; refine lMakeFunc ?_) | refine lY ?_) | (apply L_guarded; first | refine lGT ?_ | refine lGF ?_ | (apply L_go; refine lPG ?_) | refine lG ?_)))
    refine lCall ?_
    refine (rRegister_any Γ _ w r v1 v2 ss ws v hss hws h2.asc (hw.ps [9, 9, 9])).mono ?_
    rintro e w ⟨fv2, v1', v2', ss', rfl, hs1, hs2, hw⟩
    refine ⟨_, rfl, ?_⟩
    rw [rel_regErr hI h2] at hs1 hs2 hw
    rw [show (if regErr m v = 0 then foundOf v ws else []) = regF m ws v from by unfold regF; rfl, show (if regErr m v = 0 then ws.filter (fun x => !decide (x.Name = v.Name)) else ws) = regW m ws v from by unfold regW; rfl] at hw
    have hS : Sorted (regM m v) ss' := by
      by_cases hE : regErr m v = 0
      · exact rel_reg hI h2 hE (hs2 hE).1 (hs2 hE).2
      · rw [hs1 hE, show regM m v = m from by unfold regM; rw [if_neg hE]]; exact h2
    have hI' := inv_reg hI v
    repeat (first | (first | refine W_seq ?_ | refine W_block ?_ | refine W_region ?_ | refine W_skip ?_ | refine W_ret ?_ | refine W_exit ?_) | (first | refine L_nil ?_ | (apply L_plain; first | (apply L_go; refine lP ?_) | (apply L_mf; refine lMakeFunc ?_) | refine lY ?_) | (apply L_guarded; first | refine lGT ?_ | refine lGF ?_ | (apply L_go; refine lPG ?_) | refine lG ?_)))
    refine lCall ?_
    refine (SameFound_own Γ _ w fv fv2 _ _ (hw.ps [4])).mono ?_
    rintro e w ⟨rfl, hw⟩
    refine ⟨_, rfl, ?_⟩
    rw [rel_regErr hI h2]
    repeat (first | (first | refine W_seq ?_ | refine W_block ?_ | refine W_region ?_ | refine W_skip ?_ | refine W_ret ?_ | refine W_exit ?_) | (first | refine L_nil ?_ | (apply L_plain; first | (apply L_go; refine lP ?_) | (apply L_mf; refine lMakeFunc ?_) | refine lY ?_) | (apply L_guarded; first | refine lGT ?_ | refine lGF ?_ | (apply L_go; refine lPG ?_) | refine lG ?_)))
    refine ⟨_, rfl, ret_b rfl (by simp), vs', v1', v2', _, _, ss', _ :: _ :: _ :: _ :: [_], hI', val_reg hV v, hS, hw.ps [4, 4, 4, 7, 7, 7]⟩
  · repeat (first | (first | refine W_seq ?_ | refine W_block ?_ | refine W_region ?_ | refine W_skip ?_ | refine W_ret ?_ | refine W_exit ?_) | (first | refine L_nil ?_ | (apply L_plain; first | (apply L_go; refine lP ?_) | (apply L_mf; refine lMakeFunc ?_) | refine lY ?_) | (apply L_guarded; first | refine lGT ?_ | refine lGF ?_ | (apply L_go; refine lPG ?_) | refine lG ?_)))
    refine W_cond rfl (fun e1 => ?_) (fun e1 => ?_)
    · repeat (first | (first | refine W_seq ?_ | refine W_block ?_ | refine W_region ?_ | refine W_skip ?_ | refine W_ret ?_ | refine W_exit ?_) | (first | refine L_nil ?_ | (apply L_plain; first | (apply L_go; refine lP ?_) | (apply L_mf; refine lMakeFunc ?_) | refine lY ?_) | (apply L_guarded; first | refine lGT ?_ | refine lGF ?_ | (apply L_go; refine lPG ?_) | refine lG ?_)))
      refine W_mixC [.blk bw _, .blk bs _, .blk bx _] (srvL b bm vs m ws ++ (refL r v1 v2 ss ws ++ S)) [] [[],[],[],[],[],[0],[],[],[],[],[],[0],[],[]] hw ?_
      repeat (first | refine mY ?_ | refine mP ?_)
      refine mCallX (T' := Unit) (v := .int .i64 (unErr m v.Name v.Core)) (fun _ _ => True) (fun _ => srvL b bm vs (unM m v.Name v.Core) ws ++ (refL r v1 v2 ss ws ++ S)) (fun _ _ => _) (fun t g w Y _ hw => ?_) ?_
      · refine (Unregister_any Γ _ w b bm vs m ws v.Name v.Core hw.as).mono ?_
        rintro e w ⟨rfl, hw⟩
        exact ⟨_, rfl, (), trivial, fun _ => rfl, hw.sa⟩
      repeat (first | refine mY ?_ | refine mP ?_)
      refine mCallX (T' := Value) (v := .int .i64 (unErr m v.Name v.Core)) (fun _ _ => True) (fun t => srvL b bm vs (unM m v.Name v.Core) ws ++ (refL r t v2 (ruS ss v.Name v.Core) ws ++ S)) (fun _ _ => _) (fun t g w Y _ hw => ?_) ?_
      · refine (rUnregister_any Γ _ w r v1 v2 ss ws v.Name v.Core hss (hw.ps [5, 5, 5])).mono ?_
        rintro e w ⟨v1', rfl, hw⟩
        rw [rel_unErr hI h2]
        exact ⟨_, rfl, v1', trivial, fun _ => rfl, hw.ps [5, 5, 5]⟩
      repeat (first | refine mY ?_ | refine mP ?_)
      refine mEndX fun v1' w g _ hw => ?_
      repeat (first | (first | refine W_seq ?_ | refine W_block ?_ | refine W_region ?_ | refine W_skip ?_ | refine W_ret ?_ | refine W_exit ?_) | (first | refine L_nil ?_ | (apply L_plain; first | (apply L_go; refine lP ?_) | (apply L_mf; refine lMakeFunc ?_) | refine lY ?_) | (apply L_guarded; first | refine lGT ?_ | refine lGF ?_ | (apply L_go; refine lPG ?_) | refine lG ?_)))
      exact ⟨_, rfl, ret_b rfl (by simp), vs, v1', v2, unM m v.Name v.Core, ws, ruS ss v.Name v.Core, [_, _, _], inv_un hI _ _, val_un hV _ _, rel_un hI h2 _ _, hw.tuck⟩
    · repeat (first | (first | refine W_seq ?_ | refine W_block ?_ | refine W_region ?_ | refine W_skip ?_ | refine W_ret ?_ | refine W_exit ?_) | (first | refine L_nil ?_ | (apply L_plain; first | (apply L_go; refine lP ?_) | (apply L_mf; refine lMakeFunc ?_) | refine lY ?_) | (apply L_guarded; first | refine lGT ?_ | refine lGF ?_ | (apply L_go; refine lPG ?_) | refine lG ?_)))
      refine W_cond rfl (fun e2 => ?_) (fun e2 => ?_)
      · repeat (first | (first | refine W_seq ?_ | refine W_block ?_ | refine W_region ?_ | refine W_skip ?_ | refine W_ret ?_ | refine W_exit ?_) | (first | refine L_nil ?_ | (apply L_plain; first | (apply L_go; refine lP ?_) | (apply L_mf; refine lMakeFunc ?_) | refine lY ?_) | (apply L_guarded; first | refine lGT ?_ | refine lGF ?_ | (apply L_go; refine lPG ?_) | refine lG ?_)))
        refine lCall ?_
        refine (Lookup_any Γ _ w b bm vs m ws v.Name (Wd.swapApp (A := [_, _, _]) hw)).mono ?_
        rintro e w ⟨rfl, hw⟩
        refine ⟨_, rfl, ?_⟩
        have hr1 := rel_get hI h2 v.Name
        have hr2 := rel_lkErr hI h2 v.Name
        have hw := Wd.swapApp (B := [_, _, _]) hw
        generalize hA : (aGet m v.Name).getD default = A at *
        generalize lkErr m v.Name = E at *
        repeat (first | (first | refine W_seq ?_ | refine W_block ?_ | refine W_region ?_ | refine W_skip ?_ | refine W_ret ?_ | refine W_exit ?_) | (first | refine L_nil ?_ | (apply L_plain; first | (apply L_go; refine lP ?_) | (apply L_mf; refine lMakeFunc ?_) | refine lY ?_) | (apply L_guarded; first | refine lGT ?_ | refine lGF ?_ | (apply L_go; refine lPG ?_) | refine lG ?_)))
        refine lAlloc ?_
        intro ba w hw
        refine lStore ?_
        intro w hw
        have hw : Wd Γ (.blk ba (.cells (enc A).toArray 31) :: ([_, _, _] ++ (srvL b bm vs m ws ++ (refL r v1 v2 ss ws ++ S)))) w := hw
        repeat (first | (first | refine W_seq ?_ | refine W_block ?_ | refine W_region ?_ | refine W_skip ?_ | refine W_ret ?_ | refine W_exit ?_) | (first | refine L_nil ?_ | (apply L_plain; first | (apply L_go; refine lP ?_) | (apply L_mf; refine lMakeFunc ?_) | refine lY ?_) | (apply L_guarded; first | refine lGT ?_ | refine lGF ?_ | (apply L_go; refine lPG ?_) | refine lG ?_)))
        refine lCall ?_
        refine (rLookup_any Γ _ w r v1 v2 ss ws v.Name (hw.ps [9, 9, 9])).mono ?_
        rintro e w ⟨rfl, hw⟩
        refine ⟨_, rfl, ?_⟩
        rw [hr1, hA, hr2]
        repeat (first | (first | refine W_seq ?_ | refine W_block ?_ | refine W_region ?_ | refine W_skip ?_ | refine W_ret ?_ | refine W_exit ?_) | (first | refine L_nil ?_ | (apply L_plain; first | (apply L_go; refine lP ?_) | (apply L_mf; refine lMakeFunc ?_) | refine lY ?_) | (apply L_guarded; first | refine lGT ?_ | refine lGF ?_ | (apply L_go; refine lPG ?_) | refine lG ?_)))
        refine lAlloc ?_
        intro bb w hw
        refine lStore ?_
        intro w hw
        have hw : Wd Γ (.blk bb (.cells (enc A).toArray 31) :: _) w := hw
        repeat (first | (first | refine W_seq ?_ | refine W_block ?_ | refine W_region ?_ | refine W_skip ?_ | refine W_ret ?_ | refine W_exit ?_) | (first | refine L_nil ?_ | (apply L_plain; first | (apply L_go; refine lP ?_) | (apply L_mf; refine lMakeFunc ?_) | refine lY ?_) | (apply L_guarded; first | refine lGT ?_ | refine lGF ?_ | (apply L_go; refine lPG ?_) | refine lG ?_)))
        exact ⟨_, rfl, ret_b rfl (by simp), vs, v1, v2, m, ws, ss, _ :: _ :: _ :: _ :: [_], hI, hV, h2, hw.ps [3, 3, 3, 10, 10, 10]⟩
      · repeat (first | (first | refine W_seq ?_ | refine W_block ?_ | refine W_region ?_ | refine W_skip ?_ | refine W_ret ?_ | refine W_exit ?_) | (first | refine L_nil ?_ | (apply L_plain; first | (apply L_go; refine lP ?_) | (apply L_mf; refine lMakeFunc ?_) | refine lY ?_) | (apply L_guarded; first | refine lGT ?_ | refine lGF ?_ | (apply L_go; refine lPG ?_) | refine lG ?_)))
        refine W_cond rfl (fun e3 => ?_) (fun e3 => ?_)
        · repeat (first | (first | refine W_seq ?_ | refine W_block ?_ | refine W_region ?_ | refine W_skip ?_ | refine W_ret ?_ | refine W_exit ?_) | (first | refine L_nil ?_ | (apply L_plain; first | (apply L_go; refine lP ?_) | (apply L_mf; refine lMakeFunc ?_) | refine lY ?_) | (apply L_guarded; first | refine lGT ?_ | refine lGF ?_ | (apply L_go; refine lPG ?_) | refine lG ?_)))
          refine lCall ?_
          refine (Await_any Γ _ w b bm vs m ws y hws (Wd.swapApp (A := [_, _, _]) hw)).mono ?_
          rintro e w ⟨vs', rfl, hw⟩
          refine ⟨_, rfl, ?_⟩
          have hw := Wd.swapApp (B := [_, _, _]) hw
          obtain ⟨w1, w2, w3⟩ := rel_aw hI h2 y
          have w4 := rel_awErr hI h2 y
          have hI' := inv_aw hI y
          generalize awF m ws y = F at *
          generalize awErr m ws y = E at *
          generalize awS m ws y = A at *
          repeat (first | (first | refine W_seq ?_ | refine W_block ?_ | refine W_region ?_ | refine W_skip ?_ | refine W_ret ?_ | refine W_exit ?_) | (first | refine L_nil ?_ | (apply L_plain; first | (apply L_go; refine lP ?_) | (apply L_mf; refine lMakeFunc ?_) | refine lY ?_) | (apply L_guarded; first | refine lGT ?_ | refine lGF ?_ | (apply L_go; refine lPG ?_) | refine lG ?_)))
          refine lAlloc ?_
          intro ba w hw
          refine lStore ?_
          intro w hw
          have hw : Wd Γ (.blk ba (.cells (enc A).toArray 31) :: ([_, _, _] ++ (srvL b bm vs' m (awW m ws y) ++ (refL r v1 v2 ss ws ++ S)))) w := hw
          repeat (first | (first | refine W_seq ?_ | refine W_block ?_ | refine W_region ?_ | refine W_skip ?_ | refine W_ret ?_ | refine W_exit ?_) | (first | refine L_nil ?_ | (apply L_plain; first | (apply L_go; refine lP ?_) | (apply L_mf; refine lMakeFunc ?_) | refine lY ?_) | (apply L_guarded; first | refine lGT ?_ | refine lGF ?_ | (apply L_go; refine lPG ?_) | refine lG ?_)))
          refine lCall ?_
          refine (rAwait_any Γ _ w r v1 v2 ss ws y hws (hw.ps [9, 9, 9])).mono ?_
          rintro e w ⟨v2', rfl, hw⟩
          refine ⟨_, rfl, ?_⟩
          rw [w1] at hw
          rw [w2, w3, w4]
          repeat (first | (first | refine W_seq ?_ | refine W_block ?_ | refine W_region ?_ | refine W_skip ?_ | refine W_ret ?_ | refine W_exit ?_) | (first | refine L_nil ?_ | (apply L_plain; first | (apply L_go; refine lP ?_) | (apply L_mf; refine lMakeFunc ?_) | refine lY ?_) | (apply L_guarded; first | refine lGT ?_ | refine lGF ?_ | (apply L_go; refine lPG ?_) | refine lG ?_)))
          refine lAlloc ?_
          intro bb w hw
          refine lStore ?_
          intro w hw
          have hw : Wd Γ (.blk bb (.cells (enc A).toArray 31) :: _) w := hw
          repeat (first | (first | refine W_seq ?_ | refine W_block ?_ | refine W_region ?_ | refine W_skip ?_ | refine W_ret ?_ | refine W_exit ?_) | (first | refine L_nil ?_ | (apply L_plain; first | (apply L_go; refine lP ?_) | (apply L_mf; refine lMakeFunc ?_) | refine lY ?_) | (apply L_guarded; first | refine lGT ?_ | refine lGF ?_ | (apply L_go; refine lPG ?_) | refine lG ?_)))
          exact ⟨_, rfl, ret_b rfl (by simp), vs', v1, v2', m, _, ss, _ :: _ :: _ :: _ :: [_], hI', hV, h2, hw.ps [3, 3, 3, 10, 10, 10]⟩
        · repeat (first | (first | refine W_seq ?_ | refine W_block ?_ | refine W_region ?_ | refine W_skip ?_ | refine W_ret ?_ | refine W_exit ?_) | (first | refine L_nil ?_ | (apply L_plain; first | (apply L_go; refine lP ?_) | (apply L_mf; refine lMakeFunc ?_) | refine lY ?_) | (apply L_guarded; first | refine lGT ?_ | refine lGF ?_ | (apply L_go; refine lPG ?_) | refine lG ?_)))
          refine W_cond rfl (fun e4 => ?_) (fun e4 => ?_)
          · repeat (first | (first | refine W_seq ?_ | refine W_block ?_ | refine W_region ?_ | refine W_skip ?_ | refine W_ret ?_ | refine W_exit ?_) | (first | refine L_nil ?_ | (apply L_plain; first | (apply L_go; refine lP ?_) | (apply L_mf; refine lMakeFunc ?_) | refine lY ?_) | (apply L_guarded; first | refine lGT ?_ | refine lGF ?_ | (apply L_go; refine lPG ?_) | refine lG ?_)))
            refine W_mixC [.blk bw _, .blk bs _, .blk bx _] (srvL b bm vs m ws ++ (refL r v1 v2 ss ws ++ S)) [] [[],[],[],[],[],[0],[],[],[],[],[],[0],[],[]] hw ?_
            repeat (first | refine mY ?_ | refine mP ?_)
            refine mCallX (T' := Value) (v := .int .i64 (caErr ws y.Token y.Core)) (fun _ _ => True) (fun t => srvL b bm t m (caW ws y.Token y.Core) ++ (refL r v1 v2 ss ws ++ S)) (fun _ _ => _) (fun t g w Y _ hw => ?_) ?_
            · refine (Cancel_any Γ _ w b bm vs m ws y.Token y.Core hws hw.as).mono ?_
              rintro e w ⟨vs', rfl, hw⟩
              exact ⟨_, rfl, vs', trivial, fun _ => rfl, hw.sa⟩
            repeat (first | refine mY ?_ | refine mP ?_)
            refine mCallX (T' := Value × Value) (v := .int .i64 (caErr ws y.Token y.Core)) (fun _ _ => True) (fun t => srvL b bm t.1 m (caW ws y.Token y.Core) ++ (refL r v1 t.2 ss (caW ws y.Token y.Core) ++ S)) (fun _ _ => _) (fun t g w Y _ hw => ?_) ?_
            · refine (rCancel_any Γ _ w r v1 v2 ss ws y.Token y.Core hws (hw.ps [5, 5, 5])).mono ?_
              rintro e w ⟨v2', rfl, hw⟩
              exact ⟨_, rfl, (t, v2'), trivial, fun _ => rfl, hw.ps [5, 5, 5]⟩
            repeat (first | refine mY ?_ | refine mP ?_)
            refine mEndX fun t w g _ hw => ?_
            repeat (first | (first | refine W_seq ?_ | refine W_block ?_ | refine W_region ?_ | refine W_skip ?_ | refine W_ret ?_ | refine W_exit ?_) | (first | refine L_nil ?_ | (apply L_plain; first | (apply L_go; refine lP ?_) | (apply L_mf; refine lMakeFunc ?_) | refine lY ?_) | (apply L_guarded; first | refine lGT ?_ | refine lGF ?_ | (apply L_go; refine lPG ?_) | refine lG ?_)))
            exact ⟨_, rfl, ret_b rfl (by simp), t.1, v1, t.2, m, _, ss, [_, _, _], inv_ca hI _ _, hV, h2, hw.tuck⟩
          · repeat (first | (first | refine W_seq ?_ | refine W_block ?_ | refine W_region ?_ | refine W_skip ?_ | refine W_ret ?_ | refine W_exit ?_) | (first | refine L_nil ?_ | (apply L_plain; first | (apply L_go; refine lP ?_) | (apply L_mf; refine lMakeFunc ?_) | refine lY ?_) | (apply L_guarded; first | refine lGT ?_ | refine lGF ?_ | (apply L_go; refine lPG ?_) | refine lG ?_)))
            refine W_mixC [.blk bw _, .blk bs _, .blk bx _] (srvL b bm vs m ws ++ (refL r v1 v2 ss ws ++ S)) [139, 143] [[],[],[],[0],[],[],[],[0],[0],[]] hw ?_
            have hI' := inv_dep hI (ss.filter (sCore y.Core)) (fun x => !ofCore y.Core x)
            have h2' := rel_dep hI h2 y.Core
            repeat (first | refine mY ?_ | refine mP ?_)
            refine mCallX (v := undef) (T' := Value × Value) (fun t g => g 139 = t.1) (fun t => .own t.1 31 4 ((ss.filter (sCore y.Core)).map enc) :: (srvL b bm t.2 (delAll m (ss.filter (sCore y.Core))) (ws.filter fun x => !ofCore y.Core x) ++ (refL r v1 v2 ss ws ++ S))) (fun _ _ => _) (fun t g w Y _ hw => ?_) ?_
            · refine (Depart_any Γ _ w b bm vs m ws y.Core hI.ml hw.as).mono ?_
              rintro e w ⟨v', ys, vs', rfl, hys, hw⟩
              obtain rfl := sorted_eq hI hys h2
              exact ⟨_, rfl, (v', vs'), rfl, (fun h => by cases h), Wd.sa (A := _ :: srvL b bm vs' _ _) hw⟩
            repeat (first | refine mY ?_ | refine mP ?_)
            refine mCallX (v := undef) (T' := (Value × Value) × Value × Value × Value) (fun t g => g 139 = t.1.1 ∧ g 143 = t.2.1) (fun t => .own t.1.1 31 4 ((ss.filter (sCore y.Core)).map enc) :: .own t.2.1 31 4 ((ss.filter (sCore y.Core)).map enc) :: (srvL b bm t.1.2 (delAll m (ss.filter (sCore y.Core))) (ws.filter fun x => !ofCore y.Core x) ++ (refL r t.2.2.1 t.2.2.2 (ss.filter fun x => !sCore y.Core x) (ws.filter fun x => !ofCore y.Core x) ++ S))) (fun _ _ => _) (fun t g w Y ht hw => ?_) ?_
            · refine (rDepart_any Γ _ w r v1 v2 ss ws y.Core hss hws (hw.ps [6, 6, 6])).mono ?_
              rintro e w ⟨u, v1', v2', rfl, hw⟩
              exact ⟨_, rfl, (t, u, v1', v2'), ⟨ht, rfl⟩, (fun h => by cases h), hw.ps [3, 3, 3, 7, 7, 7, 6, 7]⟩
            refine mCallX (φ := fun (t : (Value × Value) × Value × Value × Value) g => g 139 = t.1.1 ∧ g 143 = t.2.1) (v := .bool true) (T' := (Value × Value) × Value × Value × Value) (fun _ _ => True) (fun t => .own t.1.1 31 4 ((ss.filter (sCore y.Core)).map enc) :: .own t.2.1 31 4 ((ss.filter (sCore y.Core)).map enc) :: (srvL b bm t.1.2 (delAll m (ss.filter (sCore y.Core))) (ws.filter fun x => !ofCore y.Core x) ++ (refL r t.2.2.1 t.2.2.2 (ss.filter fun x => !sCore y.Core x) (ws.filter fun x => !ofCore y.Core x) ++ S))) (fun t _ => [t.1.1, t.2.1]) (fun t g w Y _ hw => ?_) ?_ (ha := fun t g ht => EvL.cons ht.1 (EvL.cons ht.2 EvL.nil))
            · refine (SameServices_own Γ _ w _ _ _ _ hw).mono ?_
              rintro e w ⟨rfl, hw⟩
              exact ⟨_, rfl, t, trivial, (fun _ => by simp), hw⟩
            repeat (first | refine mY ?_ | refine mP ?_)
            refine mEndX fun t w g _ hw => ?_
            repeat (first | (first | refine W_seq ?_ | refine W_block ?_ | refine W_region ?_ | refine W_skip ?_ | refine W_ret ?_ | refine W_exit ?_) | (first | refine L_nil ?_ | (apply L_plain; first | (apply L_go; refine lP ?_) | (apply L_mf; refine lMakeFunc ?_) | refine lY ?_) | (apply L_guarded; first | refine lGT ?_ | refine lGF ?_ | (apply L_go; refine lPG ?_) | refine lG ?_)))
            exact ⟨_, rfl, rfl, t.1.2, t.2.2.1, t.2.2.2, _, _, _, [_, _, _, _, _], hI', val_dep hV _, h2', (Wd.tuck (A := _ :: _ :: srvL b bm t.1.2 _ _) hw).ps [7, 7, 7, 7, 7, 7]⟩
end Go.Proofs.Ytekdbdhkpolooaa
