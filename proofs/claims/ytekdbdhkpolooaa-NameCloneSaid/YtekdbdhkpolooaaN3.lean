/- Deleting the elements of a slice that a predicate names. -/
import Derived.Test.YtekdbdhkpolooaaN2
open Go Mk
namespace Go.Proofs.Ytekdbdhkpolooaa
attribute [local irreducible] Calls
set_option maxHeartbeats 4000000

theorem DeleteFunc_any (T : Nat → List Res) (Γ : Gho) (w : World) (va : Value) (xs : List Waiter) (f : Nat) (fst cap : List Value) (p : Waiter → Bool) [FnOk Try.prog f] (hw : Wd Γ (.own va 35 3 (xs.map enc) :: T 0) w)
    (hp : ∀ (R : List Res) k x w, xs[k]? = some x → Wd Γ (R ++ T k) w → Calls Try.prog f (fst ++ [Value.agg (enc x).toArray] ++ cap).toArray w fun e w' => e = .returned (.bool (p x)) ∧ Wd Γ (R ++ T (k + 1)) w') :
    Calls Try.prog 26 #[va, .func (.func f) fst.toArray cap.toArray] w fun e w' => ∃ v', e = .returned v' ∧ Wd Γ (.own v' 35 3 ((xs.filter fun x => !p x).map enc) :: T xs.length) w' := by
  obtain ⟨a, n, c, rfl, hn, hnc, hc⟩ := hw.own_shape (i := 0) rfl
  simp only [List.length_map] at hn
  refine calls_of_W Try.func26 rfl rfl ?_
  repeat (first | (first | refine W_seq ?_ | refine W_block ?_ | refine W_region ?_ | refine W_skip ?_ | refine W_ret ?_ | refine W_exit ?_) | (first | refine L_nil ?_ | (apply L_plain; first | (apply L_go; refine lP ?_) | (apply L_mf; refine lMakeFunc ?_) | refine lY ?_) | (apply L_guarded; first | refine lGT ?_ | refine lGF ?_ | (apply L_go; refine lPG ?_) | refine lG ?_)))
  refine lCall ?_
  refine (IndexFunc_st (fun k => .own (.slice a n c) 35 3 (xs.map enc) :: T k) Γ w _ xs f fst cap p hw (fun k => ?_) (fun k x w hx hw => hp [_] k x w hx hw)).mono ?_
  · exact RdS.ownI (i := 0) rfl (by rw [List.length_map]; exact hn) hnc hc
  rintro e w ⟨rfl, hw⟩
  refine ⟨_, rfl, ?_⟩
  revert hw
  generalize hf : xs.findIdx? p = o
  intro hw
  cases o with
  | none =>
    repeat (first | (first | refine W_seq ?_ | refine W_block ?_ | refine W_region ?_ | refine W_skip ?_ | refine W_ret ?_ | refine W_exit ?_) | (first | refine L_nil ?_ | (apply L_plain; first | (apply L_go; refine lP ?_) | (apply L_mf; refine lMakeFunc ?_) | refine lY ?_) | (apply L_guarded; first | refine lGT ?_ | refine lGF ?_ | (apply L_go; refine lPG ?_) | refine lG ?_)))
    refine W_cond_true rfl ?_
    repeat (first | (first | refine W_seq ?_ | refine W_block ?_ | refine W_region ?_ | refine W_skip ?_ | refine W_ret ?_ | refine W_exit ?_) | (first | refine L_nil ?_ | (apply L_plain; first | (apply L_go; refine lP ?_) | (apply L_mf; refine lMakeFunc ?_) | refine lY ?_) | (apply L_guarded; first | refine lGT ?_ | refine lGF ?_ | (apply L_go; refine lPG ?_) | refine lG ?_)))
    have : (xs.filter fun x => !p x) = xs := List.filter_eq_self.2 fun x hx => by
      have := (List.findIdx?_eq_none_iff.1 hf) x hx
      simp [this]
    exact ⟨_, rfl, _, rfl, by rw [this]; exact hw⟩
  | some i0 =>
    obtain ⟨hi0, hpi, hbef⟩ := List.findIdx?_eq_some_iff_getElem.1 hf
    simp only at hw
    have hz : ixZ (some i0) = (i0 : Int) := rfl
    have ht0 : xs.take i0 = (xs.take (i0 + 1)).filter fun x => !p x := by
      rw [List.take_add_one, List.getElem?_eq_getElem hi0, List.filter_append]
      have h1 : ((xs.take i0).filter fun x => !p x) = xs.take i0 := List.filter_eq_self.2 fun x hx => by
        obtain ⟨k, hk, rfl⟩ := List.getElem_of_mem hx
        simp only [List.length_take] at hk
        have := hbef k (by omega)
        simp only [List.getElem_take]
        simpa using this
      rw [h1]
      simp [hpi]
    repeat (first | (first | refine W_seq ?_ | refine W_block ?_ | refine W_region ?_ | refine W_skip ?_ | refine W_ret ?_ | refine W_exit ?_) | (first | refine L_nil ?_ | (apply L_plain; first | (apply L_go; refine lP ?_) | (apply L_mf; refine lMakeFunc ?_) | refine lY ?_) | (apply L_guarded; first | refine lGT ?_ | refine lGF ?_ | (apply L_go; refine lPG ?_) | refine lG ?_)))
    refine W_cond rfl (fun h => ?_) (fun h => ?_)
    · simp [ixZ] at h
    repeat (first | (first | refine W_seq ?_ | refine W_block ?_ | refine W_region ?_ | refine W_skip ?_ | refine W_ret ?_ | refine W_exit ?_) | (first | refine L_nil ?_ | (apply L_plain; first | (apply L_go; refine lP ?_) | (apply L_mf; refine lMakeFunc ?_) | refine lY ?_) | (apply L_guarded; first | refine lGT ?_ | refine lGF ?_ | (apply L_go; refine lPG ?_) | refine lG ?_)))
    refine W_loop (fun μ ρ w => ∃ (i j : Nat) (cur : List Waiter), μ + j = n ∧ i < j ∧ cur.length = n ∧ cur.take i = ((xs.take j).filter fun x => !p x) ∧ (∀ k, j ≤ k → cur[k]? = xs[k]?) ∧ Has ρ [(0, .slice a n c), (1, .func (.func f) fst.toArray cap.toArray), (5, .int .i64 i), (6, .int .i64 j)] ∧ Wd Γ (.own (.slice a n c) 35 3 (cur.map enc) :: T j) w) (n - (i0 + 1)) ⟨i0, i0 + 1, xs, by omega, by omega, hn.symm, ht0, fun _ _ => rfl, ⟨rfl, rfl, rfl, rfl, trivial⟩, hw⟩ ?_
    rintro μ ρ w ⟨i, j, cur, hμ, hij, hcl, hcur, hrest, hρ, hw⟩
    rw [hρ.eq]
    have hcn : n = cur.length := hcl.symm
    repeat (first | (first | refine W_seq ?_ | refine W_block ?_ | refine W_region ?_ | refine W_skip ?_ | refine W_ret ?_ | refine W_exit ?_) | (first | refine L_nil ?_ | (apply L_plain; first | (apply L_go; refine lP ?_) | (apply L_mf; refine lMakeFunc ?_) | refine lY ?_) | (apply L_guarded; first | refine lGT ?_ | refine lGF ?_ | (apply L_go; refine lPG ?_) | refine lG ?_)))
    refine W_cond rfl (fun h => ?_) (fun h => ?_)
    · have hjn : j < n := by simpa using h
      obtain ⟨x, hx⟩ := get_lt (l := cur) (k := j) (by omega)
      have hxx : xs[j]? = some x := by rw [← hrest j (Nat.le_refl _)]; exact hx
      have htk : xs.take (j + 1) = xs.take j ++ [x] := by rw [List.take_add_one, hxx]; rfl
      repeat (first | (first | refine W_seq ?_ | refine W_block ?_ | refine W_region ?_ | refine W_skip ?_ | refine W_ret ?_ | refine W_exit ?_) | (first | refine L_nil ?_ | (apply L_plain; first | (apply L_go; refine lP ?_) | (apply L_mf; refine lMakeFunc ?_) | refine lY ?_) | (apply L_guarded; first | refine lGT ?_ | refine lGF ?_ | (apply L_go; refine lPG ?_) | refine lG ?_)))
      refine lAlloc ?_
      intro b w hw
      refine lStore ?_
      intro w hw
      repeat (first | (first | refine W_seq ?_ | refine W_block ?_ | refine W_region ?_ | refine W_skip ?_ | refine W_ret ?_ | refine W_exit ?_) | (first | refine L_nil ?_ | (apply L_plain; first | (apply L_go; refine lP ?_) | (apply L_mf; refine lMakeFunc ?_) | refine lY ?_) | (apply L_guarded; first | refine lGT ?_ | refine lGF ?_ | (apply L_go; refine lPG ?_) | refine lG ?_)))
      refine lCallv ?_
      refine (hp [_, _] j x w hxx hw).mono ?_
      rintro e w ⟨rfl, hw⟩
      have hw : Wd Γ (.blk b (.cells (enc x).toArray 35) :: .own (.slice a n c) 35 3 (cur.map enc) :: T (j + 1)) w := hw
      refine ⟨_, rfl, ?_⟩
      repeat (first | (first | refine W_seq ?_ | refine W_block ?_ | refine W_region ?_ | refine W_skip ?_ | refine W_ret ?_ | refine W_exit ?_) | (first | refine L_nil ?_ | (apply L_plain; first | (apply L_go; refine lP ?_) | (apply L_mf; refine lMakeFunc ?_) | refine lY ?_) | (apply L_guarded; first | refine lGT ?_ | refine lGF ?_ | (apply L_go; refine lPG ?_) | refine lG ?_)))
      refine W_cond rfl (fun h2 => ?_) (fun h2 => ?_)
      · have hpx : p x = false := by simpa using h2
        repeat (first | (first | refine W_seq ?_ | refine W_block ?_ | refine W_region ?_ | refine W_skip ?_ | refine W_ret ?_ | refine W_exit ?_) | (first | refine L_nil ?_ | (apply L_plain; first | (apply L_go; refine lP ?_) | (apply L_mf; refine lMakeFunc ?_) | refine lY ?_) | (apply L_guarded; first | refine lGT ?_ | refine lGF ?_ | (apply L_go; refine lPG ?_) | refine lG ?_)))
        refine lStoreE ?_
        intro w hw
        repeat (first | (first | refine W_seq ?_ | refine W_block ?_ | refine W_region ?_ | refine W_skip ?_ | refine W_ret ?_ | refine W_exit ?_) | (first | refine L_nil ?_ | (apply L_plain; first | (apply L_go; refine lP ?_) | (apply L_mf; refine lMakeFunc ?_) | refine lY ?_) | (apply L_guarded; first | refine lGT ?_ | refine lGF ?_ | (apply L_go; refine lPG ?_) | refine lG ?_)))
        refine ⟨μ - 1, by omega, i + 1, j + 1, cur.set i x, by omega, by omega, by simpa using hcl, ?_, fun k hk => ?_, ⟨rfl, rfl, rfl, rfl, trivial⟩, ?_⟩
        · have hij2 : i < cur.length := by omega
          rw [List.take_add_one, List.getElem?_set_self hij2, htk, List.filter_append, ← hcur, List.take_set_of_le (Nat.le_refl _)]
          simp [hpx]
        · rw [List.getElem?_set_ne (by omega)]
          exact hrest k (by omega)
        · rw [List.map_set]
          exact hw.drop
      · have hpx : p x = true := by simpa using h2
        repeat (first | (first | refine W_seq ?_ | refine W_block ?_ | refine W_region ?_ | refine W_skip ?_ | refine W_ret ?_ | refine W_exit ?_) | (first | refine L_nil ?_ | (apply L_plain; first | (apply L_go; refine lP ?_) | (apply L_mf; refine lMakeFunc ?_) | refine lY ?_) | (apply L_guarded; first | refine lGT ?_ | refine lGF ?_ | (apply L_go; refine lPG ?_) | refine lG ?_)))
        refine ⟨μ - 1, by omega, i, j + 1, cur, by omega, by omega, hcl, ?_, fun k hk => hrest k (by omega), ⟨rfl, rfl, rfl, rfl, trivial⟩, hw.drop⟩
        rw [hcur, htk, List.filter_append]
        simp [hpx]
    · have hjn : ¬ j < n := by simpa using h
      repeat (first | (first | refine W_seq ?_ | refine W_block ?_ | refine W_region ?_ | refine W_skip ?_ | refine W_ret ?_ | refine W_exit ?_) | (first | refine L_nil ?_ | (apply L_plain; first | (apply L_go; refine lP ?_) | (apply L_mf; refine lMakeFunc ?_) | refine lY ?_) | (apply L_guarded; first | refine lGT ?_ | refine lGF ?_ | (apply L_go; refine lPG ?_) | refine lG ?_)))
      have hw := Wd.own_take (i := 0) hw rfl (show i ≤ n by omega)
      refine lClear ?_
      intro w hw
      repeat (first | (first | refine W_seq ?_ | refine W_block ?_ | refine W_region ?_ | refine W_skip ?_ | refine W_ret ?_ | refine W_exit ?_) | (first | refine L_nil ?_ | (apply L_plain; first | (apply L_go; refine lP ?_) | (apply L_mf; refine lMakeFunc ?_) | refine lY ?_) | (apply L_guarded; first | refine lGT ?_ | refine lGF ?_ | (apply L_go; refine lPG ?_) | refine lG ?_)))
      refine ⟨_, rfl, _, rfl, ?_⟩
      have hj : j = xs.length := by omega
      rw [hj] at hw
      rw [hj, List.take_length] at hcur
      rw [← hcur, List.map_take]
      exact hw
end Go.Proofs.Ytekdbdhkpolooaa
