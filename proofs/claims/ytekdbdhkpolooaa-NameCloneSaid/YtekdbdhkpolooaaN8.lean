/- The list of waiters: copied, one taken out. -/
import Derived.Test.YtekdbdhkpolooaaN7
open Go Mk
namespace Go.Proofs.Ytekdbdhkpolooaa
set_option maxHeartbeats 4000000
attribute [local irreducible] Calls

theorem Clone_wtr {Γ : Gho} {S : List Res} {w : World} {v : Value} {xs : List Waiter} (hw : Wd Γ S w) (hr : RdS Γ S v 3 (xs.map enc)) (hN : xs.length ≤ 1000000) :
    Calls Try.prog 36 #[v] w fun e w' => ∃ v', e = .returned v' ∧ Wd Γ (.own v' 35 3 (xs.map enc) :: S) w' := by
  obtain ⟨a, n, c, rfl, hn, hnc, hc⟩ := hr.shape
  simp only [List.length_map] at hn
  refine calls_of_W Try.func36 rfl rfl ?_
  repeat (first | (first | refine W_seq ?_ | refine W_block ?_ | refine W_region ?_ | refine W_skip ?_ | refine W_ret ?_ | refine W_exit ?_) | (first | refine L_nil ?_ | (apply L_plain; first | (apply L_go; refine lP ?_) | (apply L_mf; refine lMakeFunc ?_) | refine lY ?_) | (apply L_guarded; first | refine lGT ?_ | refine lGF ?_ | (apply L_go; refine lPG ?_) | refine lG ?_)))
  refine W_cond rfl (fun h => ?_) (fun h => ?_)
  · repeat (first | (first | refine W_seq ?_ | refine W_block ?_ | refine W_region ?_ | refine W_skip ?_ | refine W_ret ?_ | refine W_exit ?_) | (first | refine L_nil ?_ | (apply L_plain; first | (apply L_go; refine lP ?_) | (apply L_mf; refine lMakeFunc ?_) | refine lY ?_) | (apply L_guarded; first | refine lGT ?_ | refine lGF ?_ | (apply L_go; refine lPG ?_) | refine lG ?_)))
    have hx : xs = [] := by
      cases a with
      | none =>
        cases xs with
        | nil => rfl
        | cons x xs => have := (hr.rd hw).at_ (by simp); cases this
      | some a => cases h
    subst hx
    exact ⟨_, rfl, _, rfl, Wd.addNil hw⟩
  · repeat (first | (first | refine W_seq ?_ | refine W_block ?_ | refine W_region ?_ | refine W_skip ?_ | refine W_ret ?_ | refine W_exit ?_) | (first | refine L_nil ?_ | (apply L_plain; first | (apply L_go; refine lP ?_) | (apply L_mf; refine lMakeFunc ?_) | refine lY ?_) | (apply L_guarded; first | refine lGT ?_ | refine lGF ?_ | (apply L_go; refine lPG ?_) | refine lG ?_)))
    refine lBuildSlice [] ?_
    intro a2 w hw
    repeat (first | (first | refine W_seq ?_ | refine W_block ?_ | refine W_region ?_ | refine W_skip ?_ | refine W_ret ?_ | refine W_exit ?_) | (first | refine L_nil ?_ | (apply L_plain; first | (apply L_go; refine lP ?_) | (apply L_mf; refine lMakeFunc ?_) | refine lY ?_) | (apply L_guarded; first | refine lGT ?_ | refine lGF ?_ | (apply L_go; refine lPG ?_) | refine lG ?_)))
    refine lApp (i := 0) (rows2 := xs.map enc) ?_ ((RdS.cons hr).rd hw) rfl rfl hw rfl (encs_one xs) (by simpa using hn)
    intro v' w hw
    repeat (first | (first | refine W_seq ?_ | refine W_block ?_ | refine W_region ?_ | refine W_skip ?_ | refine W_ret ?_ | refine W_exit ?_) | (first | refine L_nil ?_ | (apply L_plain; first | (apply L_go; refine lP ?_) | (apply L_mf; refine lMakeFunc ?_) | refine lY ?_) | (apply L_guarded; first | refine lGT ?_ | refine lGF ?_ | (apply L_go; refine lPG ?_) | refine lG ?_)))
    exact ⟨_, rfl, v', rfl, by simpa using hw⟩

theorem Delete_wtr {Γ : Gho} {S : List Res} {w : World} {v : Value} {xs : List Waiter} (k : Nat) (hw : Wd Γ (.own v 35 3 (xs.map enc) :: S) w) (hk : k < xs.length) (hN : xs.length ≤ 1000000) :
    Calls Try.prog 31 #[v, .int .i64 k, .int .i64 (k + 1 : Nat)] w fun e w' => ∃ v', e = .returned v' ∧ Wd Γ (.own v' 35 3 ((xs.eraseIdx k).map enc) :: S) w' := by
  obtain ⟨a, n, c, rfl, hn, hnc, hc⟩ := hw.own_shape (i := 0) rfl
  simp only [List.length_map] at hn
  refine calls_of_W Try.func31 rfl rfl ?_
  repeat (first | (first | refine W_seq ?_ | refine W_block ?_ | refine W_region ?_ | refine W_skip ?_ | refine W_ret ?_ | refine W_exit ?_) | (first | refine L_nil ?_ | (apply L_plain; first | (apply L_go; refine lP ?_) | (apply L_mf; refine lMakeFunc ?_) | refine lY ?_) | (apply L_guarded; first | refine lGT ?_ | refine lGF ?_ | (apply L_go; refine lPG ?_) | refine lG ?_)))
  refine W_cond_false (by simp [ev, putO, upd]; omega) ?_
  repeat (first | (first | refine W_seq ?_ | refine W_block ?_ | refine W_region ?_ | refine W_skip ?_ | refine W_ret ?_ | refine W_exit ?_) | (first | refine L_nil ?_ | (apply L_plain; first | (apply L_go; refine lP ?_) | (apply L_mf; refine lMakeFunc ?_) | refine lY ?_) | (apply L_guarded; first | refine lGT ?_ | refine lGF ?_ | (apply L_go; refine lPG ?_) | refine lG ?_)))
  refine W_mix1 [] (.own (.slice a n c) 35 3 (xs.map enc) :: S) [[],[],[],[],[],[],[0],[]] [[],[],[],[],[],[],[0],[]] hw ?_
  repeat (first | refine mY ?_ | refine mP ?_ | refine mEndAt ?_ | refine mEnd0 ?_ | refine mEnd ?_)
  refine mM (v := .slice a (k + (n - (k + 1))) c) (fun _ => .own (.slice a (k + (n - (k + 1))) c) 35 3 ((xs.eraseIdx k).map enc) :: S) (fun Y w g hw => ?_) ?_
  · have hrd := (Wd.own_rd (i := 0) hw rfl).cut (c := c) (by simp; omega) (k + 1) (by simp; omega)
    have hw2 := Wd.own_take (i := 0) (m := k) hw rfl (by omega)
    refine s_appendF (i := 0) hw2 rfl rfl rfl hrd (by simp; omega) (fun u hu => ?_) (by omega) (by omega) fun v' w' hfit hw' => ?_
    · have := List.all_eq_true.1 (encs_one (xs.drop (k + 1))) u
      rw [List.map_drop] at this
      exact this hu
    · have hv := hfit (by show k + (n - (k + 1)) ≤ c; omega)
      have hv : v' = .slice a (k + (n - (k + 1))) c := hv
      subst hv
      refine ⟨?_, fun _ => rfl⟩
      have he : (xs.map enc).take k ++ (xs.map enc).drop (k + 1) = (xs.eraseIdx k).map enc := by
        rw [← List.map_take, ← List.map_drop, ← List.map_append, List.eraseIdx_eq_take_drop_succ]
      rw [he] at hw'
      exact hw'
  repeat (first | refine mY ?_ | refine mP ?_ | refine mEndAt ?_ | refine mEnd0 ?_ | refine mEnd ?_)
  intro w hw
  have hw : Wd Γ (.own (.slice a (k + (n - (k + 1))) c) 35 3 ((xs.eraseIdx k).map enc) :: S ++ []) w := hw
  rw [List.append_nil] at hw
  repeat (first | (first | refine W_seq ?_ | refine W_block ?_ | refine W_region ?_ | refine W_skip ?_ | refine W_ret ?_ | refine W_exit ?_) | (first | refine L_nil ?_ | (apply L_plain; first | (apply L_go; refine lP ?_) | (apply L_mf; refine lMakeFunc ?_) | refine lY ?_) | (apply L_guarded; first | refine lGT ?_ | refine lGF ?_ | (apply L_go; refine lPG ?_) | refine lG ?_)))
  refine lClear ?_
  intro w hw
  repeat (first | (first | refine W_seq ?_ | refine W_block ?_ | refine W_region ?_ | refine W_skip ?_ | refine W_ret ?_ | refine W_exit ?_) | (first | refine L_nil ?_ | (apply L_plain; first | (apply L_go; refine lP ?_) | (apply L_mf; refine lMakeFunc ?_) | refine lY ?_) | (apply L_guarded; first | refine lGT ?_ | refine lGF ?_ | (apply L_go; refine lPG ?_) | refine lG ?_)))
  exact ⟨_, rfl, _, rfl, hw⟩

theorem Waiters_any (Γ : Gho) (S : List Res) (w : World) (b bm : Nat) (vs : Value) (m : List (ByteArray × Service)) (ws : List Waiter) (hws : ws.length ≤ 64) (hw : Wd Γ (srvL b bm vs m ws ++ S) w) :
    Calls Try.prog 20 #[.pointer (some ⟨b, 0, none⟩)] w fun e w' => ∃ v, e = .returned v ∧ Wd Γ (.own v 35 3 (ws.map enc) :: (srvL b bm vs m ws ++ S)) w' := by
  unfold srvL at *
  obtain ⟨a, n, c, rfl, hn, hnc, hc⟩ := hw.own_shape (i := 2) rfl
  refine calls_of_W Try.func20 rfl rfl ?_
  repeat (first | (first | refine W_seq ?_ | refine W_block ?_ | refine W_region ?_ | refine W_skip ?_ | refine W_ret ?_ | refine W_exit ?_) | (first | refine L_nil ?_ | (apply L_plain; first | (apply L_go; refine lP ?_) | (apply L_mf; refine lMakeFunc ?_) | refine lY ?_) | (apply L_guarded; first | refine lGT ?_ | refine lGF ?_ | (apply L_go; refine lPG ?_) | refine lG ?_)))
  refine lCall ?_
  refine (Clone_wtr hw (RdS.own (i := 2) hw rfl) (by omega)).mono ?_
  rintro e w ⟨v, rfl, hw⟩
  refine ⟨_, rfl, ?_⟩
  repeat (first | (first | refine W_seq ?_ | refine W_block ?_ | refine W_region ?_ | refine W_skip ?_ | refine W_ret ?_ | refine W_exit ?_) | (first | refine L_nil ?_ | (apply L_plain; first | (apply L_go; refine lP ?_) | (apply L_mf; refine lMakeFunc ?_) | refine lY ?_) | (apply L_guarded; first | refine lGT ?_ | refine lGF ?_ | (apply L_go; refine lPG ?_) | refine lG ?_)))
  exact ⟨_, rfl, _, rfl, hw⟩
end Go.Proofs.Ytekdbdhkpolooaa
