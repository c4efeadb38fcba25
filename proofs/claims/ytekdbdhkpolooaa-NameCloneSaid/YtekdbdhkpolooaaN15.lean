/- The reference's name server: taking off, cancelling, waiting. -/
import Derived.Test.YtekdbdhkpolooaaN14
open Go Mk
namespace Go.Proofs.Ytekdbdhkpolooaa
set_option maxHeartbeats 2000000
attribute [local irreducible] Calls

def ruErr (ss : List Service) (name : ByteArray) (core : Int) : Int := match rGet ss name with | none => 17 | some v => if v.Core = core then 0 else 8
def ruS (ss : List Service) (name : ByteArray) (core : Int) : List Service := if ruErr ss name core = 0 then match ss.findIdx? (isN name) with | some k => ss.eraseIdx k | none => ss else ss
theorem erase_rows {α : Type} [GoT α] (xs : List α) (k : Nat) : (xs.map enc).take k ++ (xs.map enc).drop (k + 1) = (xs.eraseIdx k).map enc := by
  rw [← List.map_take, ← List.map_drop, ← List.map_append, List.eraseIdx_eq_take_drop_succ]
theorem drop_one {α : Type} [GoT α] (xs : List α) (k : Nat) : ∀ u ∈ ((xs.map enc).drop k).flatten, u.oneCell' = true := fun u hu => by
  have := List.all_eq_true.1 (encs_one (xs.drop k)) u
  rw [List.map_drop] at this
  exact this hu

theorem rUnregister_any (Γ : Gho) (S : List Res) (w : World) (b : Nat) (v1 v2 : Value) (ss : List Service) (ws : List Waiter) (name : ByteArray) (core : Int) (hss : ss.length ≤ 64) (hw : Wd Γ (refL b v1 v2 ss ws ++ S) w) :
    Calls Try.prog 39 #[.pointer (some ⟨b, 0, none⟩), .string name, .int .i64 core] w fun e w' => ∃ v1', e = .returned (.int .i64 (ruErr ss name core)) ∧ Wd Γ (refL b v1' v2 (ruS ss name core) ws ++ S) w' := by
  refine calls_of_W Try.func39 rfl rfl ?_
  repeat (first | (first | refine W_seq ?_ | refine W_block ?_ | refine W_region ?_ | refine W_skip ?_ | refine W_ret ?_ | refine W_exit ?_) | (first | refine L_nil ?_ | (apply L_plain; first | (apply L_go; refine lP ?_) | (apply L_mf; refine lMakeFunc ?_) | refine lY ?_) | (apply L_guarded; first | refine lGT ?_ | refine lGF ?_ | (apply L_go; refine lPG ?_) | refine lG ?_)))
  refine lCall ?_
  refine (rAt_any Γ S w b v1 v2 ss ws name hw).mono ?_
  rintro e w ⟨rfl, hw⟩
  refine ⟨_, rfl, ?_⟩
  unfold refL at hw
  obtain ⟨a, n, c, rfl, hn, hnc, hc⟩ := hw.own_shape (i := 1) rfl
  simp only [List.length_map] at hn
  cases hf : ss.findIdx? (isN name) with
  | none =>
    have hE : ruErr ss name core = 17 := by simp [ruErr, rGet, hf]
    repeat (first | (first | refine W_seq ?_ | refine W_block ?_ | refine W_region ?_ | refine W_skip ?_ | refine W_ret ?_ | refine W_exit ?_) | (first | refine L_nil ?_ | (apply L_plain; first | (apply L_go; refine lP ?_) | (apply L_mf; refine lMakeFunc ?_) | refine lY ?_) | (apply L_guarded; first | refine lGT ?_ | refine lGF ?_ | (apply L_go; refine lPG ?_) | refine lG ?_)))
    refine W_cond rfl (fun _ => ?_) (fun h => absurd h (by simp [ixZ]))
    repeat (first | (first | refine W_seq ?_ | refine W_block ?_ | refine W_region ?_ | refine W_skip ?_ | refine W_ret ?_ | refine W_exit ?_) | (first | refine L_nil ?_ | (apply L_plain; first | (apply L_go; refine lP ?_) | (apply L_mf; refine lMakeFunc ?_) | refine lY ?_) | (apply L_guarded; first | refine lGT ?_ | refine lGF ?_ | (apply L_go; refine lPG ?_) | refine lG ?_)))
    refine ⟨_, rfl, .slice a n c, ret_i rfl hE.symm, ?_⟩
    rw [show ruS ss name core = ss from by simp [ruS, hE]]
    exact hw
  | some k =>
    have hk := findIdx_lt hf
    obtain ⟨x, hx⟩ := get_lt (l := ss) (k := k) (by omega)
    have hz : ixZ (some k) = (k : Int) := rfl
    repeat (first | (first | refine W_seq ?_ | refine W_block ?_ | refine W_region ?_ | refine W_skip ?_ | refine W_ret ?_ | refine W_exit ?_) | (first | refine L_nil ?_ | (apply L_plain; first | (apply L_go; refine lP ?_) | (apply L_mf; refine lMakeFunc ?_) | refine lY ?_) | (apply L_guarded; first | refine lGT ?_ | refine lGF ?_ | (apply L_go; refine lPG ?_) | refine lG ?_)))
    refine W_cond rfl (fun h => absurd h (by simp [hz])) (fun _ => ?_)
    rw [hz]
    repeat (first | (first | refine W_seq ?_ | refine W_block ?_ | refine W_region ?_ | refine W_skip ?_ | refine W_ret ?_ | refine W_exit ?_) | (first | refine L_nil ?_ | (apply L_plain; first | (apply L_go; refine lP ?_) | (apply L_mf; refine lMakeFunc ?_) | refine lY ?_) | (apply L_guarded; first | refine lGT ?_ | refine lGF ?_ | (apply L_go; refine lPG ?_) | refine lG ?_)))
    refine W_cond rfl (fun h => ?_) (fun h => ?_)
    · have h : ¬ x.Core = core := of_decide_eq_true h
      have hE : ruErr ss name core = 8 := by simp [ruErr, rGet, hf, hx, h]
      repeat (first | (first | refine W_seq ?_ | refine W_block ?_ | refine W_region ?_ | refine W_skip ?_ | refine W_ret ?_ | refine W_exit ?_) | (first | refine L_nil ?_ | (apply L_plain; first | (apply L_go; refine lP ?_) | (apply L_mf; refine lMakeFunc ?_) | refine lY ?_) | (apply L_guarded; first | refine lGT ?_ | refine lGF ?_ | (apply L_go; refine lPG ?_) | refine lG ?_)))
      refine ⟨_, rfl, .slice a n c, ret_i rfl hE.symm, ?_⟩
      rw [show ruS ss name core = ss from by simp [ruS, hE]]
      exact hw
    · have h : x.Core = core := by simpa using h
      have hE : ruErr ss name core = 0 := by simp [ruErr, rGet, hf, hx, h]
      repeat (first | (first | refine W_seq ?_ | refine W_block ?_ | refine W_region ?_ | refine W_skip ?_ | refine W_ret ?_ | refine W_exit ?_) | (first | refine L_nil ?_ | (apply L_plain; first | (apply L_go; refine lP ?_) | (apply L_mf; refine lMakeFunc ?_) | refine lY ?_) | (apply L_guarded; first | refine lGT ?_ | refine lGF ?_ | (apply L_go; refine lPG ?_) | refine lG ?_)))
      refine W_mix1 [] _ [[],[],[],[],[],[],[],[],[],[],[],[],[],[],[0],[],[],[0]] [[],[],[],[],[0],[],[],[],[],[],[0],[],[],[],[0],[],[],[0]] hw ?_
      repeat (first | refine mY ?_ | refine mP ?_ | refine mEndAt ?_ | refine mEnd0 ?_ | refine mEnd ?_)
      refine mM (v := .slice a (k + (n - (k + 1))) c) (fun _ => .blk b (.cells #[.slice a n c, v2] 57) :: .own (.slice a (k + (n - (k + 1))) c) 31 4 ((ss.eraseIdx k).map enc) :: .own v2 35 3 (ws.map enc) :: S) (fun Y w g hw => ?_) ?_
      · have hrd := (Wd.own_rd (i := 1) hw rfl).cut (c := c) (by simp; omega) (k + 1) (by simp; omega)
        have hw2 := Wd.own_take (i := 1) (m := k) hw rfl (by omega)
        refine s_appendF (i := 1) hw2 rfl rfl rfl hrd (by simp; omega) (drop_one ss (k + 1)) (by omega) (by omega) fun v' w' hfit hw' => ?_
        have hv : v' = .slice a (k + (n - (k + 1))) c := hfit (by show k + (n - (k + 1)) ≤ c; omega)
        subst hv
        rw [erase_rows] at hw'
        exact ⟨hw', fun _ => rfl⟩
      repeat (first | refine mY ?_ | refine mP ?_ | refine mEndAt ?_ | refine mEnd0 ?_ | refine mEnd ?_)
      refine mStoreC ?_
      repeat (first | refine mY ?_ | refine mP ?_ | refine mEndAt ?_ | refine mEnd0 ?_ | refine mEnd ?_)
      intro w hw
      have hw := Wd.left (S := Res.blk _ _ :: _) hw
      repeat (first | (first | refine W_seq ?_ | refine W_block ?_ | refine W_region ?_ | refine W_skip ?_ | refine W_ret ?_ | refine W_exit ?_) | (first | refine L_nil ?_ | (apply L_plain; first | (apply L_go; refine lP ?_) | (apply L_mf; refine lMakeFunc ?_) | refine lY ?_) | (apply L_guarded; first | refine lGT ?_ | refine lGF ?_ | (apply L_go; refine lPG ?_) | refine lG ?_)))
      refine ⟨_, rfl, .slice a (k + (n - (k + 1))) c, ret_i rfl hE.symm, ?_⟩
      rw [show ruS ss name core = ss.eraseIdx k from by simp [ruS, hE, hf]]
      exact hw

theorem rCancel_any (Γ : Gho) (S : List Res) (w : World) (b : Nat) (v1 v2 : Value) (ss : List Service) (ws : List Waiter) (token core : Int) (hws : ws.length ≤ 64) (hw : Wd Γ (refL b v1 v2 ss ws ++ S) w) :
    Calls Try.prog 43 #[.pointer (some ⟨b, 0, none⟩), .int .i64 token, .int .i64 core] w fun e w' => ∃ v2', e = .returned (.int .i64 (caErr ws token core)) ∧ Wd Γ (refL b v1 v2' ss (caW ws token core) ++ S) w' := by
  refine calls_of_W Try.func43 rfl rfl ?_
  repeat (first | (first | refine W_seq ?_ | refine W_block ?_ | refine W_region ?_ | refine W_skip ?_ | refine W_ret ?_ | refine W_exit ?_) | (first | refine L_nil ?_ | (apply L_plain; first | (apply L_go; refine lP ?_) | (apply L_mf; refine lMakeFunc ?_) | refine lY ?_) | (apply L_guarded; first | refine lGT ?_ | refine lGF ?_ | (apply L_go; refine lPG ?_) | refine lG ?_)))
  refine lCall ?_
  refine (rWaiter_any Γ S w b v1 v2 ss ws token core hw).mono ?_
  rintro e w ⟨rfl, hw⟩
  refine ⟨_, rfl, ?_⟩
  unfold refL at hw
  obtain ⟨a, n, c, rfl, hn, hnc, hc⟩ := hw.own_shape (i := 2) rfl
  simp only [List.length_map] at hn
  cases hf : ws.findIdx? (isW token core) with
  | none =>
    have hE : caErr ws token core = 17 := by simp [caErr, hf]
    repeat (first | (first | refine W_seq ?_ | refine W_block ?_ | refine W_region ?_ | refine W_skip ?_ | refine W_ret ?_ | refine W_exit ?_) | (first | refine L_nil ?_ | (apply L_plain; first | (apply L_go; refine lP ?_) | (apply L_mf; refine lMakeFunc ?_) | refine lY ?_) | (apply L_guarded; first | refine lGT ?_ | refine lGF ?_ | (apply L_go; refine lPG ?_) | refine lG ?_)))
    refine W_cond rfl (fun _ => ?_) (fun h => absurd h (by simp [ixZ]))
    repeat (first | (first | refine W_seq ?_ | refine W_block ?_ | refine W_region ?_ | refine W_skip ?_ | refine W_ret ?_ | refine W_exit ?_) | (first | refine L_nil ?_ | (apply L_plain; first | (apply L_go; refine lP ?_) | (apply L_mf; refine lMakeFunc ?_) | refine lY ?_) | (apply L_guarded; first | refine lGT ?_ | refine lGF ?_ | (apply L_go; refine lPG ?_) | refine lG ?_)))
    refine ⟨_, rfl, .slice a n c, ret_i rfl hE.symm, ?_⟩
    rw [show caW ws token core = ws from by simp [caW, hf]]
    exact hw
  | some k =>
    have hk := findIdx_lt hf
    have hE : caErr ws token core = 0 := by simp [caErr, hf]
    have hz : ixZ (some k) = (k : Int) := rfl
    repeat (first | (first | refine W_seq ?_ | refine W_block ?_ | refine W_region ?_ | refine W_skip ?_ | refine W_ret ?_ | refine W_exit ?_) | (first | refine L_nil ?_ | (apply L_plain; first | (apply L_go; refine lP ?_) | (apply L_mf; refine lMakeFunc ?_) | refine lY ?_) | (apply L_guarded; first | refine lGT ?_ | refine lGF ?_ | (apply L_go; refine lPG ?_) | refine lG ?_)))
    refine W_cond rfl (fun h => absurd h (by simp [hz])) (fun _ => ?_)
    rw [hz]
    repeat (first | (first | refine W_seq ?_ | refine W_block ?_ | refine W_region ?_ | refine W_skip ?_ | refine W_ret ?_ | refine W_exit ?_) | (first | refine L_nil ?_ | (apply L_plain; first | (apply L_go; refine lP ?_) | (apply L_mf; refine lMakeFunc ?_) | refine lY ?_) | (apply L_guarded; first | refine lGT ?_ | refine lGF ?_ | (apply L_go; refine lPG ?_) | refine lG ?_)))
    refine W_mix1 [] _ [[],[],[],[],[],[],[],[],[],[],[],[],[],[],[0],[],[],[0]] [[],[],[],[],[0],[],[],[],[],[],[0],[],[],[],[0],[],[],[0]] hw ?_
    repeat (first | refine mY ?_ | refine mP ?_ | refine mEndAt ?_ | refine mEnd0 ?_ | refine mEnd ?_)
    refine mM (v := .slice a (k + (n - (k + 1))) c) (fun _ => .blk b (.cells #[v1, .slice a n c] 57) :: .own v1 31 4 (ss.map enc) :: .own (.slice a (k + (n - (k + 1))) c) 35 3 ((ws.eraseIdx k).map enc) :: S) (fun Y w g hw => ?_) ?_
    · have hrd := (Wd.own_rd (i := 2) hw rfl).cut (c := c) (by simp; omega) (k + 1) (by simp; omega)
      have hw2 := Wd.own_take (i := 2) (m := k) hw rfl (by omega)
      refine s_appendF (i := 2) hw2 rfl rfl rfl hrd (by simp; omega) (drop_one ws (k + 1)) (by omega) (by omega) fun v' w' hfit hw' => ?_
      have hv : v' = .slice a (k + (n - (k + 1))) c := hfit (by show k + (n - (k + 1)) ≤ c; omega)
      subst hv
      rw [erase_rows] at hw'
      exact ⟨hw', fun _ => rfl⟩
    repeat (first | refine mY ?_ | refine mP ?_ | refine mEndAt ?_ | refine mEnd0 ?_ | refine mEnd ?_)
    refine mStoreC ?_
    repeat (first | refine mY ?_ | refine mP ?_ | refine mEndAt ?_ | refine mEnd0 ?_ | refine mEnd ?_)
    intro w hw
    have hw := Wd.left (S := Res.blk _ _ :: _) hw
    repeat (first | (first | refine W_seq ?_ | refine W_block ?_ | refine W_region ?_ | refine W_skip ?_ | refine W_ret ?_ | refine W_exit ?_) | (first | refine L_nil ?_ | (apply L_plain; first | (apply L_go; refine lP ?_) | (apply L_mf; refine lMakeFunc ?_) | refine lY ?_) | (apply L_guarded; first | refine lGT ?_ | refine lGF ?_ | (apply L_go; refine lPG ?_) | refine lG ?_)))
    refine ⟨_, rfl, .slice a (k + (n - (k + 1))) c, ret_i rfl hE.symm, ?_⟩
    rw [show caW ws token core = ws.eraseIdx k from by simp [caW, hf]]
    exact hw
end Go.Proofs.Ytekdbdhkpolooaa
