/- A new server; look-ups; a service is taken off. -/
import Derived.Test.YtekdbdhkpolooaaN6
open Go Mk
namespace Go.Proofs.Ytekdbdhkpolooaa
set_option maxHeartbeats 4000000
attribute [local irreducible] Calls

theorem New_any (Γ : Gho) (S : List Res) (w : World) (hw : Wd Γ S w) :
    Calls Try.prog 7 #[] w fun e w' => ∃ b bm, e = .returned (.pointer (some ⟨b, 0, none⟩)) ∧ Wd Γ (srvL b bm (.slice none 0 0) [] [] ++ S) w' := by
  refine calls_of_W Try.func7 rfl rfl ?_
  repeat (first | (first | refine W_seq ?_ | refine W_block ?_ | refine W_region ?_ | refine W_skip ?_ | refine W_ret ?_ | refine W_exit ?_) | (first | refine L_nil ?_ | (apply L_plain; first | (apply L_go; refine lP ?_) | (apply L_mf; refine lMakeFunc ?_) | refine lY ?_) | (apply L_guarded; first | refine lGT ?_ | refine lGF ?_ | (apply L_go; refine lPG ?_) | refine lG ?_)))
  refine lMakeMapS svcV ?_
  intro bm w hw
  repeat (first | (first | refine W_seq ?_ | refine W_block ?_ | refine W_region ?_ | refine W_skip ?_ | refine W_ret ?_ | refine W_exit ?_) | (first | refine L_nil ?_ | (apply L_plain; first | (apply L_go; refine lP ?_) | (apply L_mf; refine lMakeFunc ?_) | refine lY ?_) | (apply L_guarded; first | refine lGT ?_ | refine lGF ?_ | (apply L_go; refine lPG ?_) | refine lG ?_)))
  refine lBox ?_
  intro b w hw
  repeat (first | (first | refine W_seq ?_ | refine W_block ?_ | refine W_region ?_ | refine W_skip ?_ | refine W_ret ?_ | refine W_exit ?_) | (first | refine L_nil ?_ | (apply L_plain; first | (apply L_go; refine lP ?_) | (apply L_mf; refine lMakeFunc ?_) | refine lY ?_) | (apply L_guarded; first | refine lGT ?_ | refine lGF ?_ | (apply L_go; refine lPG ?_) | refine lG ?_)))
  refine ⟨_, rfl, b, bm, rfl, ?_⟩
  have hw := (Wd.addNil (a := none) (E := 35) (sz := 3) hw).pull (i := 2) rfl
  exact hw.pull (i := 2) rfl

def unErr (m : List (ByteArray × Service)) (name : ByteArray) (core : Int) : Int := match aGet m name with | none => 17 | some v => if v.Core = core then 0 else 8
def unM (m : List (ByteArray × Service)) (name : ByteArray) (core : Int) : List (ByteArray × Service) := if unErr m name core = 0 then aDel m name else m

theorem Unregister_any (Γ : Gho) (S : List Res) (w : World) (b bm : Nat) (vs : Value) (m : List (ByteArray × Service)) (ws : List Waiter) (name : ByteArray) (core : Int) (hw : Wd Γ (srvL b bm vs m ws ++ S) w) :
    Calls Try.prog 15 #[.pointer (some ⟨b, 0, none⟩), .string name, .int .i64 core] w fun e w' => e = .returned (.int .i64 (unErr m name core)) ∧ Wd Γ (srvL b bm vs (unM m name core) ws ++ S) w' := by
  unfold srvL at *
  refine calls_of_W Try.func15 rfl rfl ?_
  repeat (first | (first | refine W_seq ?_ | refine W_block ?_ | refine W_region ?_ | refine W_skip ?_ | refine W_ret ?_ | refine W_exit ?_) | (first | refine L_nil ?_ | (apply L_plain; first | (apply L_go; refine lP ?_) | (apply L_mf; refine lMakeFunc ?_) | refine lY ?_) | (apply L_guarded; first | refine lGT ?_ | refine lGF ?_ | (apply L_go; refine lPG ?_) | refine lG ?_)))
  refine lAlloc ?_
  intro be w hw
  refine lStore ?_
  intro w hw
  repeat (first | (first | refine W_seq ?_ | refine W_block ?_ | refine W_region ?_ | refine W_skip ?_ | refine W_ret ?_ | refine W_exit ?_) | (first | refine L_nil ?_ | (apply L_plain; first | (apply L_go; refine lP ?_) | (apply L_mf; refine lMakeFunc ?_) | refine lY ?_) | (apply L_guarded; first | refine lGT ?_ | refine lGF ?_ | (apply L_go; refine lPG ?_) | refine lG ?_)))
  refine W_cond rfl (fun h1 => ?_) (fun h1 => ?_)
  · repeat (first | (first | refine W_seq ?_ | refine W_block ?_ | refine W_region ?_ | refine W_skip ?_ | refine W_ret ?_ | refine W_exit ?_) | (first | refine L_nil ?_ | (apply L_plain; first | (apply L_go; refine lP ?_) | (apply L_mf; refine lMakeFunc ?_) | refine lY ?_) | (apply L_guarded; first | refine lGT ?_ | refine lGF ?_ | (apply L_go; refine lPG ?_) | refine lG ?_)))
    have h2 : aGet m name = none := by cases hg : aGet m name <;> simp [hg] at h1 ⊢
    refine ⟨_, rfl, ret_i rfl (by simp [unErr, h2]), ?_⟩
    rw [show unM m name core = m from by simp [unM, unErr, h2]]
    exact hw.drop
  obtain ⟨v, hv⟩ : ∃ v, aGet m name = some v := by cases hg : aGet m name <;> simp [hg] at h1 ⊢
  rw [hv] at hw
  repeat (first | (first | refine W_seq ?_ | refine W_block ?_ | refine W_region ?_ | refine W_skip ?_ | refine W_ret ?_ | refine W_exit ?_) | (first | refine L_nil ?_ | (apply L_plain; first | (apply L_go; refine lP ?_) | (apply L_mf; refine lMakeFunc ?_) | refine lY ?_) | (apply L_guarded; first | refine lGT ?_ | refine lGF ?_ | (apply L_go; refine lPG ?_) | refine lG ?_)))
  refine W_cond rfl (fun h2 => ?_) (fun h2 => ?_)
  · repeat (first | (first | refine W_seq ?_ | refine W_block ?_ | refine W_region ?_ | refine W_skip ?_ | refine W_ret ?_ | refine W_exit ?_) | (first | refine L_nil ?_ | (apply L_plain; first | (apply L_go; refine lP ?_) | (apply L_mf; refine lMakeFunc ?_) | refine lY ?_) | (apply L_guarded; first | refine lGT ?_ | refine lGF ?_ | (apply L_go; refine lPG ?_) | refine lG ?_)))
    have h2 : ¬ v.Core = core := of_decide_eq_true h2
    refine ⟨_, rfl, ret_i rfl (by simp [unErr, hv, h2]), ?_⟩
    rw [show unM m name core = m from by simp [unM, unErr, hv, h2]]
    exact hw.drop
  have h2 : v.Core = core := by simpa using h2
  repeat (first | (first | refine W_seq ?_ | refine W_block ?_ | refine W_region ?_ | refine W_skip ?_ | refine W_ret ?_ | refine W_exit ?_) | (first | refine L_nil ?_ | (apply L_plain; first | (apply L_go; refine lP ?_) | (apply L_mf; refine lMakeFunc ?_) | refine lY ?_) | (apply L_guarded; first | refine lGT ?_ | refine lGF ?_ | (apply L_go; refine lPG ?_) | refine lG ?_)))
  refine lDelS ?_
  intro w hw
  repeat (first | (first | refine W_seq ?_ | refine W_block ?_ | refine W_region ?_ | refine W_skip ?_ | refine W_ret ?_ | refine W_exit ?_) | (first | refine L_nil ?_ | (apply L_plain; first | (apply L_go; refine lP ?_) | (apply L_mf; refine lMakeFunc ?_) | refine lY ?_) | (apply L_guarded; first | refine lGT ?_ | refine lGF ?_ | (apply L_go; refine lPG ?_) | refine lG ?_)))
  refine ⟨_, rfl, ret_i rfl (by simp [unErr, hv, h2]), ?_⟩
  rw [show unM m name core = aDel m name from by simp [unM, unErr, hv, h2]]
  exact hw.drop

def lkErr (m : List (ByteArray × Service)) (name : ByteArray) : Int := if (aGet m name).isSome then 0 else 17
theorem Lookup_any (Γ : Gho) (S : List Res) (w : World) (b bm : Nat) (vs : Value) (m : List (ByteArray × Service)) (ws : List Waiter) (name : ByteArray) (hw : Wd Γ (srvL b bm vs m ws ++ S) w) :
    Calls Try.prog 40 #[.pointer (some ⟨b, 0, none⟩), .string name] w fun e w' => e = .returned (.tuple #[svcV ((aGet m name).getD default), .int .i64 (lkErr m name)]) ∧ Wd Γ (srvL b bm vs m ws ++ S) w' := by
  unfold srvL at *
  refine calls_of_WC Try.func40 rfl rfl ?_
  repeat (first | (first | refine W_seq ?_ | refine W_block ?_ | refine W_region ?_ | refine W_skip ?_ | refine W_ret ?_ | refine W_exit ?_) | (first | refine L_nil ?_ | (apply L_plain; first | (apply L_go; refine lP ?_) | (apply L_mf; refine lMakeFunc ?_) | refine lY ?_) | (apply L_guarded; first | refine lGT ?_ | refine lGF ?_ | (apply L_go; refine lPG ?_) | refine lG ?_)) | (refine lAlloc ?_; intro _ w hw) | (refine lBox ?_; intro _ w hw) | (refine lStore ?_; intro w hw))
  refine W_cond rfl (fun h1 => ?_) (fun h1 => ?_)
  · repeat (first | (first | refine W_seq ?_ | refine W_block ?_ | refine W_region ?_ | refine W_skip ?_ | refine W_ret ?_ | refine W_exit ?_) | (first | refine L_nil ?_ | (apply L_plain; first | (apply L_go; refine lP ?_) | (apply L_mf; refine lMakeFunc ?_) | refine lY ?_) | (apply L_guarded; first | refine lGT ?_ | refine lGF ?_ | (apply L_go; refine lPG ?_) | refine lG ?_)) | (refine lAlloc ?_; intro _ w hw) | (refine lBox ?_; intro _ w hw) | (refine lStore ?_; intro w hw))
    have h2 : aGet m name = none := by cases hg : aGet m name <;> simp [hg] at h1 ⊢
    refine ⟨[svcV ((aGet m name).getD default), .int .i64 (lkErr m name)], ⟨?_, ?_, trivial⟩, rfl, hw.drop.drop⟩
    · rw [h2]; exact resC (i := 1) hw rfl rfl rfl
    · simp [lkErr, h2]; rfl
  · have h2 : (aGet m name).isSome = true := by simpa using h1
    repeat (first | (first | refine W_seq ?_ | refine W_block ?_ | refine W_region ?_ | refine W_skip ?_ | refine W_ret ?_ | refine W_exit ?_) | (first | refine L_nil ?_ | (apply L_plain; first | (apply L_go; refine lP ?_) | (apply L_mf; refine lMakeFunc ?_) | refine lY ?_) | (apply L_guarded; first | refine lGT ?_ | refine lGF ?_ | (apply L_go; refine lPG ?_) | refine lG ?_)) | (refine lAlloc ?_; intro _ w hw) | (refine lBox ?_; intro _ w hw) | (refine lStore ?_; intro w hw))
    refine ⟨[svcV ((aGet m name).getD default), .int .i64 (lkErr m name)], ⟨?_, ?_, trivial⟩, rfl, hw.drop.drop⟩
    · exact resC (i := 1) hw rfl rfl rfl
    · simp [lkErr, h2]; rfl

def awErr (m : List (ByteArray × Service)) (ws : List Waiter) (x : Waiter) : Int :=
  if nameS x.Name = false then 63 else if (!coreS x.Core || decide (x.Token ≤ 0)) = true then 1 else if (ws.findIdx? (isW x.Token x.Core)).isSome then 56 else if (aGet m x.Name).isNone ∧ ws.length = 64 then 15 else 0
def awW (m : List (ByteArray × Service)) (ws : List Waiter) (x : Waiter) : List Waiter := if awErr m ws x = 0 ∧ (aGet m x.Name).isNone then ws ++ [x] else ws
def awF (m : List (ByteArray × Service)) (ws : List Waiter) (x : Waiter) : Bool := decide (awErr m ws x = 0) && (aGet m x.Name).isSome
def awS (m : List (ByteArray × Service)) (ws : List Waiter) (x : Waiter) : Service := if awErr m ws x = 0 then (aGet m x.Name).getD default else default
theorem ixZ_ge {o : Option Nat} : decide (0 ≤ ixZ o) = o.isSome := by cases o <;> simp [ixZ]

theorem Await_any (Γ : Gho) (S : List Res) (w : World) (b bm : Nat) (vs : Value) (m : List (ByteArray × Service)) (ws : List Waiter) (x : Waiter) [SB x.Name] (hws : ws.length ≤ 64) (hw : Wd Γ (srvL b bm vs m ws ++ S) w) :
    Calls Try.prog 11 #[.pointer (some ⟨b, 0, none⟩), .agg (enc x).toArray] w fun e w' => ∃ vs', e = .returned (.tuple #[svcV (awS m ws x), .bool (awF m ws x), .int .i64 (awErr m ws x)]) ∧ Wd Γ (srvL b bm vs' m (awW m ws x) ++ S) w' := by
  have hw0 := hw
  unfold srvL at hw
  obtain ⟨a, n, c, rfl, hn, hnc, hc⟩ := hw.own_shape (i := 2) rfl
  simp only [List.length_map] at hn
  refine calls_of_WC Try.func11 rfl rfl ?_
  repeat (first | (first | refine W_seq ?_ | refine W_block ?_ | refine W_region ?_ | refine W_skip ?_ | refine W_ret ?_ | refine W_exit ?_) | (first | refine L_nil ?_ | (apply L_plain; first | (apply L_go; refine lP ?_) | (apply L_mf; refine lMakeFunc ?_) | refine lY ?_) | (apply L_guarded; first | refine lGT ?_ | refine lGF ?_ | (apply L_go; refine lPG ?_) | refine lG ?_)))
  refine lBox ?_
  intro bx w hw
  refine lAlloc ?_
  intro br w hw
  repeat (first | (first | refine W_seq ?_ | refine W_block ?_ | refine W_region ?_ | refine W_skip ?_ | refine W_ret ?_ | refine W_exit ?_) | (first | refine L_nil ?_ | (apply L_plain; first | (apply L_go; refine lP ?_) | (apply L_mf; refine lMakeFunc ?_) | refine lY ?_) | (apply L_guarded; first | refine lGT ?_ | refine lGF ?_ | (apply L_go; refine lPG ?_) | refine lG ?_)))
  refine W_mix1 _ [_] [[],[],[],[],[],[],[],[],[],[],[0],[]] [[],[],[],[],[],[],[],[],[],[],[0],[]] hw.toEnd ?_
  repeat (first | refine mY ?_ | refine mP ?_ | refine mEndAt ?_ | refine mEnd0 ?_ | refine mEnd ?_)
  refine mStoreC ?_
  repeat (first | refine mY ?_ | refine mP ?_ | refine mEndAt ?_ | refine mEnd0 ?_ | refine mEnd ?_)
  intro w hw
  have hw := hw.toFront
  repeat (first | (first | refine W_seq ?_ | refine W_block ?_ | refine W_region ?_ | refine W_skip ?_ | refine W_ret ?_ | refine W_exit ?_) | (first | refine L_nil ?_ | (apply L_plain; first | (apply L_go; refine lP ?_) | (apply L_mf; refine lMakeFunc ?_) | refine lY ?_) | (apply L_guarded; first | refine lGT ?_ | refine lGF ?_ | (apply L_go; refine lPG ?_) | refine lG ?_)))
  have fin : ∀ {e : Int} {w} {S' : List Res}, awErr m ws x = e → e ≠ 0 → Wd Γ (S' ++ (srvL b bm (.slice a n c) m ws ++ S)) w → Wd Γ (srvL b bm (.slice a n c) m (awW m ws x) ++ S) w ∧ awF m ws x = false ∧ awS m ws x = default := fun h1 h2 h3 => by
    subst h1
    exact ⟨by rw [show awW m ws x = ws from by simp [awW, h2]]; exact h3.right, by simp [awF, h2], by simp [awS, h2]⟩
  refine W_cond rfl (fun h1 => ?_) (fun h1 => ?_)
  · have hE : awErr m ws x = 63 := by simp [awErr, show nameS x.Name = false from by simpa using h1]
    repeat (first | (first | refine W_seq ?_ | refine W_block ?_ | refine W_region ?_ | refine W_skip ?_ | refine W_ret ?_ | refine W_exit ?_) | (first | refine L_nil ?_ | (apply L_plain; first | (apply L_go; refine lP ?_) | (apply L_mf; refine lMakeFunc ?_) | refine lY ?_) | (apply L_guarded; first | refine lGT ?_ | refine lGF ?_ | (apply L_go; refine lPG ?_) | refine lG ?_)))
    refine W_cond_true rfl ?_
    repeat (first | (first | refine W_seq ?_ | refine W_block ?_ | refine W_region ?_ | refine W_skip ?_ | refine W_ret ?_ | refine W_exit ?_) | (first | refine L_nil ?_ | (apply L_plain; first | (apply L_go; refine lP ?_) | (apply L_mf; refine lMakeFunc ?_) | refine lY ?_) | (apply L_guarded; first | refine lGT ?_ | refine lGF ?_ | (apply L_go; refine lPG ?_) | refine lG ?_)) | (refine lAlloc ?_; intro _ w hw) | (refine lBox ?_; intro _ w hw) | (refine lStore ?_; intro w hw))
    obtain ⟨f1, f2, f3⟩ := fin (S' := [_, _]) hE (by decide) hw
    rw [f2, f3, hE]
    exact ⟨[svcV default, .bool false, .int .i64 63], ⟨resC (i := 0) hw rfl rfl rfl, rfl, rfl, trivial⟩, _, rfl, f1⟩
  have h1 : nameS x.Name = true := by simpa using h1
  repeat (first | (first | refine W_seq ?_ | refine W_block ?_ | refine W_region ?_ | refine W_skip ?_ | refine W_ret ?_ | refine W_exit ?_) | (first | refine L_nil ?_ | (apply L_plain; first | (apply L_go; refine lP ?_) | (apply L_mf; refine lMakeFunc ?_) | refine lY ?_) | (apply L_guarded; first | refine lGT ?_ | refine lGF ?_ | (apply L_go; refine lPG ?_) | refine lG ?_)))
  refine W_cond rfl (fun h2 => ?_) (fun h2 => ?_)
  · have h2 : (!coreS x.Core || decide (x.Token ≤ 0)) = true := h2
    have hE : awErr m ws x = 1 := by simp only [awErr, h1, h2]; simp
    repeat (first | (first | refine W_seq ?_ | refine W_block ?_ | refine W_region ?_ | refine W_skip ?_ | refine W_ret ?_ | refine W_exit ?_) | (first | refine L_nil ?_ | (apply L_plain; first | (apply L_go; refine lP ?_) | (apply L_mf; refine lMakeFunc ?_) | refine lY ?_) | (apply L_guarded; first | refine lGT ?_ | refine lGF ?_ | (apply L_go; refine lPG ?_) | refine lG ?_)))
    refine W_cond_true rfl ?_
    repeat (first | (first | refine W_seq ?_ | refine W_block ?_ | refine W_region ?_ | refine W_skip ?_ | refine W_ret ?_ | refine W_exit ?_) | (first | refine L_nil ?_ | (apply L_plain; first | (apply L_go; refine lP ?_) | (apply L_mf; refine lMakeFunc ?_) | refine lY ?_) | (apply L_guarded; first | refine lGT ?_ | refine lGF ?_ | (apply L_go; refine lPG ?_) | refine lG ?_)) | (refine lAlloc ?_; intro _ w hw) | (refine lBox ?_; intro _ w hw) | (refine lStore ?_; intro w hw))
    obtain ⟨f1, f2, f3⟩ := fin (S' := [_, _]) hE (by decide) hw
    rw [f2, f3, hE]
    exact ⟨[svcV default, .bool false, .int .i64 1], ⟨resC (i := 0) hw rfl rfl rfl, rfl, rfl, trivial⟩, _, rfl, f1⟩
  have h2 : (!coreS x.Core || decide (x.Token ≤ 0)) = false := h2
  repeat (first | (first | refine W_seq ?_ | refine W_block ?_ | refine W_region ?_ | refine W_skip ?_ | refine W_ret ?_ | refine W_exit ?_) | (first | refine L_nil ?_ | (apply L_plain; first | (apply L_go; refine lP ?_) | (apply L_mf; refine lMakeFunc ?_) | refine lY ?_) | (apply L_guarded; first | refine lGT ?_ | refine lGF ?_ | (apply L_go; refine lPG ?_) | refine lG ?_)))
  refine lCall ?_
  refine (waiter_any Γ ([Res.blk br _, Res.blk bx _] ++ S) w b bm _ m ws x.Token x.Core (Wd.swapApp (A := [_, _]) hw)).mono ?_
  rintro e w ⟨rfl, hw⟩
  have hw := Wd.swapApp (B := [_, _]) hw
  refine ⟨_, rfl, ?_⟩
  repeat (first | (first | refine W_seq ?_ | refine W_block ?_ | refine W_region ?_ | refine W_skip ?_ | refine W_ret ?_ | refine W_exit ?_) | (first | refine L_nil ?_ | (apply L_plain; first | (apply L_go; refine lP ?_) | (apply L_mf; refine lMakeFunc ?_) | refine lY ?_) | (apply L_guarded; first | refine lGT ?_ | refine lGF ?_ | (apply L_go; refine lPG ?_) | refine lG ?_)))
  refine W_cond rfl (fun h3 => ?_) (fun h3 => ?_)
  · rw [ixZ_ge] at h3
    have hE : awErr m ws x = 56 := by simp only [awErr, h1, h2, h3]; simp
    repeat (first | (first | refine W_seq ?_ | refine W_block ?_ | refine W_region ?_ | refine W_skip ?_ | refine W_ret ?_ | refine W_exit ?_) | (first | refine L_nil ?_ | (apply L_plain; first | (apply L_go; refine lP ?_) | (apply L_mf; refine lMakeFunc ?_) | refine lY ?_) | (apply L_guarded; first | refine lGT ?_ | refine lGF ?_ | (apply L_go; refine lPG ?_) | refine lG ?_)))
    refine W_cond_true rfl ?_
    repeat (first | (first | refine W_seq ?_ | refine W_block ?_ | refine W_region ?_ | refine W_skip ?_ | refine W_ret ?_ | refine W_exit ?_) | (first | refine L_nil ?_ | (apply L_plain; first | (apply L_go; refine lP ?_) | (apply L_mf; refine lMakeFunc ?_) | refine lY ?_) | (apply L_guarded; first | refine lGT ?_ | refine lGF ?_ | (apply L_go; refine lPG ?_) | refine lG ?_)) | (refine lAlloc ?_; intro _ w hw) | (refine lBox ?_; intro _ w hw) | (refine lStore ?_; intro w hw))
    obtain ⟨f1, f2, f3⟩ := fin (S' := [_, _]) hE (by decide) hw
    rw [f2, f3, hE]
    exact ⟨[svcV default, .bool false, .int .i64 56], ⟨resC (i := 0) hw rfl rfl rfl, rfl, rfl, trivial⟩, _, rfl, f1⟩
  rw [ixZ_ge] at h3
  repeat (first | (first | refine W_seq ?_ | refine W_block ?_ | refine W_region ?_ | refine W_skip ?_ | refine W_ret ?_ | refine W_exit ?_) | (first | refine L_nil ?_ | (apply L_plain; first | (apply L_go; refine lP ?_) | (apply L_mf; refine lMakeFunc ?_) | refine lY ?_) | (apply L_guarded; first | refine lGT ?_ | refine lGF ?_ | (apply L_go; refine lPG ?_) | refine lG ?_)))
  unfold srvL at hw
  repeat (first | (first | refine W_seq ?_ | refine W_block ?_ | refine W_region ?_ | refine W_skip ?_ | refine W_ret ?_ | refine W_exit ?_) | (first | refine L_nil ?_ | (apply L_plain; first | (apply L_go; refine lP ?_) | (apply L_mf; refine lMakeFunc ?_) | refine lY ?_) | (apply L_guarded; first | refine lGT ?_ | refine lGF ?_ | (apply L_go; refine lPG ?_) | refine lG ?_)))
  refine W_cond rfl (fun h4 => ?_) (fun h4 => ?_)
  · have h4 : (!(aGet m x.Name).isSome && decide ((n : Int) = 64)) = true := h4
    have hE : awErr m ws x = 15 := by
      simp only [Bool.and_eq_true, Bool.not_eq_true', decide_eq_true_eq] at h4
      have h5 : (aGet m x.Name).isNone = true := by rw [← Option.not_isSome]; simp [h4.1]
      simp only [awErr, h1, h2, h3]
      simp [h5]; omega
    repeat (first | (first | refine W_seq ?_ | refine W_block ?_ | refine W_region ?_ | refine W_skip ?_ | refine W_ret ?_ | refine W_exit ?_) | (first | refine L_nil ?_ | (apply L_plain; first | (apply L_go; refine lP ?_) | (apply L_mf; refine lMakeFunc ?_) | refine lY ?_) | (apply L_guarded; first | refine lGT ?_ | refine lGF ?_ | (apply L_go; refine lPG ?_) | refine lG ?_)))
    refine W_cond_true rfl ?_
    repeat (first | (first | refine W_seq ?_ | refine W_block ?_ | refine W_region ?_ | refine W_skip ?_ | refine W_ret ?_ | refine W_exit ?_) | (first | refine L_nil ?_ | (apply L_plain; first | (apply L_go; refine lP ?_) | (apply L_mf; refine lMakeFunc ?_) | refine lY ?_) | (apply L_guarded; first | refine lGT ?_ | refine lGF ?_ | (apply L_go; refine lPG ?_) | refine lG ?_)) | (refine lAlloc ?_; intro _ w hw) | (refine lBox ?_; intro _ w hw) | (refine lStore ?_; intro w hw))
    obtain ⟨f1, f2, f3⟩ := fin (S' := [_, _]) hE (by decide) hw
    rw [f2, f3, hE]
    exact ⟨[svcV default, .bool false, .int .i64 15], ⟨resC (i := 0) hw rfl rfl rfl, rfl, rfl, trivial⟩, _, rfl, f1⟩
  have h4 : (!(aGet m x.Name).isSome && decide ((n : Int) = 64)) = false := h4
  have hE : awErr m ws x = 0 := by
    simp only [awErr, h1, h2, h3]
    cases hg : (aGet m x.Name).isSome with
    | true => have : (aGet m x.Name).isNone = false := by rw [← Option.not_isSome, hg]; rfl
              simp [this]
    | false =>
      rw [hg] at h4
      have : ¬ (n : Int) = 64 := by simpa using h4
      simp; intro; omega
  repeat (first | (first | refine W_seq ?_ | refine W_block ?_ | refine W_region ?_ | refine W_skip ?_ | refine W_ret ?_ | refine W_exit ?_) | (first | refine L_nil ?_ | (apply L_plain; first | (apply L_go; refine lP ?_) | (apply L_mf; refine lMakeFunc ?_) | refine lY ?_) | (apply L_guarded; first | refine lGT ?_ | refine lGF ?_ | (apply L_go; refine lPG ?_) | refine lG ?_)))
  refine W_cond rfl (fun h5 => ?_) (fun h5 => ?_)
  · have h5 : (aGet m x.Name).isSome = false := by simpa using h5
    refine W_mix2 [_, _, _] _ [[],[],[],[],[],[],[1],[0],[],[],[0]] [[],[],[],[],[0],[],[1],[0,1],[],[],[0]] [[61], [60]] (hw.ps [3]) ?_
    repeat (first | refine mY ?_ | refine mP ?_ | refine mEndAt ?_ | refine mEnd0 ?_ | refine mEnd ?_)
    refine mBuild [enc x] ?_
    refine mApp ?_
    repeat (first | refine mY ?_ | refine mP ?_ | refine mEndAt ?_ | refine mEnd0 ?_ | refine mEnd ?_)
    refine mStoreV ?_
    refine mEnd fun w g hw => ?_
    have hw : Wd Γ (Res.blk br _ :: Res.blk bx _ :: .blk b (.cells #[.map (some bm), g 61] 64) :: Res.ms svcV bm m :: .own (g 61) 35 3 (ws.map enc ++ [enc x]) :: S) w := (Wd.dropEnd hw).ps [4, 1, 4, 4, 4]
    rw [show ws.map enc ++ [enc x] = (ws ++ [x]).map enc from by simp] at hw
    generalize g 61 = vs' at hw
    repeat (first | (first | refine W_seq ?_ | refine W_block ?_ | refine W_region ?_ | refine W_skip ?_ | refine W_ret ?_ | refine W_exit ?_) | (first | refine L_nil ?_ | (apply L_plain; first | (apply L_go; refine lP ?_) | (apply L_mf; refine lMakeFunc ?_) | refine lY ?_) | (apply L_guarded; first | refine lGT ?_ | refine lGF ?_ | (apply L_go; refine lPG ?_) | refine lG ?_)))
    refine W_cond_false rfl ?_
    repeat (first | (first | refine W_seq ?_ | refine W_block ?_ | refine W_region ?_ | refine W_skip ?_ | refine W_ret ?_ | refine W_exit ?_) | (first | refine L_nil ?_ | (apply L_plain; first | (apply L_go; refine lP ?_) | (apply L_mf; refine lMakeFunc ?_) | refine lY ?_) | (apply L_guarded; first | refine lGT ?_ | refine lGF ?_ | (apply L_go; refine lPG ?_) | refine lG ?_)) | (refine lAlloc ?_; intro _ w hw) | (refine lBox ?_; intro _ w hw) | (refine lStore ?_; intro w hw))
    have h6 : aGet m x.Name = none := by simpa using h5
    refine ⟨[svcV default, .bool false, .int .i64 0], ⟨?_, by show Value.bool (aGet m x.Name).isSome = _; rw [h6]; rfl, rfl, trivial⟩, vs', ?_, ?_⟩
    · rw [h6] at hw
      exact resC (i := 0) hw rfl rfl rfl
    · rw [show awS m ws x = default from by simp [awS, h6], show awF m ws x = false from by simp [awF, h6], hE]; rfl
    · rw [show awW m ws x = ws ++ [x] from by simp [awW, hE, h6]]
      exact hw.drop.drop
  · have h5 : (aGet m x.Name).isSome = true := by simpa using h5
    repeat (first | (first | refine W_seq ?_ | refine W_block ?_ | refine W_region ?_ | refine W_skip ?_ | refine W_ret ?_ | refine W_exit ?_) | (first | refine L_nil ?_ | (apply L_plain; first | (apply L_go; refine lP ?_) | (apply L_mf; refine lMakeFunc ?_) | refine lY ?_) | (apply L_guarded; first | refine lGT ?_ | refine lGF ?_ | (apply L_go; refine lPG ?_) | refine lG ?_)))
    refine W_cond_false rfl ?_
    repeat (first | (first | refine W_seq ?_ | refine W_block ?_ | refine W_region ?_ | refine W_skip ?_ | refine W_ret ?_ | refine W_exit ?_) | (first | refine L_nil ?_ | (apply L_plain; first | (apply L_go; refine lP ?_) | (apply L_mf; refine lMakeFunc ?_) | refine lY ?_) | (apply L_guarded; first | refine lGT ?_ | refine lGF ?_ | (apply L_go; refine lPG ?_) | refine lG ?_)) | (refine lAlloc ?_; intro _ w hw) | (refine lBox ?_; intro _ w hw) | (refine lStore ?_; intro w hw))
    obtain ⟨v, hv⟩ := Option.isSome_iff_exists.1 h5
    refine ⟨[svcV v, .bool true, .int .i64 0], ⟨?_, ?_, rfl, trivial⟩, .slice a n c, ?_, ?_⟩
    · rw [hv] at hw
      exact resC (i := 0) hw rfl rfl rfl
    · show Value.bool (aGet m x.Name).isSome = _
      rw [h5]
    · rw [show awS m ws x = v from by simp [awS, hE, hv], show awF m ws x = true from by simp [awF, hE, hv], hE]; rfl
    · rw [show awW m ws x = ws from by simp [awW, hv]]
      exact hw.drop.drop
end Go.Proofs.Ytekdbdhkpolooaa
