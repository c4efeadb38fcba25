/- A waiter is cancelled; a core departs. -/
import Derived.Test.YtekdbdhkpolooaaN8
open Go Mk
namespace Go.Proofs.Ytekdbdhkpolooaa
set_option maxHeartbeats 4000000
attribute [local irreducible] Calls

def caErr (ws : List Waiter) (token core : Int) : Int := if (ws.findIdx? (isW token core)).isSome then 0 else 17
def caW (ws : List Waiter) (token core : Int) : List Waiter := match ws.findIdx? (isW token core) with | some k => ws.eraseIdx k | none => ws
theorem findIdx_lt {α : Type} {p : α → Bool} {l : List α} {k : Nat} (h : l.findIdx? p = some k) : k < l.length := (List.findIdx?_eq_some_iff_getElem.1 h).1

theorem Cancel_any (Γ : Gho) (S : List Res) (w : World) (b bm : Nat) (vs : Value) (m : List (ByteArray × Service)) (ws : List Waiter) (token core : Int) (hws : ws.length ≤ 64) (hw : Wd Γ (srvL b bm vs m ws ++ S) w) :
    Calls Try.prog 16 #[.pointer (some ⟨b, 0, none⟩), .int .i64 token, .int .i64 core] w fun e w' => ∃ vs', e = .returned (.int .i64 (caErr ws token core)) ∧ Wd Γ (srvL b bm vs' m (caW ws token core) ++ S) w' := by
  refine calls_of_W Try.func16 rfl rfl ?_
  repeat (first | (first | refine W_seq ?_ | refine W_block ?_ | refine W_region ?_ | refine W_skip ?_ | refine W_ret ?_ | refine W_exit ?_) | (first | refine L_nil ?_ | (apply L_plain; first | (apply L_go; refine lP ?_) | (apply L_mf; refine lMakeFunc ?_) | refine lY ?_) | (apply L_guarded; first | refine lGT ?_ | refine lGF ?_ | (apply L_go; refine lPG ?_) | refine lG ?_)))
  refine lCall ?_
  refine (waiter_any Γ S w b bm vs m ws token core hw).mono ?_
  rintro e w ⟨rfl, hw⟩
  refine ⟨_, rfl, ?_⟩
  unfold srvL at hw
  obtain ⟨a, n, c, rfl, hn, hnc, hc⟩ := hw.own_shape (i := 2) rfl
  simp only [List.length_map] at hn
  cases hf : ws.findIdx? (isW token core) with
  | none =>
    repeat (first | (first | refine W_seq ?_ | refine W_block ?_ | refine W_region ?_ | refine W_skip ?_ | refine W_ret ?_ | refine W_exit ?_) | (first | refine L_nil ?_ | (apply L_plain; first | (apply L_go; refine lP ?_) | (apply L_mf; refine lMakeFunc ?_) | refine lY ?_) | (apply L_guarded; first | refine lGT ?_ | refine lGF ?_ | (apply L_go; refine lPG ?_) | refine lG ?_)))
    refine W_cond_true rfl ?_
    repeat (first | (first | refine W_seq ?_ | refine W_block ?_ | refine W_region ?_ | refine W_skip ?_ | refine W_ret ?_ | refine W_exit ?_) | (first | refine L_nil ?_ | (apply L_plain; first | (apply L_go; refine lP ?_) | (apply L_mf; refine lMakeFunc ?_) | refine lY ?_) | (apply L_guarded; first | refine lGT ?_ | refine lGF ?_ | (apply L_go; refine lPG ?_) | refine lG ?_)))
    refine ⟨_, rfl, .slice a n c, ret_i rfl (by simp [caErr, hf]), ?_⟩
    rw [show caW ws token core = ws from by simp [caW, hf]]
    exact hw
  | some k =>
    have hk := findIdx_lt hf
    have hz : ixZ (some k) = (k : Int) := rfl
    repeat (first | (first | refine W_seq ?_ | refine W_block ?_ | refine W_region ?_ | refine W_skip ?_ | refine W_ret ?_ | refine W_exit ?_) | (first | refine L_nil ?_ | (apply L_plain; first | (apply L_go; refine lP ?_) | (apply L_mf; refine lMakeFunc ?_) | refine lY ?_) | (apply L_guarded; first | refine lGT ?_ | refine lGF ?_ | (apply L_go; refine lPG ?_) | refine lG ?_)))
    refine W_cond rfl (fun h => absurd h (by simp [hz])) (fun _ => ?_)
    repeat (first | (first | refine W_seq ?_ | refine W_block ?_ | refine W_region ?_ | refine W_skip ?_ | refine W_ret ?_ | refine W_exit ?_) | (first | refine L_nil ?_ | (apply L_plain; first | (apply L_go; refine lP ?_) | (apply L_mf; refine lMakeFunc ?_) | refine lY ?_) | (apply L_guarded; first | refine lGT ?_ | refine lGF ?_ | (apply L_go; refine lPG ?_) | refine lG ?_)))
    refine lCall ?_
    refine (Delete_wtr k (hw.ps [2]) hk (by omega)).mono ?_
    rintro e w ⟨v', rfl, hw⟩
    obtain ⟨a', n', c', rfl, -, -, -⟩ := hw.own_shape (i := 0) rfl
    refine ⟨_, rfl, ?_⟩
    repeat (first | (first | refine W_seq ?_ | refine W_block ?_ | refine W_region ?_ | refine W_skip ?_ | refine W_ret ?_ | refine W_exit ?_) | (first | refine L_nil ?_ | (apply L_plain; first | (apply L_go; refine lP ?_) | (apply L_mf; refine lMakeFunc ?_) | refine lY ?_) | (apply L_guarded; first | refine lGT ?_ | refine lGF ?_ | (apply L_go; refine lPG ?_) | refine lG ?_)) | (refine lAlloc ?_; intro _ w hw) | (refine lBox ?_; intro _ w hw) | (refine lStore ?_; intro w hw))
    refine ⟨_, rfl, .slice a' n' c', ret_i rfl (by simp [caErr, hf]), ?_⟩
    rw [show caW ws token core = ws.eraseIdx k from by simp [caW, hf]]
    exact hw.ps [2, 2]

def ofCore (c : Int) (x : Waiter) : Bool := decide (x.Core = c)
theorem Depart1_any (Γ : Gho) (S : List Res) (w : World) (bc : Nat) (core : Int) (x : Waiter) (hw : Wd Γ (.blk bc (.cells #[.int .i64 core] 3) :: S) w) :
    Calls Try.prog 29 #[.agg (enc x).toArray, .pointer (some ⟨bc, 0, none⟩)] w fun e w' => e = .returned (.bool (ofCore core x)) ∧ Wd Γ (.blk bc (.cells #[.int .i64 core] 3) :: S) w' := by
  refine calls_of_W Try.func29 rfl rfl ?_
  repeat (first | (first | refine W_seq ?_ | refine W_block ?_ | refine W_region ?_ | refine W_skip ?_ | refine W_ret ?_ | refine W_exit ?_) | (first | refine L_nil ?_ | (apply L_plain; first | (apply L_go; refine lP ?_) | (apply L_mf; refine lMakeFunc ?_) | refine lY ?_) | (apply L_guarded; first | refine lGT ?_ | refine lGF ?_ | (apply L_go; refine lPG ?_) | refine lG ?_)) | (refine lAlloc ?_; intro _ w hw) | (refine lBox ?_; intro _ w hw) | (refine lStore ?_; intro w hw))
  exact ⟨_, rfl, rfl, hw.drop⟩

def sCore (c : Int) (x : Service) : Bool := decide (x.Core = c)
def delAll (m : List (ByteArray × Service)) (l : List Service) : List (ByteArray × Service) := l.foldl (fun m v => aDel m v.Name) m
theorem Depart_any (Γ : Gho) (S : List Res) (w : World) (b bm : Nat) (vs : Value) (m : List (ByteArray × Service)) (ws : List Waiter) (core : Int) (hm : m.length ≤ 64) (hw : Wd Γ (srvL b bm vs m ws ++ S) w) :
    Calls Try.prog 12 #[.pointer (some ⟨b, 0, none⟩), .int .i64 core] w fun e w' => ∃ v ys vs', e = .returned v ∧ Sorted m ys ∧
      Wd Γ (.own v 31 4 ((ys.filter (sCore core)).map enc) :: (srvL b bm vs' (delAll m (ys.filter (sCore core))) (ws.filter fun x => !ofCore core x) ++ S)) w' := by
  unfold srvL at hw
  obtain ⟨a, n, c, rfl, hn, hnc, hc⟩ := hw.own_shape (i := 2) rfl
  refine calls_of_W Try.func12 rfl rfl ?_
  repeat (first | (first | refine W_seq ?_ | refine W_block ?_ | refine W_region ?_ | refine W_skip ?_ | refine W_ret ?_ | refine W_exit ?_) | (first | refine L_nil ?_ | (apply L_plain; first | (apply L_go; refine lP ?_) | (apply L_mf; refine lMakeFunc ?_) | refine lY ?_) | (apply L_guarded; first | refine lGT ?_ | refine lGF ?_ | (apply L_go; refine lPG ?_) | refine lG ?_)))
  refine lBox ?_
  intro bc w hw
  repeat (first | (first | refine W_seq ?_ | refine W_block ?_ | refine W_region ?_ | refine W_skip ?_ | refine W_ret ?_ | refine W_exit ?_) | (first | refine L_nil ?_ | (apply L_plain; first | (apply L_go; refine lP ?_) | (apply L_mf; refine lMakeFunc ?_) | refine lY ?_) | (apply L_guarded; first | refine lGT ?_ | refine lGF ?_ | (apply L_go; refine lPG ?_) | refine lG ?_)))
  refine lCall ?_
  refine (DeleteFunc_any (fun _ => .blk bc (.cells #[.int .i64 core] 3) :: .blk b (.cells #[.map (some bm), .slice a n c] 64) :: Res.ms svcV bm m :: S) Γ w _ ws 29 [] [.pointer (some ⟨bc, 0, none⟩)] (ofCore core) (hw.ps [3]) (fun R k x w hx hw => ?_)).mono ?_
  · refine (Depart1_any Γ (R ++ (.blk b (.cells #[.map (some bm), .slice a n c] 64) :: Res.ms svcV bm m :: S)) w bc core x ((Wd.swapApp (B := [_]) hw))).mono ?_
    rintro e w' ⟨he, hw'⟩
    exact ⟨he, Wd.swapApp (A := [_]) hw'⟩
  rintro e w ⟨vs', rfl, hw⟩
  obtain ⟨a', n', c', rfl, -, -, -⟩ := hw.own_shape (i := 0) rfl
  refine ⟨_, rfl, ?_⟩
  repeat (first | (first | refine W_seq ?_ | refine W_block ?_ | refine W_region ?_ | refine W_skip ?_ | refine W_ret ?_ | refine W_exit ?_) | (first | refine L_nil ?_ | (apply L_plain; first | (apply L_go; refine lP ?_) | (apply L_mf; refine lMakeFunc ?_) | refine lY ?_) | (apply L_guarded; first | refine lGT ?_ | refine lGF ?_ | (apply L_go; refine lPG ?_) | refine lG ?_)) | (refine lAlloc ?_; intro _ w hw) | (refine lBox ?_; intro _ w hw) | (refine lStore ?_; intro w hw))
  refine lCall ?_
  refine (Services_any Γ (Res.blk bc _ :: S) w b bm _ m _ hm (hw.ps [1, 1, 3, 3])).mono ?_
  rintro e w ⟨v, ys, rfl, hys, hw⟩
  refine ⟨_, rfl, ?_⟩
  obtain ⟨a2, n2, c2, rfl, hn2, hnc2, hc2⟩ := hw.own_shape (i := 0) rfl
  simp only [List.length_map] at hn2
  have hlen : ys.length ≤ 64 := by have := hys.perm.length_eq; simp at this; omega
  repeat (first | (first | refine W_seq ?_ | refine W_block ?_ | refine W_region ?_ | refine W_skip ?_ | refine W_ret ?_ | refine W_exit ?_) | (first | refine L_nil ?_ | (apply L_plain; first | (apply L_go; refine lP ?_) | (apply L_mf; refine lMakeFunc ?_) | refine lY ?_) | (apply L_guarded; first | refine lGT ?_ | refine lGF ?_ | (apply L_go; refine lPG ?_) | refine lG ?_)))
  unfold srvL at hw
  refine W_loop (fun μ ρ w => ∃ (k : Nat) (g : Value), μ + k = n2 ∧ Has ρ [(0, .pointer (some ⟨b, 0, none⟩)), (3, .pointer (some ⟨bc, 0, none⟩)), (5, g), (18, .slice a2 n2 c2), (19, .int .i64 n2), (20, .int .i64 k)] ∧
    Wd Γ (.own g 31 4 (((ys.take k).filter (sCore core)).map enc) :: .own (.slice a2 n2 c2) 31 4 (ys.map enc) :: .blk b (.cells #[.map (some bm), .slice a' n' c'] 64) :: Res.ms svcV bm (delAll m ((ys.take k).filter (sCore core))) ::
      .own (.slice a' n' c') 35 3 ((ws.filter fun x => !ofCore core x).map enc) :: .blk bc (.cells #[.int .i64 core] 3) :: S) w) n2 ⟨0, .slice none 0 0, by omega, ⟨rfl, rfl, rfl, rfl, rfl, rfl, trivial⟩, Wd.addNil hw⟩ ?_
  rintro μ ρ w ⟨k, g, hk, hρ, hw⟩
  rw [hρ.eq]
  obtain ⟨a3, n3, c3, rfl, hn3, hnc3, hc3⟩ := hw.own_shape (i := 0) rfl
  have hl3 : ((ys.take k).filter (sCore core)).length ≤ ys.length := Nat.le_trans (List.length_filter_le _ _) (by rw [List.length_take]; omega)
  simp only [List.length_map] at hn3
  repeat (first | (first | refine W_seq ?_ | refine W_block ?_ | refine W_region ?_ | refine W_skip ?_ | refine W_ret ?_ | refine W_exit ?_) | (first | refine L_nil ?_ | (apply L_plain; first | (apply L_go; refine lP ?_) | (apply L_mf; refine lMakeFunc ?_) | refine lY ?_) | (apply L_guarded; first | refine lGT ?_ | refine lGF ?_ | (apply L_go; refine lPG ?_) | refine lG ?_)))
  refine W_cond rfl (fun h => ?_) (fun h => ?_)
  · have hkn : k < n2 := by simpa using h
    obtain ⟨x, hx⟩ := get_lt (l := ys) (k := k) (by omega)
    have hr := RdS.own (i := 1) hw rfl
    repeat (first | (first | refine W_seq ?_ | refine W_block ?_ | refine W_region ?_ | refine W_skip ?_ | refine W_ret ?_ | refine W_exit ?_) | (first | refine L_nil ?_ | (apply L_plain; first | (apply L_go; refine lP ?_) | (apply L_mf; refine lMakeFunc ?_) | refine lY ?_) | (apply L_guarded; first | refine lGT ?_ | refine lGF ?_ | (apply L_go; refine lPG ?_) | refine lG ?_)))
    refine lAlloc ?_
    intro be w hw
    refine lStore ?_
    intro w hw
    repeat (first | (first | refine W_seq ?_ | refine W_block ?_ | refine W_region ?_ | refine W_skip ?_ | refine W_ret ?_ | refine W_exit ?_) | (first | refine L_nil ?_ | (apply L_plain; first | (apply L_go; refine lP ?_) | (apply L_mf; refine lMakeFunc ?_) | refine lY ?_) | (apply L_guarded; first | refine lGT ?_ | refine lGF ?_ | (apply L_go; refine lPG ?_) | refine lG ?_)))
    refine W_cond rfl (fun h2 => ?_) (fun h2 => ?_)
    · have h2 : sCore core x = true := h2
      repeat (first | (first | refine W_seq ?_ | refine W_block ?_ | refine W_region ?_ | refine W_skip ?_ | refine W_ret ?_ | refine W_exit ?_) | (first | refine L_nil ?_ | (apply L_plain; first | (apply L_go; refine lP ?_) | (apply L_mf; refine lMakeFunc ?_) | refine lY ?_) | (apply L_guarded; first | refine lGT ?_ | refine lGF ?_ | (apply L_go; refine lPG ?_) | refine lG ?_)))
      refine lBuildSlice [enc x] ?_
      intro a4 w hw
      refine lApp (rows2 := [enc x]) ?_ (Wd.own_rd (i := 0) hw rfl)
      intro v' w hw
      repeat (first | (first | refine W_seq ?_ | refine W_block ?_ | refine W_region ?_ | refine W_skip ?_ | refine W_ret ?_ | refine W_exit ?_) | (first | refine L_nil ?_ | (apply L_plain; first | (apply L_go; refine lP ?_) | (apply L_mf; refine lMakeFunc ?_) | refine lY ?_) | (apply L_guarded; first | refine lGT ?_ | refine lGF ?_ | (apply L_go; refine lPG ?_) | refine lG ?_)))
      obtain ⟨a5, n5, c5, rfl, -, -, -⟩ := hw.own_shape (i := 2) rfl
      refine W_mix1 [] _ [[],[],[],[],[],[],[0]] [[0],[0],[0],[0],[0],[0],[0]] hw ?_
      repeat (first | refine mY ?_ | refine mP ?_ | refine mEndAt ?_ | refine mEnd0 ?_ | refine mEnd ?_)
      refine mDelS ?_
      repeat (first | refine mY ?_ | refine mP ?_ | refine mEndAt ?_ | refine mEnd0 ?_ | refine mEnd ?_)
      intro w hw
      have hw := Wd.left (S := Res.own _ _ _ _ :: _) hw
      repeat (first | (first | refine W_seq ?_ | refine W_block ?_ | refine W_region ?_ | refine W_skip ?_ | refine W_ret ?_ | refine W_exit ?_) | (first | refine L_nil ?_ | (apply L_plain; first | (apply L_go; refine lP ?_) | (apply L_mf; refine lMakeFunc ?_) | refine lY ?_) | (apply L_guarded; first | refine lGT ?_ | refine lGF ?_ | (apply L_go; refine lPG ?_) | refine lG ?_)))
      have htk : ys.take (k + 1) = ys.take k ++ [x] := by rw [List.take_add_one, hx]; rfl
      have hfl : (ys.take (k + 1)).filter (sCore core) = (ys.take k).filter (sCore core) ++ [x] := by rw [htk, List.filter_append]; simp [h2]
      refine ⟨μ - 1, by omega, k + 1, .slice a5 n5 c5, by omega, ⟨rfl, rfl, rfl, rfl, rfl, rfl, trivial⟩, ?_⟩
      rw [hfl]
      have hw := hw.ds [0, 0]
      rw [List.map_append]
      unfold delAll at *
      rw [List.foldl_append]
      exact hw
    · have h2 : sCore core x = false := h2
      repeat (first | (first | refine W_seq ?_ | refine W_block ?_ | refine W_region ?_ | refine W_skip ?_ | refine W_ret ?_ | refine W_exit ?_) | (first | refine L_nil ?_ | (apply L_plain; first | (apply L_go; refine lP ?_) | (apply L_mf; refine lMakeFunc ?_) | refine lY ?_) | (apply L_guarded; first | refine lGT ?_ | refine lGF ?_ | (apply L_go; refine lPG ?_) | refine lG ?_)))
      have htk : ys.take (k + 1) = ys.take k ++ [x] := by rw [List.take_add_one, hx]; rfl
      have hfl : (ys.take (k + 1)).filter (sCore core) = (ys.take k).filter (sCore core) := by rw [htk, List.filter_append]; simp [h2]
      refine ⟨μ - 1, by omega, k + 1, .slice a3 n3 c3, by omega, ⟨rfl, rfl, rfl, rfl, rfl, rfl, trivial⟩, ?_⟩
      rw [hfl]
      exact hw.drop
  · have hkn : ¬ k < n2 := by simpa using h
    repeat (first | (first | refine W_seq ?_ | refine W_block ?_ | refine W_region ?_ | refine W_skip ?_ | refine W_ret ?_ | refine W_exit ?_) | (first | refine L_nil ?_ | (apply L_plain; first | (apply L_go; refine lP ?_) | (apply L_mf; refine lMakeFunc ?_) | refine lY ?_) | (apply L_guarded; first | refine lGT ?_ | refine lGF ?_ | (apply L_go; refine lPG ?_) | refine lG ?_)))
    have hk2 : ys.take k = ys := List.take_of_length_le (by omega)
    rw [hk2] at hw
    exact ⟨_, rfl, .slice a3 n3 c3, ys, .slice a' n' c', rfl, hys, (hw.ds [1, 4])⟩
end Go.Proofs.Ytekdbdhkpolooaa
