/- The reference's name server: a core departs; what it reports. -/
import Derived.Test.YtekdbdhkpolooaaN15
open Go Mk
namespace Go.Proofs.Ytekdbdhkpolooaa
set_option maxHeartbeats 2000000
attribute [local irreducible] Calls

theorem filter_snoc {α : Type} {p : α → Bool} {l : List α} {k : Nat} {x : α} (hx : l[k]? = some x) : (l.take (k + 1)).filter p = (l.take k).filter p ++ if p x = true then [x] else [] := by
  rw [List.take_add_one, hx, List.filter_append]
  cases h : p x <;> simp [h]
theorem filter_take_le {α : Type} {p : α → Bool} {l : List α} {k : Nat} : ((l.take k).filter p).length ≤ l.length :=
  Nat.le_trans (List.length_filter_le _ _) (by rw [List.length_take]; omega)

theorem rDepart_any (Γ : Gho) (S : List Res) (w : World) (b : Nat) (v1 v2 : Value) (ss : List Service) (ws : List Waiter) (core : Int) (hss : ss.length ≤ 64) (hws : ws.length ≤ 64) (hw : Wd Γ (refL b v1 v2 ss ws ++ S) w) :
    Calls Try.prog 44 #[.pointer (some ⟨b, 0, none⟩), .int .i64 core] w fun e w' => ∃ v v1' v2', e = .returned v ∧ Wd Γ (.own v 31 4 ((ss.filter (sCore core)).map enc) :: (refL b v1' v2' (ss.filter fun x => !sCore core x) (ws.filter fun x => !ofCore core x) ++ S)) w' := by
  unfold refL at *
  obtain ⟨a, n, c, rfl, hn, hnc, hc⟩ := hw.own_shape (i := 1) rfl
  obtain ⟨a2, n2, c2, rfl, hn2, hnc2, hc2⟩ := hw.own_shape (i := 2) rfl
  simp only [List.length_map] at hn hn2
  refine calls_of_W Try.func44 rfl rfl ?_
  repeat (first | (first | refine W_seq ?_ | refine W_block ?_ | refine W_region ?_ | refine W_skip ?_ | refine W_ret ?_ | refine W_exit ?_) | (first | refine L_nil ?_ | (apply L_plain; first | (apply L_go; refine lP ?_) | (apply L_mf; refine lMakeFunc ?_) | refine lY ?_) | (apply L_guarded; first | refine lGT ?_ | refine lGF ?_ | (apply L_go; refine lPG ?_) | refine lG ?_)))
  refine W_loop (fun μ ρ w => ∃ (k : Nat) (g g2 : Value), μ + k = n ∧ Has ρ [(0, .pointer (some ⟨b, 0, none⟩)), (1, .int .i64 core), (5, g), (6, g2), (7, .int .i64 k)] ∧ Wd Γ (.own g 31 4 (((ss.take k).filter (sCore core)).map enc) :: .own g2 31 4 (((ss.take k).filter fun x => !sCore core x).map enc) :: .blk b (.cells #[.slice a n c, .slice a2 n2 c2] 57) :: .own (.slice a n c) 31 4 (ss.map enc) :: .own (.slice a2 n2 c2) 35 3 (ws.map enc) :: S) w) n ⟨0, _, _, by omega, ⟨rfl, rfl, rfl, rfl, rfl, trivial⟩, Wd.addNil (Wd.addNil hw)⟩ ?_
  · clear hw
    rintro μ ρ w ⟨k, g, g2, hk, hρ, hw⟩
    rw [hρ.eq]
    obtain ⟨ag, ng, cg, rfl, hng, -, -⟩ := hw.own_shape (i := 0) rfl
    obtain ⟨ah, nh, ch, rfl, hnh, -, -⟩ := hw.own_shape (i := 1) rfl
    have hl1 := filter_take_le (p := sCore core) (l := ss) (k := k)
    have hl2 := filter_take_le (p := fun x => !sCore core x) (l := ss) (k := k)
    simp only [List.length_map] at hng hnh
    repeat (first | (first | refine W_seq ?_ | refine W_block ?_ | refine W_region ?_ | refine W_skip ?_ | refine W_ret ?_ | refine W_exit ?_) | (first | refine L_nil ?_ | (apply L_plain; first | (apply L_go; refine lP ?_) | (apply L_mf; refine lMakeFunc ?_) | refine lY ?_) | (apply L_guarded; first | refine lGT ?_ | refine lGF ?_ | (apply L_go; refine lPG ?_) | refine lG ?_)))
    refine W_cond rfl (fun h => ?_) (fun h => ?_)
    · have hkn : k < n := by simpa using h
      obtain ⟨x, hx⟩ := get_lt (l := ss) (k := k) (by omega)
      repeat (first | (first | refine W_seq ?_ | refine W_block ?_ | refine W_region ?_ | refine W_skip ?_ | refine W_ret ?_ | refine W_exit ?_) | (first | refine L_nil ?_ | (apply L_plain; first | (apply L_go; refine lP ?_) | (apply L_mf; refine lMakeFunc ?_) | refine lY ?_) | (apply L_guarded; first | refine lGT ?_ | refine lGF ?_ | (apply L_go; refine lPG ?_) | refine lG ?_)))
      refine W_cond rfl (fun h2 => ?_) (fun h2 => ?_)
      · have h2 : sCore core x = true := h2
        repeat (first | (first | refine W_seq ?_ | refine W_block ?_ | refine W_region ?_ | refine W_skip ?_ | refine W_ret ?_ | refine W_exit ?_) | (first | refine L_nil ?_ | (apply L_plain; first | (apply L_go; refine lP ?_) | (apply L_mf; refine lMakeFunc ?_) | refine lY ?_) | (apply L_guarded; first | refine lGT ?_ | refine lGF ?_ | (apply L_go; refine lPG ?_) | refine lG ?_)))
        refine lBuildSlice [enc x] ?_
        intro a4 w hw
        refine lApp (rows2 := [enc x]) ?_ (Wd.own_rd (i := 0) hw rfl)
        intro v' w hw
        repeat (first | (first | refine W_seq ?_ | refine W_block ?_ | refine W_region ?_ | refine W_skip ?_ | refine W_ret ?_ | refine W_exit ?_) | (first | refine L_nil ?_ | (apply L_plain; first | (apply L_go; refine lP ?_) | (apply L_mf; refine lMakeFunc ?_) | refine lY ?_) | (apply L_guarded; first | refine lGT ?_ | refine lGF ?_ | (apply L_go; refine lPG ?_) | refine lG ?_)))
        refine ⟨μ - 1, by omega, k + 1, v', .slice ah nh ch, by omega, ⟨rfl, rfl, rfl, rfl, rfl, trivial⟩, ?_⟩
        rw [filter_snoc hx, filter_snoc hx, h2]
        simpa using hw.drop
      · have h2 : sCore core x = false := h2
        repeat (first | (first | refine W_seq ?_ | refine W_block ?_ | refine W_region ?_ | refine W_skip ?_ | refine W_ret ?_ | refine W_exit ?_) | (first | refine L_nil ?_ | (apply L_plain; first | (apply L_go; refine lP ?_) | (apply L_mf; refine lMakeFunc ?_) | refine lY ?_) | (apply L_guarded; first | refine lGT ?_ | refine lGF ?_ | (apply L_go; refine lPG ?_) | refine lG ?_)))
        refine lBuildSlice [enc x] ?_
        intro a4 w hw
        refine lApp (i := 2) (rows2 := [enc x]) ?_ (Wd.own_rd (i := 0) hw rfl)
        intro v' w hw
        repeat (first | (first | refine W_seq ?_ | refine W_block ?_ | refine W_region ?_ | refine W_skip ?_ | refine W_ret ?_ | refine W_exit ?_) | (first | refine L_nil ?_ | (apply L_plain; first | (apply L_go; refine lP ?_) | (apply L_mf; refine lMakeFunc ?_) | refine lY ?_) | (apply L_guarded; first | refine lGT ?_ | refine lGF ?_ | (apply L_go; refine lPG ?_) | refine lG ?_)))
        refine ⟨μ - 1, by omega, k + 1, .slice ag ng cg, v', by omega, ⟨rfl, rfl, rfl, rfl, rfl, trivial⟩, ?_⟩
        rw [filter_snoc hx, filter_snoc hx, h2]
        simpa using hw.drop
    · have hkn : ¬ k < n := by simpa using h
      have hk2 : ss.take k = ss := List.take_of_length_le (by omega)
      rw [hk2] at hw
      clear h hk hl1 hl2 hkn hng hnh
      repeat (first | (first | refine W_seq ?_ | refine W_block ?_ | refine W_region ?_ | refine W_skip ?_ | refine W_ret ?_ | refine W_exit ?_) | (first | refine L_nil ?_ | (apply L_plain; first | (apply L_go; refine lP ?_) | (apply L_mf; refine lMakeFunc ?_) | refine lY ?_) | (apply L_guarded; first | refine lGT ?_ | refine lGF ?_ | (apply L_go; refine lPG ?_) | refine lG ?_)))
      refine W_loop (fun μ ρ w => ∃ (k : Nat) (g3 : Value), μ + k = n2 ∧ Has ρ [(0, .pointer (some ⟨b, 0, none⟩)), (1, .int .i64 core), (5, .slice ag ng cg), (6, .slice ah nh ch), (8, g3), (9, .int .i64 k)] ∧ Wd Γ (.own g3 35 3 (((ws.take k).filter fun x => !ofCore core x).map enc) :: .own (.slice a2 n2 c2) 35 3 (ws.map enc) :: .own (.slice ag ng cg) 31 4 ((ss.filter (sCore core)).map enc) :: .own (.slice ah nh ch) 31 4 ((ss.filter fun x => !sCore core x).map enc) :: .blk b (.cells #[.slice a n c, .slice a2 n2 c2] 57) :: S) w) n2 ⟨0, _, by omega, ⟨rfl, rfl, rfl, rfl, rfl, rfl, trivial⟩, Wd.addNil ((hw.ds [3]).ps [3])⟩ ?_
      clear hw hρ ρ
      rintro μ ρ w ⟨k, g, hk, hρ, hw⟩
      rw [hρ.eq]
      obtain ⟨ai, ni, ci, rfl, hni, -, -⟩ := hw.own_shape (i := 0) rfl
      have hl1 := filter_take_le (p := fun x => !ofCore core x) (l := ws) (k := k)
      simp only [List.length_map] at hni
      repeat (first | (first | refine W_seq ?_ | refine W_block ?_ | refine W_region ?_ | refine W_skip ?_ | refine W_ret ?_ | refine W_exit ?_) | (first | refine L_nil ?_ | (apply L_plain; first | (apply L_go; refine lP ?_) | (apply L_mf; refine lMakeFunc ?_) | refine lY ?_) | (apply L_guarded; first | refine lGT ?_ | refine lGF ?_ | (apply L_go; refine lPG ?_) | refine lG ?_)))
      refine W_cond rfl (fun h => ?_) (fun h => ?_)
      · have hkn : k < n2 := by simpa using h
        obtain ⟨x, hx⟩ := get_lt (l := ws) (k := k) (by omega)
        repeat (first | (first | refine W_seq ?_ | refine W_block ?_ | refine W_region ?_ | refine W_skip ?_ | refine W_ret ?_ | refine W_exit ?_) | (first | refine L_nil ?_ | (apply L_plain; first | (apply L_go; refine lP ?_) | (apply L_mf; refine lMakeFunc ?_) | refine lY ?_) | (apply L_guarded; first | refine lGT ?_ | refine lGF ?_ | (apply L_go; refine lPG ?_) | refine lG ?_)))
        refine W_cond rfl (fun h2 => ?_) (fun h2 => ?_)
        · have h2 : ofCore core x = false := by simpa [ofCore] using h2
          repeat (first | (first | refine W_seq ?_ | refine W_block ?_ | refine W_region ?_ | refine W_skip ?_ | refine W_ret ?_ | refine W_exit ?_) | (first | refine L_nil ?_ | (apply L_plain; first | (apply L_go; refine lP ?_) | (apply L_mf; refine lMakeFunc ?_) | refine lY ?_) | (apply L_guarded; first | refine lGT ?_ | refine lGF ?_ | (apply L_go; refine lPG ?_) | refine lG ?_)))
          refine lBuildSlice [enc x] ?_
          intro a4 w hw
          refine lApp (rows2 := [enc x]) ?_ (Wd.own_rd (i := 0) hw rfl)
          intro v' w hw
          repeat (first | (first | refine W_seq ?_ | refine W_block ?_ | refine W_region ?_ | refine W_skip ?_ | refine W_ret ?_ | refine W_exit ?_) | (first | refine L_nil ?_ | (apply L_plain; first | (apply L_go; refine lP ?_) | (apply L_mf; refine lMakeFunc ?_) | refine lY ?_) | (apply L_guarded; first | refine lGT ?_ | refine lGF ?_ | (apply L_go; refine lPG ?_) | refine lG ?_)))
          refine ⟨μ - 1, by omega, k + 1, v', by omega, ⟨rfl, rfl, rfl, rfl, rfl, rfl, trivial⟩, ?_⟩
          rw [filter_snoc hx, h2]
          simpa using hw.drop
        · have h2 : ofCore core x = true := by simpa [ofCore] using h2
          repeat (first | (first | refine W_seq ?_ | refine W_block ?_ | refine W_region ?_ | refine W_skip ?_ | refine W_ret ?_ | refine W_exit ?_) | (first | refine L_nil ?_ | (apply L_plain; first | (apply L_go; refine lP ?_) | (apply L_mf; refine lMakeFunc ?_) | refine lY ?_) | (apply L_guarded; first | refine lGT ?_ | refine lGF ?_ | (apply L_go; refine lPG ?_) | refine lG ?_)))
          refine ⟨μ - 1, by omega, k + 1, .slice ai ni ci, by omega, ⟨rfl, rfl, rfl, rfl, rfl, rfl, trivial⟩, ?_⟩
          rw [filter_snoc hx, h2]
          simpa using hw
      · have hkn : ¬ k < n2 := by simpa using h
        have hk2 : ws.take k = ws := List.take_of_length_le (by omega)
        rw [hk2] at hw
        repeat (first | (first | refine W_seq ?_ | refine W_block ?_ | refine W_region ?_ | refine W_skip ?_ | refine W_ret ?_ | refine W_exit ?_) | (first | refine L_nil ?_ | (apply L_plain; first | (apply L_go; refine lP ?_) | (apply L_mf; refine lMakeFunc ?_) | refine lY ?_) | (apply L_guarded; first | refine lGT ?_ | refine lGF ?_ | (apply L_go; refine lPG ?_) | refine lG ?_)) | (refine lAlloc ?_; intro _ w hw) | (refine lBox ?_; intro _ w hw) | (refine lStore ?_; intro w hw))
        exact ⟨_, rfl, .slice ag ng cg, .slice ah nh ch, .slice ai ni ci, rfl, ((hw.ds [1]).ps [0, 2, 3, 3])⟩
end Go.Proofs.Ytekdbdhkpolooaa
