/- A service is registered: the whole. -/
import Derived.Test.YtekdbdhkpolooaaN4
open Go Mk
namespace Go.Proofs.Ytekdbdhkpolooaa
set_option maxHeartbeats 4000000
attribute [local irreducible] Calls

def badNums (v : Service) : Bool := !coreS v.Core || decide (v.Object < 0) || decide (1099511627775 < v.Object) || decide (v.Kind < 0) || decide (65535 < v.Kind)
def regErr (m : List (ByteArray × Service)) (v : Service) : Int :=
  if nameS v.Name = false then 63 else if badNums v = true then 1 else if (aGet m v.Name).isSome = true then 56 else if m.length = 64 then 15 else 0
def regM (m : List (ByteArray × Service)) (v : Service) : List (ByteArray × Service) := if regErr m v = 0 then aSet m v.Name v else m
def regW (m : List (ByteArray × Service)) (ws : List Waiter) (v : Service) : List Waiter := if regErr m v = 0 then ws.filter fun x => !decide (x.Name = v.Name) else ws
def regF (m : List (ByteArray × Service)) (ws : List Waiter) (v : Service) : List Found := if regErr m v = 0 then foundOf v ws else []

theorem Register_any (Γ : Gho) (S : List Res) (w : World) (b bm : Nat) (vs : Value) (m : List (ByteArray × Service)) (ws : List Waiter) (v : Service) [SB v.Name] (hws : ws.length ≤ 64) (hw : Wd Γ (srvL b bm vs m ws ++ S) w) :
    Calls Try.prog 9 #[.pointer (some ⟨b, 0, none⟩), .agg (enc v).toArray] w fun e w' => ∃ fv vs', e = .returned (.tuple #[fv, .int .i64 (regErr m v)]) ∧
      Wd Γ (.own fv 47 6 ((regF m ws v).map enc) :: (srvL b bm vs' (regM m v) (regW m ws v) ++ S)) w' := by
  unfold srvL at *
  obtain ⟨a, n, c, rfl, hn, hnc, hc⟩ := hw.own_shape (i := 2) rfl
  simp only [List.length_map] at hn
  refine calls_of_W Try.func9 rfl rfl ?_
  repeat (first | (first | refine W_seq ?_ | refine W_block ?_ | refine W_region ?_ | refine W_skip ?_ | refine W_ret ?_ | refine W_exit ?_) | (first | refine L_nil ?_ | (apply L_plain; first | (apply L_go; refine lP ?_) | (apply L_mf; refine lMakeFunc ?_) | refine lY ?_) | (apply L_guarded; first | refine lGT ?_ | refine lGF ?_ | (apply L_go; refine lPG ?_) | refine lG ?_)))
  refine lBox ?_
  intro bv w hw
  repeat (first | (first | refine W_seq ?_ | refine W_block ?_ | refine W_region ?_ | refine W_skip ?_ | refine W_ret ?_ | refine W_exit ?_) | (first | refine L_nil ?_ | (apply L_plain; first | (apply L_go; refine lP ?_) | (apply L_mf; refine lMakeFunc ?_) | refine lY ?_) | (apply L_guarded; first | refine lGT ?_ | refine lGF ?_ | (apply L_go; refine lPG ?_) | refine lG ?_)))
  refine W_mixE 1 [[],[],[],[],[],[],[],[],[],[],[0],[0],[]] [[],[],[],[],[],[],[],[],[],[],[0],[0],[]] [[6]] ?_
  repeat (first | refine mY ?_ | refine mP ?_ | refine mEndAt ?_ | refine mEnd0 ?_ | refine mEnd ?_)
  refine mAlloc ?_
  refine mStoreAt ?_
  repeat (first | refine mY ?_ | refine mP ?_ | refine mEndAt ?_ | refine mEnd0 ?_ | refine mEnd ?_)
  intro be w hw
  repeat (first | (first | refine W_seq ?_ | refine W_block ?_ | refine W_region ?_ | refine W_skip ?_ | refine W_ret ?_ | refine W_exit ?_) | (first | refine L_nil ?_ | (apply L_plain; first | (apply L_go; refine lP ?_) | (apply L_mf; refine lMakeFunc ?_) | refine lY ?_) | (apply L_guarded; first | refine lGT ?_ | refine lGF ?_ | (apply L_go; refine lPG ?_) | refine lG ?_)))
  have nil : ∀ {w} {S' : List Res}, Wd Γ ([Res.blk be (.cells (enc ((aGet m v.Name).getD default)).toArray 31)] ++ Res.blk bv (.cells (enc v).toArray 31) :: S') w → Wd Γ (.own (.slice none 0 0) 47 6 [] :: S') w := fun h => Wd.addNil h.drop.drop
  refine W_cond rfl (fun h1 => ?_) (fun h1 => ?_)
  · repeat (first | (first | refine W_seq ?_ | refine W_block ?_ | refine W_region ?_ | refine W_skip ?_ | refine W_ret ?_ | refine W_exit ?_) | (first | refine L_nil ?_ | (apply L_plain; first | (apply L_go; refine lP ?_) | (apply L_mf; refine lMakeFunc ?_) | refine lY ?_) | (apply L_guarded; first | refine lGT ?_ | refine lGF ?_ | (apply L_go; refine lPG ?_) | refine lG ?_)))
    have hE : regErr m v = 63 := by simp [regErr, show nameS v.Name = false from by simpa using h1]
    refine ⟨_, rfl, .slice none 0 0, .slice a n c, by rw [hE]; rfl, ?_⟩
    rw [show regM m v = m from by simp [regM, hE], show regW m ws v = ws from by simp [regW, hE], show regF m ws v = [] from by simp [regF, hE]]
    exact nil hw
  have h1 : nameS v.Name = true := by simpa using h1
  repeat (first | (first | refine W_seq ?_ | refine W_block ?_ | refine W_region ?_ | refine W_skip ?_ | refine W_ret ?_ | refine W_exit ?_) | (first | refine L_nil ?_ | (apply L_plain; first | (apply L_go; refine lP ?_) | (apply L_mf; refine lMakeFunc ?_) | refine lY ?_) | (apply L_guarded; first | refine lGT ?_ | refine lGF ?_ | (apply L_go; refine lPG ?_) | refine lG ?_)))
  refine W_cond rfl (fun h2 => ?_) (fun h2 => ?_)
  · have h2 : badNums v = true := h2
    repeat (first | (first | refine W_seq ?_ | refine W_block ?_ | refine W_region ?_ | refine W_skip ?_ | refine W_ret ?_ | refine W_exit ?_) | (first | refine L_nil ?_ | (apply L_plain; first | (apply L_go; refine lP ?_) | (apply L_mf; refine lMakeFunc ?_) | refine lY ?_) | (apply L_guarded; first | refine lGT ?_ | refine lGF ?_ | (apply L_go; refine lPG ?_) | refine lG ?_)))
    have hE : regErr m v = 1 := by simp [regErr, h1, h2]
    refine ⟨_, rfl, .slice none 0 0, .slice a n c, by rw [hE]; rfl, ?_⟩
    rw [show regM m v = m from by simp [regM, hE], show regW m ws v = ws from by simp [regW, hE], show regF m ws v = [] from by simp [regF, hE]]
    exact nil hw
  have h2 : badNums v = false := h2
  repeat (first | (first | refine W_seq ?_ | refine W_block ?_ | refine W_region ?_ | refine W_skip ?_ | refine W_ret ?_ | refine W_exit ?_) | (first | refine L_nil ?_ | (apply L_plain; first | (apply L_go; refine lP ?_) | (apply L_mf; refine lMakeFunc ?_) | refine lY ?_) | (apply L_guarded; first | refine lGT ?_ | refine lGF ?_ | (apply L_go; refine lPG ?_) | refine lG ?_)))
  refine W_cond rfl (fun h3 => ?_) (fun h3 => ?_)
  · have h3 : (aGet m v.Name).isSome = true := h3
    repeat (first | (first | refine W_seq ?_ | refine W_block ?_ | refine W_region ?_ | refine W_skip ?_ | refine W_ret ?_ | refine W_exit ?_) | (first | refine L_nil ?_ | (apply L_plain; first | (apply L_go; refine lP ?_) | (apply L_mf; refine lMakeFunc ?_) | refine lY ?_) | (apply L_guarded; first | refine lGT ?_ | refine lGF ?_ | (apply L_go; refine lPG ?_) | refine lG ?_)))
    have hE : regErr m v = 56 := by simp [regErr, h1, h2, h3]
    refine ⟨_, rfl, .slice none 0 0, .slice a n c, by rw [hE]; rfl, ?_⟩
    rw [show regM m v = m from by simp [regM, hE], show regW m ws v = ws from by simp [regW, hE], show regF m ws v = [] from by simp [regF, hE]]
    exact nil hw
  have h3 : (aGet m v.Name).isSome = false := h3
  repeat (first | (first | refine W_seq ?_ | refine W_block ?_ | refine W_region ?_ | refine W_skip ?_ | refine W_ret ?_ | refine W_exit ?_) | (first | refine L_nil ?_ | (apply L_plain; first | (apply L_go; refine lP ?_) | (apply L_mf; refine lMakeFunc ?_) | refine lY ?_) | (apply L_guarded; first | refine lGT ?_ | refine lGF ?_ | (apply L_go; refine lPG ?_) | refine lG ?_)))
  refine W_cond rfl (fun h4 => ?_) (fun h4 => ?_)
  · have h4 : m.length = 64 := by have h5 := of_decide_eq_true h4; omega
    repeat (first | (first | refine W_seq ?_ | refine W_block ?_ | refine W_region ?_ | refine W_skip ?_ | refine W_ret ?_ | refine W_exit ?_) | (first | refine L_nil ?_ | (apply L_plain; first | (apply L_go; refine lP ?_) | (apply L_mf; refine lMakeFunc ?_) | refine lY ?_) | (apply L_guarded; first | refine lGT ?_ | refine lGF ?_ | (apply L_go; refine lPG ?_) | refine lG ?_)))
    have hE : regErr m v = 15 := by simp [regErr, h1, h2, h3, h4]
    refine ⟨_, rfl, .slice none 0 0, .slice a n c, by rw [hE]; rfl, ?_⟩
    rw [show regM m v = m from by simp [regM, hE], show regW m ws v = ws from by simp [regW, hE], show regF m ws v = [] from by simp [regF, hE]]
    exact nil hw
  have h4 : ¬ m.length = 64 := by have h5 := of_decide_eq_false h4; omega
  have hE : regErr m v = 0 := by simp [regErr, h1, h2, h3, h4]
  repeat (first | (first | refine W_seq ?_ | refine W_block ?_ | refine W_region ?_ | refine W_skip ?_ | refine W_ret ?_ | refine W_exit ?_) | (first | refine L_nil ?_ | (apply L_plain; first | (apply L_go; refine lP ?_) | (apply L_mf; refine lMakeFunc ?_) | refine lY ?_) | (apply L_guarded; first | refine lGT ?_ | refine lGF ?_ | (apply L_go; refine lPG ?_) | refine lG ?_)))
  have hw : Wd Γ ([Res.blk be (.cells (enc ((aGet m v.Name).getD default)).toArray 31), Res.blk bv (.cells (enc v).toArray 31), .blk b (.cells #[.map (some bm), .slice a n c] 64), .own (.slice a n c) 35 3 (ws.map enc)] ++ (Res.ms svcV bm m :: S)) w :=
    hw.perm ((((List.Perm.swap _ _ _).cons _).cons _).cons _)
  refine W_mix1 _ _ [[],[],[],[],[],[],[],[0]] [[],[],[],[],[],[],[],[0]] hw ?_
  repeat (first | refine mY ?_ | refine mP ?_ | refine mEndAt ?_ | refine mEnd0 ?_ | refine mEnd ?_)
  refine mM (v := undef) (fun _ => Res.ms svcV bm (aSet m v.Name v) :: S) (fun Y w g hw => ?_) ?_
  · exact s_mapUpdS (f := svcV) (v := v) (a := v.Name) (l := m) (i := 4) hw rfl rfl rfl rfl (fun w' hw' => ⟨hw', fun _ => rfl⟩)
  repeat (first | refine mY ?_ | refine mP ?_ | refine mEndAt ?_ | refine mEnd0 ?_ | refine mEnd ?_)
  intro w hw
  have hw : Wd Γ ([Res.blk be (.cells (enc ((aGet m v.Name).getD default)).toArray 31), Res.blk bv (.cells (enc v).toArray 31), .blk b (.cells #[.map (some bm), .slice a n c] 64), .own (.slice a n c) 35 3 (ws.map enc)] ++ (Res.ms svcV bm (aSet m v.Name v) :: S ++ [])) w := hw
  rw [List.append_nil] at hw
  repeat (first | (first | refine W_seq ?_ | refine W_block ?_ | refine W_region ?_ | refine W_skip ?_ | refine W_ret ?_ | refine W_exit ?_) | (first | refine L_nil ?_ | (apply L_plain; first | (apply L_go; refine lP ?_) | (apply L_mf; refine lMakeFunc ?_) | refine lY ?_) | (apply L_guarded; first | refine lGT ?_ | refine lGF ?_ | (apply L_go; refine lPG ?_) | refine lG ?_)))
  refine lAlloc ?_
  intro bf w hw
  repeat (first | (first | refine W_seq ?_ | refine W_block ?_ | refine W_region ?_ | refine W_skip ?_ | refine W_ret ?_ | refine W_exit ?_) | (first | refine L_nil ?_ | (apply L_plain; first | (apply L_go; refine lP ?_) | (apply L_mf; refine lMakeFunc ?_) | refine lY ?_) | (apply L_guarded; first | refine lGT ?_ | refine lGF ?_ | (apply L_go; refine lPG ?_) | refine lG ?_)))
  refine lCall ?_
  have hw := Wd.closeEx (X := fun fv : Value => [.blk bf (.cells #[fv] 25), .own fv 47 6 (([] : List Found).map enc)]) (.slice none 0 0) ((Wd.addNil (a := none) (E := 47) (sz := 6) hw).perm (.swap _ _ _))
  have hw : Wd Γ (.own (.slice a n c) 35 3 (ws.map enc) :: Rf bf [] :: .blk bv (.cells (enc v).toArray 31) :: .blk be (.cells (enc ((aGet m v.Name).getD default)).toArray 31) :: .blk b (.cells #[.map (some bm), .slice a n c] 64) :: Res.ms svcV bm (aSet m v.Name v) :: S) w := ((hw.pull (i := 2) rfl).pull (i := 1) rfl).pull (i := 4) rfl
  refine (DeleteFunc_any (fun k => Rf bf (foundOf v (ws.take k)) :: .blk bv (.cells (enc v).toArray 31) :: .blk be (.cells (enc ((aGet m v.Name).getD default)).toArray 31) :: .blk b (.cells #[.map (some bm), .slice a n c] 64) :: Res.ms svcV bm (aSet m v.Name v) :: S) Γ w _ ws 27 [] [.pointer (some ⟨bv, 0, none⟩), .pointer (some ⟨bf, 0, none⟩)] (fun x => decide (x.Name = v.Name)) hw (fun R k x w hx hw => ?_)).mono ?_
  · have hl : (foundOf v (ws.take k)).length ≤ 1000 := by
      have := List.length_filter_le (fun x : Waiter => decide (x.Name = v.Name)) (ws.take k)
      simp only [foundOf, List.length_map, List.length_take] at *; omega
    refine (Register1_any Γ _ w bf bv v (foundOf v (ws.take k)) x hl ((Wd.swapApp (B := [_, _]) hw))).mono ?_
    rintro e w' ⟨he, hw'⟩
    refine ⟨he, ?_⟩
    have h5 : foundOf v (ws.take (k + 1)) = foundOf v (ws.take k) ++ (if x.Name = v.Name then [mkF v x] else []) := by
      rw [List.take_add_one, hx]
      unfold foundOf
      rw [List.filter_append, List.map_append]
      congr 1
      by_cases h6 : x.Name = v.Name <;> simp [h6]
    rw [h5]
    exact Wd.swapApp (A := [_, _]) hw'
  rintro e w ⟨vs', rfl, hw⟩
  refine ⟨_, rfl, ?_⟩
  rw [List.take_length] at hw
  obtain ⟨a', n', c', rfl, -, -, -⟩ := hw.own_shape (i := 0) rfl
  repeat (first | (first | refine W_seq ?_ | refine W_block ?_ | refine W_region ?_ | refine W_skip ?_ | refine W_ret ?_ | refine W_exit ?_) | (first | refine L_nil ?_ | (apply L_plain; first | (apply L_go; refine lP ?_) | (apply L_mf; refine lMakeFunc ?_) | refine lY ?_) | (apply L_guarded; first | refine lGT ?_ | refine lGF ?_ | (apply L_go; refine lPG ?_) | refine lG ?_)))
  refine lStore ?_
  intro w hw
  obtain ⟨fv, hw⟩ := (hw.pull (i := 1) rfl).openEx
  repeat (first | (first | refine W_seq ?_ | refine W_block ?_ | refine W_region ?_ | refine W_skip ?_ | refine W_ret ?_ | refine W_exit ?_) | (first | refine L_nil ?_ | (apply L_plain; first | (apply L_go; refine lP ?_) | (apply L_mf; refine lMakeFunc ?_) | refine lY ?_) | (apply L_guarded; first | refine lGT ?_ | refine lGF ?_ | (apply L_go; refine lPG ?_) | refine lG ?_)))
  refine ⟨_, rfl, fv, .slice a' n' c', by rw [hE]; rfl, ?_⟩
  rw [show regM m v = aSet m v.Name v from by simp [regM, hE], show regW m ws v = ws.filter (fun x => !decide (x.Name = v.Name)) from by simp [regW, hE], show regF m ws v = foundOf v ws from by simp [regF, hE]]
  exact (((((hw.dropAt 0).dropAt 2).dropAt 2).pull (i := 3) rfl).pull (i := 3) rfl).pull (i := 2) rfl
end Go.Proofs.Ytekdbdhkpolooaa
