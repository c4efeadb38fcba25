/- The services in order. -/
import Derived.Test.YtekdbdhkpolooaaN5
import Derived.Test.YtekdbdhkpolooaaL1
open Go Mk
namespace Go.Proofs.Ytekdbdhkpolooaa
set_option maxHeartbeats 4000000
attribute [local irreducible] Calls

/-- slices.AppendSeq onto nil. -/
theorem AppendSeq_svc {Γ : Gho} {g N : Nat} {fst cap : Array Value} {R : List Res} {V : List Service → Prop} {w : World} [FnOk Try.prog g] (hseq : SeqC Try.prog Γ g fst cap N (fun x : Service => .agg (enc x).toArray) R V) (hN : N ≤ 1000000) (hw : Wd Γ R w) :
    Calls Try.prog 60 #[.slice none 0 0, .func (.func g) fst cap] w fun e w' => ∃ v' xs, e = .returned v' ∧ V xs ∧ Wd Γ (.own v' 31 4 (xs.map enc) :: R) w' := by
  refine (callsIn_wide (n := 0)).1 (callsIn_of_wp_marks Try.func60 rfl trivial ?_)
  refine wpIn_seq (wpIn_WF (n := Try.f60.ntmps) (ds := []) ?_ rfl rfl)
  rw [fnOf_entry (by rfl)]
  refine WF_region (xBox ?_)
  intro bs w hw
  refine xY ?_
  refine LX_nil ?_
  rintro a0 hd0 hs0 hf0
  refine wpIn_seq (wpIn_seq (wpIn_WF (n := Try.f60.ntmps) (ds := []) ?_ hd0 hs0))
  rw [hf0]
  refine WF_region (xY ?_)
  refine LX_nil ?_
  rintro a1 hd1 hs1 hf1
  refine wpIn_block (wp_rangeFunc hw (f := g) (fst := fst) (cap := cap) (by rw [eval_fnOf, hf1]; rfl) ?_)
  intro rc r l w hr1 hr2 hr3 hr4 hr5 hr6 hw
  refine (hseq l (fun xs => [.blk l (.loop rc), .blk r (.deferred (some [])), Res.ex fun sv : Value => [.blk bs (.cells #[sv] 36), .own sv 31 4 (xs.map enc)]]) w ?_ ?_).mono ?_
  · rintro xs x R' w hN' hw
    have hl := hw.at_blk (i := 0) rfl
    refine ⟨_, _, _, _, run_yield hl (by rw [hr4]; rfl), ?_⟩
    rw [hr3, hr4, hr5, hr6]
    rw [oneParam]
    refine round_any (n := Try.f60.ntmps) hr1 hr2 (by simpa using hs1) hw ?_
    rw [frParam a1 7 _ (by rw [hs1]; decide), hf1]
    refine WF_region (xAlloc ?_)
    intro be w hw
    refine xStore ?_
    intro w hw
    refine LX_nil ⟨rfl, _, hw.pull (i := 1) rfl, fun w hw => ?_⟩
    obtain ⟨sv, hw⟩ := (hw.pull (i := 3) rfl).openEx
    obtain ⟨a, n, c, rfl, hn, hnc, hc⟩ := hw.own_shape (i := 1) rfl
    simp only [List.length_map] at hn
    refine WF_block (WF_region ?_)
    refine xY (v := .slice a n c) ?_
    refine xY ?_
    refine xBuildSlice [enc x] ?_
    intro a2 w hw
    refine xApp (rows2 := [enc x]) ?_ (Wd.own_rd (i := 0) hw rfl)
    intro v' w hw
    obtain ⟨a3, n3, c3, rfl, -, -, -⟩ := hw.own_shape (i := 2) rfl
    refine xStore ?_
    intro w hw
    refine LX_nil ⟨rfl, _, hw.pull (i := 3) rfl, fun w hw => ⟨rfl, ?_⟩⟩
    have hw := (((hw.dropAt 1).dropAt 3).pull (i := 2) rfl).pull (i := 2) rfl
    have hw := Wd.closeEx (X := fun sv : Value => [.blk bs (.cells #[sv] 36), .own sv 31 4 ((xs ++ [x]).map enc)]) (.slice a3 n3 c3) (by rw [List.map_append]; exact hw)
    exact (hw.pull (i := 2) rfl).pull (i := 2) rfl
  · have hw := (Wd.addNil (a := none) (E := 31) (sz := 4) hw).pull (i := 3) rfl
    have hw := Wd.closeEx (X := fun sv : Value => [.blk bs (.cells #[sv] 36), .own sv 31 4 (([] : List Service).map enc)]) (.slice none 0 0) hw
    exact (hw.pull (i := 2) rfl).pull (i := 2) rfl
  · rintro e w ⟨he, xs, hV, hw⟩
    refine ⟨he, _, hw, fun w hw => ?_⟩
    show Code.wpIn _ _ _ _ _ _ _
    obtain ⟨sv, hw⟩ := (hw.pull (i := 1) rfl).openEx
    obtain ⟨a, n, c, rfl, hn, hnc, hc⟩ := hw.own_shape (i := 1) rfl
    refine wpIn_seq (wpIn_WF (n := Try.f60.ntmps) (ds := [{ target := .collected r, args := #[] }]) ?_ (by rw [hd1]) hs1)
    have hfa : fnOf ({ tmps := a1.tmps, defers := { target := .collected r, args := #[] } :: a1.defers } : Act) = fnOf a1 := rfl
    rw [hfa, hf1]
    refine WF_region (xY (v := .slice a n c) ?_)
    refine xY ?_
    refine LX_nil ?_
    rintro a2 hd2 hs2 hf2
    refine wpIn_ret ?_
    show LeavesInM _ _ _ _ _ _ _ _ _
    rw [hd2]
    have hr := hw.at_blk (i := 2) rfl
    have hlt : r < w.heap.size := (Array.getElem?_eq_some_iff.1 hr).1
    have hw2 := hw.set_blk (i := 2) (w' := w.putObj r (.deferred none)) rfl ⟨rfl, rfl, rfl, Nat.le_refl _, by simp⟩ (World.putObj_heap_same hlt) fun k _ hne => World.putObj_heap_other hne
    refine ⟨by simp, .inl ⟨r, _, rfl, run_takeDeferred hr, ?_⟩⟩
    refine ⟨.slice a n c, ?_, _, xs, rfl, hV, (hw2.dropAt 0).dropAt 1⟩
    have h4 : a2.tmps.getD 4 undef = .slice a n c := by
      show fnOf a2 4 = _
      rw [hf2]; rfl
    rw [← h4]
    exact results_tmp rfl _ _ _
theorem Collect_svc {Γ : Gho} {g N : Nat} {fst cap : List Value} {R : List Res} {V : List Service → Prop} {w : World} [FnOk Try.prog g] (hseq : SeqC Try.prog Γ g fst.toArray cap.toArray N (fun x : Service => .agg (enc x).toArray) R V) (hN : N ≤ 1000000) (hw : Wd Γ R w) :
    Calls Try.prog 49 #[.func (.func g) fst.toArray cap.toArray] w fun e w' => ∃ v' xs, e = .returned v' ∧ V xs ∧ Wd Γ (.own v' 31 4 (xs.map enc) :: R) w' := by
  refine calls_of_W Try.func49 rfl rfl ?_
  repeat (first | (first | refine W_seq ?_ | refine W_block ?_ | refine W_region ?_ | refine W_skip ?_ | refine W_ret ?_ | refine W_exit ?_) | (first | refine L_nil ?_ | (apply L_plain; first | (apply L_go; refine lP ?_) | (apply L_mf; refine lMakeFunc ?_) | refine lY ?_) | (apply L_guarded; first | refine lGT ?_ | refine lGF ?_ | (apply L_go; refine lPG ?_) | refine lG ?_)))
  refine lCall ?_
  refine (AppendSeq_svc hseq hN hw).mono ?_
  rintro e w ⟨v', xs, rfl, hV, hw⟩
  refine ⟨_, rfl, ?_⟩
  repeat (first | (first | refine W_seq ?_ | refine W_block ?_ | refine W_region ?_ | refine W_skip ?_ | refine W_ret ?_ | refine W_exit ?_) | (first | refine L_nil ?_ | (apply L_plain; first | (apply L_go; refine lP ?_) | (apply L_mf; refine lMakeFunc ?_) | refine lY ?_) | (apply L_guarded; first | refine lGT ?_ | refine lGF ?_ | (apply L_go; refine lPG ?_) | refine lG ?_)))
  exact ⟨_, rfl, _, xs, rfl, hV, hw⟩

/-- maps.Values: what is handed on are the map's elements, each once. -/
theorem Values1_svc {Γ : Gho} {bx bm clock : Nat} {en : Array MapEntry} {R : List Res} {l : List (ByteArray × Service)} [Inhabited Service] (he : en.toList.map (fun e => (e.key, e.val)) = l.map fun p => (.string p.1, svcV p.2)) (hb : (en.toList.map (·.born)).Nodup) (hc : ∀ e ∈ en.toList, e.born < clock) :
    SeqC Try.prog Γ 51 #[] #[.pointer (some ⟨bx, 0, none⟩)] l.length (fun x : Service => .agg (enc x).toArray) (.blk bx (.cells #[.map (some bm)] 62) :: .blk bm (.map en clock) :: R) (fun xs => xs.Perm (l.map (·.2))) := by
  intro yl I w hY hw
  have hsz : en.size = l.length := by have := congrArg List.length he; simpa using this
  refine calls_of_W Try.func51 rfl rfl ?_
  have hw : Wd Γ (.blk bx (.cells #[.map (some bm)] 62) :: .blk bm (.map en clock) :: (I [] ++ R)) w := hw.perm ((List.perm_middle (l₁ := I [])).trans (List.Perm.cons _ List.perm_middle))
  repeat (first | (first | refine W_seq ?_ | refine W_block ?_ | refine W_region ?_ | refine W_skip ?_ | refine W_ret ?_ | refine W_exit ?_) | (first | refine L_nil ?_ | (apply L_plain; first | (apply L_go; refine lP ?_) | (apply L_mf; refine lMakeFunc ?_) | refine lY ?_) | (apply L_guarded; first | refine lGT ?_ | refine lGF ?_ | (apply L_go; refine lPG ?_) | refine lG ?_)))
  refine lRange ?_
  intro r w hw
  repeat (first | (first | refine W_seq ?_ | refine W_block ?_ | refine W_region ?_ | refine W_skip ?_ | refine W_ret ?_ | refine W_exit ?_) | (first | refine L_nil ?_ | (apply L_plain; first | (apply L_go; refine lP ?_) | (apply L_mf; refine lMakeFunc ?_) | refine lY ?_) | (apply L_guarded; first | refine lGT ?_ | refine lGF ?_ | (apply L_go; refine lPG ?_) | refine lG ?_)))
  refine W_loop (fun μ ρ w => ∃ (seen : Array Nat) (idx : List Nat) (c0 : Nat), Seen en seen idx ∧ μ + idx.length = l.length ∧ clock ≤ c0 ∧ Has ρ [(0, .func (.yield yl) #[] #[]), (6, .pointer (some ⟨r, 0, none⟩))] ∧ Wd Γ (.blk r (.mapIter (some bm) clock seen c0) :: .blk bx (.cells #[.map (some bm)] 62) :: .blk bm (.map en clock) :: (I (idx.map fun i => (l.getD i default).2) ++ R)) w) l.length ⟨#[], [], clock, Seen.nil, by simp, Nat.le_refl _, ⟨rfl, rfl, trivial⟩, hw⟩ ?_
  rintro μ ρ w ⟨seen, idx, c0, hseen, hμ, hc0, hρ, hw⟩
  rw [hρ.eq]
  repeat (first | (first | refine W_seq ?_ | refine W_block ?_ | refine W_region ?_ | refine W_skip ?_ | refine W_ret ?_ | refine W_exit ?_) | (first | refine L_nil ?_ | (apply L_plain; first | (apply L_go; refine lP ?_) | (apply L_mf; refine lMakeFunc ?_) | refine lY ?_) | (apply L_guarded; first | refine lGT ?_ | refine lGF ?_ | (apply L_go; refine lPG ?_) | refine lG ?_)))
  refine lNext (fun h0 => ?_) (fun e w hmem hw => ?_) hc hc0
  · repeat (first | (first | refine W_seq ?_ | refine W_block ?_ | refine W_region ?_ | refine W_skip ?_ | refine W_ret ?_ | refine W_exit ?_) | (first | refine L_nil ?_ | (apply L_plain; first | (apply L_go; refine lP ?_) | (apply L_mf; refine lMakeFunc ?_) | refine lY ?_) | (apply L_guarded; first | refine lGT ?_ | refine lGF ?_ | (apply L_go; refine lPG ?_) | refine lG ?_)))
    refine W_cond_false rfl ?_
    repeat (first | (first | refine W_seq ?_ | refine W_block ?_ | refine W_region ?_ | refine W_skip ?_ | refine W_ret ?_ | refine W_exit ?_) | (first | refine L_nil ?_ | (apply L_plain; first | (apply L_go; refine lP ?_) | (apply L_mf; refine lMakeFunc ?_) | refine lY ?_) | (apply L_guarded; first | refine lGT ?_ | refine lGF ?_ | (apply L_go; refine lPG ?_) | refine lG ?_)))
    have hp := hseen.all hb h0
    refine ⟨_, rfl, ⟨_, rfl⟩, idx.map fun i => (l.getD i default).2, ?_, hw.drop.perm ?_⟩
    · have := hp.map fun i => (l.getD i default).2
      rw [hsz, range_map_get l default (·.2)] at this
      exact this
    · exact (((List.perm_middle (l₁ := I (idx.map fun i => (l.getD i default).2))).trans (List.Perm.cons _ List.perm_middle))).symm
  · obtain ⟨i, hie, hin, hil, hseen'⟩ := hseen.next hmem
    have hem : e ∈ en.toList := (left_mem.1 hmem).1
    obtain ⟨⟨k, x⟩, hlx⟩ := get_lt (l := l) (k := i) (by omega)
    have hev : e.val = svcV x := by
      have h1 : (en.toList.map (fun e => (e.key, e.val)))[i]? = some (e.key, e.val) := by rw [List.getElem?_map, Array.getElem?_toList, hie]; rfl
      rw [he, List.getElem?_map, hlx] at h1
      simp at h1
      exact h1.2.symm
    have hxx : (l.getD i default).2 = x := by simp [List.getD_eq_getElem?_getD, hlx]
    have hlen := hseen'.len
    repeat (first | (first | refine W_seq ?_ | refine W_block ?_ | refine W_region ?_ | refine W_skip ?_ | refine W_ret ?_ | refine W_exit ?_) | (first | refine L_nil ?_ | (apply L_plain; first | (apply L_go; refine lP ?_) | (apply L_mf; refine lMakeFunc ?_) | refine lY ?_) | (apply L_guarded; first | refine lGT ?_ | refine lGF ?_ | (apply L_go; refine lPG ?_) | refine lG ?_)))
    refine W_cond_true rfl ?_
    repeat (first | (first | refine W_seq ?_ | refine W_block ?_ | refine W_region ?_ | refine W_skip ?_ | refine W_ret ?_ | refine W_exit ?_) | (first | refine L_nil ?_ | (apply L_plain; first | (apply L_go; refine lP ?_) | (apply L_mf; refine lMakeFunc ?_) | refine lY ?_) | (apply L_guarded; first | refine lGT ?_ | refine lGF ?_ | (apply L_go; refine lPG ?_) | refine lG ?_)))
    refine lEntry ?_ hem hb
    rw [hev]
    repeat (first | (first | refine W_seq ?_ | refine W_block ?_ | refine W_region ?_ | refine W_skip ?_ | refine W_ret ?_ | refine W_exit ?_) | (first | refine L_nil ?_ | (apply L_plain; first | (apply L_go; refine lP ?_) | (apply L_mf; refine lMakeFunc ?_) | refine lY ?_) | (apply L_guarded; first | refine lGT ?_ | refine lGF ?_ | (apply L_go; refine lPG ?_) | refine lG ?_)))
    refine lAlloc ?_
    intro be w hw
    refine lStore ?_
    intro w hw
    refine L_nil ?_
    refine W_seq ?_
    refine W_regionX ?_
    refine xY ?_
    refine xY ?_
    refine LX_yield (x := x) (xs := idx.map fun i => (l.getD i default).2) (R := .blk be (.cells (enc x).toArray 31) :: .blk r (.mapIter (some bm) clock (seen.push e.born) clock) :: .blk bx (.cells #[.map (some bm)] 62) :: .blk bm (.map en clock) :: R) hY (by simp at *; omega) ?_ ?_
    · exact Wd.swapApp (A := [_, _, _, _]) (B := I (idx.map fun i => (l.getD i default).2)) (C := R) hw
    intro w hw
    refine xY ?_
    refine LX_nil ?_
    repeat (first | (first | refine W_seq ?_ | refine W_block ?_ | refine W_region ?_ | refine W_skip ?_ | refine W_ret ?_ | refine W_exit ?_) | (first | refine L_nil ?_ | (apply L_plain; first | (apply L_go; refine lP ?_) | (apply L_mf; refine lMakeFunc ?_) | refine lY ?_) | (apply L_guarded; first | refine lGT ?_ | refine lGF ?_ | (apply L_go; refine lPG ?_) | refine lG ?_)))
    refine W_cond_false rfl ?_
    repeat (first | (first | refine W_seq ?_ | refine W_block ?_ | refine W_region ?_ | refine W_skip ?_ | refine W_ret ?_ | refine W_exit ?_) | (first | refine L_nil ?_ | (apply L_plain; first | (apply L_go; refine lP ?_) | (apply L_mf; refine lMakeFunc ?_) | refine lY ?_) | (apply L_guarded; first | refine lGT ?_ | refine lGF ?_ | (apply L_go; refine lPG ?_) | refine lG ?_)))
    refine ⟨μ - 1, by simp at *; omega, seen.push e.born, idx ++ [i], clock, hseen', by simp at *; omega, Nat.le_refl _, ⟨rfl, rfl, trivial⟩, ?_⟩
    rw [List.map_append, List.map_singleton, hxx]
    have hw := Wd.swapApp (A := I ((idx.map fun i => (l.getD i default).2) ++ [x])) (B := [_, _, _, _]) (C := R) hw
    exact hw.drop

theorem Values_svc {Γ : Gho} {S : List Res} {w : World} {m : Value} (hw : Wd Γ S w) :
    Calls Try.prog 33 #[m] w fun e w' => ∃ bx, e = .returned (.func (.func 51) #[] #[.pointer (some ⟨bx, 0, none⟩)]) ∧ Wd Γ (.blk bx (.cells m.cells 62) :: S) w' := by
  refine calls_of_W Try.func33 rfl rfl ?_
  repeat (first | (first | refine W_seq ?_ | refine W_block ?_ | refine W_region ?_ | refine W_skip ?_ | refine W_ret ?_ | refine W_exit ?_) | (first | refine L_nil ?_ | (apply L_plain; first | (apply L_go; refine lP ?_) | (apply L_mf; refine lMakeFunc ?_) | refine lY ?_) | (apply L_guarded; first | refine lGT ?_ | refine lGF ?_ | (apply L_go; refine lPG ?_) | refine lG ?_)))
  refine lBox ?_
  intro bx w hw
  repeat (first | (first | refine W_seq ?_ | refine W_block ?_ | refine W_region ?_ | refine W_skip ?_ | refine W_ret ?_ | refine W_exit ?_) | (first | refine L_nil ?_ | (apply L_plain; first | (apply L_go; refine lP ?_) | (apply L_mf; refine lMakeFunc ?_) | refine lY ?_) | (apply L_guarded; first | refine lGT ?_ | refine lGF ?_ | (apply L_go; refine lPG ?_) | refine lG ?_)))
  exact ⟨_, rfl, bx, rfl, hw⟩

def cmpB (a b : ByteArray) : Int := if bLt a b = true then -1 else if bLt b a = true then 1 else 0
instance (s : ByteArray) : PC Try.prog 52 [.string s] (.bool false) := ⟨fun w => by
  refine calls_of_W Try.func52 rfl rfl ?_
  repeat (first | (first | refine W_seq ?_ | refine W_block ?_ | refine W_region ?_ | refine W_skip ?_ | refine W_ret ?_ | refine W_exit ?_) | (first | refine L_nil ?_ | (apply L_plain; first | (apply L_go; refine lP ?_) | (apply L_mf; refine lMakeFunc ?_) | refine lY ?_) | (apply L_guarded; first | refine lGT ?_ | refine lGF ?_ | (apply L_go; refine lPG ?_) | refine lG ?_)))
  exact ⟨_, rfl, ret_b rfl (by simp), rfl⟩⟩
instance (a b : ByteArray) : PC Try.prog 35 [.string a, .string b] (.int .i64 (cmpB a b)) := ⟨fun w => by
  refine calls_of_W Try.func35 rfl rfl ?_
  repeat (first | (first | refine W_seq ?_ | refine W_block ?_ | refine W_region ?_ | refine W_skip ?_ | refine W_ret ?_ | refine W_exit ?_) | (first | refine L_nil ?_ | (apply L_plain; first | (apply L_go; refine lP ?_) | (apply L_mf; refine lMakeFunc ?_) | refine lY ?_) | (apply L_guarded; first | refine lGT ?_ | refine lGF ?_ | (apply L_go; refine lPG ?_) | refine lG ?_)))
  refine W_cond_false rfl ?_
  repeat (first | (first | refine W_seq ?_ | refine W_block ?_ | refine W_region ?_ | refine W_skip ?_ | refine W_ret ?_ | refine W_exit ?_) | (first | refine L_nil ?_ | (apply L_plain; first | (apply L_go; refine lP ?_) | (apply L_mf; refine lMakeFunc ?_) | refine lY ?_) | (apply L_guarded; first | refine lGT ?_ | refine lGF ?_ | (apply L_go; refine lPG ?_) | refine lG ?_)))
  refine W_cond_false rfl ?_
  repeat (first | (first | refine W_seq ?_ | refine W_block ?_ | refine W_region ?_ | refine W_skip ?_ | refine W_ret ?_ | refine W_exit ?_) | (first | refine L_nil ?_ | (apply L_plain; first | (apply L_go; refine lP ?_) | (apply L_mf; refine lMakeFunc ?_) | refine lY ?_) | (apply L_guarded; first | refine lGT ?_ | refine lGF ?_ | (apply L_go; refine lPG ?_) | refine lG ?_)))
  refine W_cond rfl (fun h => ?_) (fun h => ?_)
  · repeat (first | (first | refine W_seq ?_ | refine W_block ?_ | refine W_region ?_ | refine W_skip ?_ | refine W_ret ?_ | refine W_exit ?_) | (first | refine L_nil ?_ | (apply L_plain; first | (apply L_go; refine lP ?_) | (apply L_mf; refine lMakeFunc ?_) | refine lY ?_) | (apply L_guarded; first | refine lGT ?_ | refine lGF ?_ | (apply L_go; refine lPG ?_) | refine lG ?_)))
    exact ⟨_, rfl, ret_i rfl (by simp [cmpB, h]), rfl⟩
  repeat (first | (first | refine W_seq ?_ | refine W_block ?_ | refine W_region ?_ | refine W_skip ?_ | refine W_ret ?_ | refine W_exit ?_) | (first | refine L_nil ?_ | (apply L_plain; first | (apply L_go; refine lP ?_) | (apply L_mf; refine lMakeFunc ?_) | refine lY ?_) | (apply L_guarded; first | refine lGT ?_ | refine lGF ?_ | (apply L_go; refine lPG ?_) | refine lG ?_)))
  refine W_cond rfl (fun h2 => ?_) (fun h2 => ?_)
  · repeat (first | (first | refine W_seq ?_ | refine W_block ?_ | refine W_region ?_ | refine W_skip ?_ | refine W_ret ?_ | refine W_exit ?_) | (first | refine L_nil ?_ | (apply L_plain; first | (apply L_go; refine lP ?_) | (apply L_mf; refine lMakeFunc ?_) | refine lY ?_) | (apply L_guarded; first | refine lGT ?_ | refine lGF ?_ | (apply L_go; refine lPG ?_) | refine lG ?_)))
    exact ⟨_, rfl, ret_i rfl (by simp [cmpB, h, h2]), rfl⟩
  · repeat (first | (first | refine W_seq ?_ | refine W_block ?_ | refine W_region ?_ | refine W_skip ?_ | refine W_ret ?_ | refine W_exit ?_) | (first | refine L_nil ?_ | (apply L_plain; first | (apply L_go; refine lP ?_) | (apply L_mf; refine lMakeFunc ?_) | refine lY ?_) | (apply L_guarded; first | refine lGT ?_ | refine lGF ?_ | (apply L_go; refine lPG ?_) | refine lG ?_)))
    exact ⟨_, rfl, ret_i rfl (by simp [cmpB, h, h2]), rfl⟩⟩
theorem Services1_any (Γ : Gho) (S : List Res) (w : World) (a b : Service) (hw : Wd Γ S w) : Calls Try.prog 34 #[.agg (enc a).toArray, .agg (enc b).toArray] w fun e w' => e = .returned (.int .i64 (cmpB a.Name b.Name)) ∧ ∃ S', Wd Γ S' w' := by
  refine calls_of_W Try.func34 rfl rfl ?_
  repeat (first | (first | refine W_seq ?_ | refine W_block ?_ | refine W_region ?_ | refine W_skip ?_ | refine W_ret ?_ | refine W_exit ?_) | (first | refine L_nil ?_ | (apply L_plain; first | (apply L_go; refine lP ?_) | (apply L_mf; refine lMakeFunc ?_) | refine lY ?_) | (apply L_guarded; first | refine lGT ?_ | refine lGF ?_ | (apply L_go; refine lPG ?_) | refine lG ?_)))
  refine lBox ?_
  intro b1 w hw
  refine lBox ?_
  intro b2 w hw
  repeat (first | (first | refine W_seq ?_ | refine W_block ?_ | refine W_region ?_ | refine W_skip ?_ | refine W_ret ?_ | refine W_exit ?_) | (first | refine L_nil ?_ | (apply L_plain; first | (apply L_go; refine lP ?_) | (apply L_mf; refine lMakeFunc ?_) | refine lY ?_) | (apply L_guarded; first | refine lGT ?_ | refine lGF ?_ | (apply L_go; refine lPG ?_) | refine lG ?_)))
  exact ⟨_, rfl, rfl, _, hw⟩
theorem ltOf_name : Go.Proofs.ltOf (fun a b : Service => cmpB a.Name b.Name) = fun a b => bLt a.Name b.Name := by
  funext a b
  unfold Go.Proofs.ltOf cmpB
  cases h : bLt a.Name b.Name with
  | true => simp [h]
  | false => cases h2 : bLt b.Name a.Name <;> simp [h, h2]
theorem SortFunc_svc {Γ : Gho} {S : List Res} {w : World} {i : Nat} (xs : List Service) (v : Value) (hw : Wd Γ S w) (hi : S[i]? = some (.own v 31 4 (xs.map enc))) (hlen : xs.length ≤ 1000000) :
    Calls Try.prog 50 #[v, .func (.func 34) #[] #[]] w fun e w' => e = .returned (.tuple #[]) ∧ ∃ ys : List Service, ys.Perm xs ∧ (ys.Pairwise fun a b => bLt b.Name a.Name = false) ∧ Wd Γ (S.set i (.own v 31 4 (ys.map enc))) w' := by
  have := SortFunc_K (enc := (enc : Service → List Value)) lay_svc (fun a b : Service => cmpB a.Name b.Name) 34 [] xs v hw hi (fun _ => rfl) (fun x u hu => by simp [enc, GoT.enc] at hu; rcases hu with rfl | rfl | rfl | rfl <;> rfl) (by show TA Try.prog 31 4; infer_instance)
    (by rw [ltOf_name]; exact ⟨fun x => bLt_irrefl _, fun x y z h k => bLt_trans h k, fun x y z h k => by
      cases hh : bLt x.Name z.Name with
      | false => rfl
      | true =>
        cases h2 : bLt y.Name x.Name with
        | true => have := bLt_trans h2 hh; rw [this] at k; cases k
        | false => rw [bLt_total h h2] at hh; rw [hh] at k; cases k⟩)
    (by omega) (fun dk w' hw' x y => Services1_any (allG w') [] w' x y (allG_wd w'))
  rw [ltOf_name] at this
  exact this

/-- The services in the order of their names. -/
structure Sorted (m : List (ByteArray × Service)) (ys : List Service) : Prop where
  perm : ys.Perm (m.map (·.2))
  asc : ys.Pairwise fun a b => bLt b.Name a.Name = false

theorem Services_any (Γ : Gho) (S : List Res) (w : World) (b bm : Nat) (vs : Value) (m : List (ByteArray × Service)) (ws : List Waiter) (hm : m.length ≤ 64) (hw : Wd Γ (srvL b bm vs m ws ++ S) w) :
    Calls Try.prog 18 #[.pointer (some ⟨b, 0, none⟩)] w fun e w' => ∃ v ys, e = .returned v ∧ Sorted m ys ∧ Wd Γ (.own v 31 4 (ys.map enc) :: (srvL b bm vs m ws ++ S)) w' := by
  unfold srvL at *
  refine calls_of_W Try.func18 rfl rfl ?_
  repeat (first | (first | refine W_seq ?_ | refine W_block ?_ | refine W_region ?_ | refine W_skip ?_ | refine W_ret ?_ | refine W_exit ?_) | (first | refine L_nil ?_ | (apply L_plain; first | (apply L_go; refine lP ?_) | (apply L_mf; refine lMakeFunc ?_) | refine lY ?_) | (apply L_guarded; first | refine lGT ?_ | refine lGF ?_ | (apply L_go; refine lPG ?_) | refine lG ?_)))
  refine lCall ?_
  refine (Values_svc hw).mono ?_
  rintro e w ⟨bx, rfl, hw⟩
  refine ⟨_, rfl, ?_⟩
  repeat (first | (first | refine W_seq ?_ | refine W_block ?_ | refine W_region ?_ | refine W_skip ?_ | refine W_ret ?_ | refine W_exit ?_) | (first | refine L_nil ?_ | (apply L_plain; first | (apply L_go; refine lP ?_) | (apply L_mf; refine lMakeFunc ?_) | refine lY ?_) | (apply L_guarded; first | refine lGT ?_ | refine lGF ?_ | (apply L_go; refine lPG ?_) | refine lG ?_)))
  refine lCall ?_
  refine calls_of_W Try.func32 rfl rfl ?_
  repeat (first | (first | refine W_seq ?_ | refine W_block ?_ | refine W_region ?_ | refine W_skip ?_ | refine W_ret ?_ | refine W_exit ?_) | (first | refine L_nil ?_ | (apply L_plain; first | (apply L_go; refine lP ?_) | (apply L_mf; refine lMakeFunc ?_) | refine lY ?_) | (apply L_guarded; first | refine lGT ?_ | refine lGF ?_ | (apply L_go; refine lPG ?_) | refine lG ?_)))
  refine lCall ?_
  obtain ⟨en, clock, hw, he, hb, hc⟩ := Wd.openMp (hw.pull (i := 2) rfl)
  refine (Collect_svc (cap := [.pointer (some ⟨bx, 0, none⟩)]) (fst := []) (Values1_svc (bx := bx) (bm := bm) (l := m) he hb hc) (by omega) (hw.pull (i := 1) rfl)).mono ?_
  rintro e w ⟨v', xs, rfl, hV, hw⟩
  refine ⟨_, rfl, ?_⟩
  repeat (first | (first | refine W_seq ?_ | refine W_block ?_ | refine W_region ?_ | refine W_skip ?_ | refine W_ret ?_ | refine W_exit ?_) | (first | refine L_nil ?_ | (apply L_plain; first | (apply L_go; refine lP ?_) | (apply L_mf; refine lMakeFunc ?_) | refine lY ?_) | (apply L_guarded; first | refine lGT ?_ | refine lGF ?_ | (apply L_go; refine lPG ?_) | refine lG ?_)))
  refine lCall ?_
  refine (SortFunc_svc xs v' hw (i := 0) rfl (by have := hV.length_eq; simp at this; omega)).mono ?_
  rintro e w ⟨rfl, ys, hp, hs, hw⟩
  refine ⟨_, rfl, ?_⟩
  repeat (first | (first | refine W_seq ?_ | refine W_block ?_ | refine W_region ?_ | refine W_skip ?_ | refine W_ret ?_ | refine W_exit ?_) | (first | refine L_nil ?_ | (apply L_plain; first | (apply L_go; refine lP ?_) | (apply L_mf; refine lMakeFunc ?_) | refine lY ?_) | (apply L_guarded; first | refine lGT ?_ | refine lGF ?_ | (apply L_go; refine lPG ?_) | refine lG ?_)))
  refine ⟨_, rfl, _, rfl, ?_⟩
  repeat (first | (first | refine W_seq ?_ | refine W_block ?_ | refine W_region ?_ | refine W_skip ?_ | refine W_ret ?_ | refine W_exit ?_) | (first | refine L_nil ?_ | (apply L_plain; first | (apply L_go; refine lP ?_) | (apply L_mf; refine lMakeFunc ?_) | refine lY ?_) | (apply L_guarded; first | refine lGT ?_ | refine lGF ?_ | (apply L_go; refine lPG ?_) | refine lG ?_)))
  refine ⟨_, rfl, v', ys, rfl, ⟨hp.trans hV, hs⟩, ?_⟩
  have hw := Wd.closeMp (hw.pull (i := 2) rfl) he hb hc
  exact (((hw.pull (i := 1) rfl).dropAt 2).pull (i := 2) rfl).pull (i := 1) rfl
end Go.Proofs.Ytekdbdhkpolooaa
