/- NameDepart: the walk. -/
import Derived.Test.YtekdbdhkpolooaaN26
open Go Mk
namespace Go.Proofs.Ytekdbdhkpolooaa
set_option maxHeartbeats 4000000
attribute [local irreducible] Calls regErr regM regW regF awErr awW awF awS unErr unM caErr caW foundOf delAll lkErr rgErr ruErr ruS rLkErr rawErr rawW rawF rawS

theorem filter_take_get {α : Type} {p : α → Bool} : ∀ {l : List α} {i : Nat} {x : α}, l[i]? = some x → p x = true → (l.filter p)[((l.take i).filter p).length]? = some x
  | [], i, x, h, _ => by simp at h
  | y :: l, 0, x, h, hp => by
    simp at h; subst h; simp [hp]
  | y :: l, i + 1, x, h, hp => by
    have ih := filter_take_get (l := l) (i := i) (by simpa using h) hp
    cases hy : p y <;> simp [hy, ih]
theorem filter_take_succ {α : Type} {p : α → Bool} {l : List α} {i : Nat} {x : α} (h : l[i]? = some x) : ((l.take (i + 1)).filter p).length = ((l.take i).filter p).length + (if p x = true then 1 else 0) := by
  rw [List.take_add_one, h]
  cases hp : p x <;> simp [hp]
theorem filter_both {α : Type} {p : α → Bool} (l : List α) : (l.filter p).length + (l.filter fun x => !p x).length = l.length := by
  induction l with
  | nil => rfl
  | cons x l ih => cases h : p x <;> simp [h] <;> omega
theorem val_mem {m : List (ByteArray × Service)} {ss : List Service} (hV : Val m) (h2 : Sorted m ss) {v : Service} (hv : v ∈ ss) : nameS v.Name = true ∧ badNums v = false := by
  obtain ⟨p, hp, rfl⟩ := List.mem_map.1 (h2.perm.subset hv)
  exact hV p hp
theorem reg_again {m : List (ByteArray × Service)} {ws : List Waiter} {ss : List Service} (hI : Inv m ws) (hV : Val m) (h2 : Sorted m ss) {v : Service} {c c' : Int} (hv : v ∈ ss.filter (sCore c)) (h0 : 0 ≤ c') (h4 : c' < 4) (hl : (delAll m (ss.filter (sCore c))).length < 64) :
    regErr (delAll m (ss.filter (sCore c))) { v with Core := c' } = 0 := by
  have hvs := (List.mem_filter.1 hv).1
  obtain ⟨n1, n2⟩ := val_mem hV h2 hvs
  have hg : aGet (delAll m (ss.filter (sCore c))) v.Name = none := by
    rw [aGet_none, delAll_filter hI.nd]
    intro hm
    obtain ⟨p, hp, he⟩ := List.mem_map.1 hm
    have := (List.mem_filter.1 hp).2
    rw [List.any_eq_true.2 ⟨v, hv, by simp [he]⟩] at this
    simp at this
  have hb : badNums { v with Core := c' } = false := by
    unfold badNums at n2 ⊢
    simp only [Bool.or_eq_false_iff] at n2 ⊢
    refine ⟨⟨⟨⟨?_, n2.1.1.1.2⟩, n2.1.1.2⟩, n2.1.2⟩, n2.2⟩
    unfold coreS
    simp; omega
  unfold regErr
  show (if nameS v.Name = false then (63 : Int) else if badNums { v with Core := c' } = true then 1 else if (aGet _ v.Name).isSome = true then 56 else if _ then 15 else 0) = 0
  rw [n1, hb, hg, if_neg (by simp), if_neg (by simp), if_neg (by simp), if_neg (by omega)]

theorem NameDepart_any (Γ : Gho) (S : List Res) (w : World) (va : Value) (xs : List Step) (core : Int) (ha : RepS Γ va 12 (xs.map enc)) (hw : Wd Γ S w) :
    Calls Try.prog 5 #[va, .int .i64 core] w fun e w' => e = .returned (.bool true) ∧ ∃ S', Wd Γ (S' ++ S) w' := by
  obtain ⟨a, n, c, rfl, hn, hnc, hc⟩ := ha.shape
  simp only [List.length_map] at hn
  refine calls_of_W Try.func5 rfl rfl ?_
  repeat (first | (first | refine W_seq ?_ | refine W_block ?_ | refine W_region ?_ | refine W_skip ?_ | refine W_ret ?_ | refine W_exit ?_) | (first | refine L_nil ?_ | (apply L_plain; first | (apply L_go; refine lP ?_) | (apply L_mf; refine lMakeFunc ?_) | refine lY ?_) | (apply L_guarded; first | refine lGT ?_ | refine lGF ?_ | (apply L_go; refine lPG ?_) | refine lG ?_)))
  refine lCall ?_
  refine (New_any Γ S w hw).mono ?_
  rintro e w ⟨b, bm, rfl, hw⟩
  refine ⟨_, rfl, ?_⟩
  repeat (first | (first | refine W_seq ?_ | refine W_block ?_ | refine W_region ?_ | refine W_skip ?_ | refine W_ret ?_ | refine W_exit ?_) | (first | refine L_nil ?_ | (apply L_plain; first | (apply L_go; refine lP ?_) | (apply L_mf; refine lMakeFunc ?_) | refine lY ?_) | (apply L_guarded; first | refine lGT ?_ | refine lGF ?_ | (apply L_go; refine lPG ?_) | refine lG ?_)))
  refine W_cond rfl (fun h => by simp at h) (fun _ => ?_)
  repeat (first | (first | refine W_seq ?_ | refine W_block ?_ | refine W_region ?_ | refine W_skip ?_ | refine W_ret ?_ | refine W_exit ?_) | (first | refine L_nil ?_ | (apply L_plain; first | (apply L_go; refine lP ?_) | (apply L_mf; refine lMakeFunc ?_) | refine lY ?_) | (apply L_guarded; first | refine lGT ?_ | refine lGF ?_ | (apply L_go; refine lPG ?_) | refine lG ?_)))
  refine lBox ?_
  intro r w hw
  repeat (first | (first | refine W_seq ?_ | refine W_block ?_ | refine W_region ?_ | refine W_skip ?_ | refine W_ret ?_ | refine W_exit ?_) | (first | refine L_nil ?_ | (apply L_plain; first | (apply L_go; refine lP ?_) | (apply L_mf; refine lMakeFunc ?_) | refine lY ?_) | (apply L_guarded; first | refine lGT ?_ | refine lGF ?_ | (apply L_go; refine lPG ?_) | refine lG ?_)))
  have hw : Wd Γ (srvL b bm (.slice none 0 0) [] [] ++ (refL r (.slice none 0 0) (.slice none 0 0) [] [] ++ ([] ++ S))) w := by
    have h1 := Wd.addNil (a := none) (E := 31) (sz := 4) (Wd.addNil (a := none) (E := 35) (sz := 3) hw)
    exact h1.ps [1, 1, 2, 5, 5, 5]
  refine W_loop (fun μ ρ w => ∃ (k : Nat) (m : List (ByteArray × Service)) (ws : List Waiter) (ss : List Service) (vs v1 v2 : Value) (S1 : List Res), μ + k = n ∧ Has ρ [(0, .slice a n c), (1, .int .i64 core), (5, .pointer (some ⟨b, 0, none⟩)), (6, .pointer (some ⟨r, 0, none⟩)), (7, .int .i64 k)] ∧ Inv m ws ∧ Val m ∧ Sorted m ss ∧ Wd Γ (srvL b bm vs m ws ++ (refL r v1 v2 ss ws ++ (S1 ++ S))) w) n ⟨0, [], [], [], _, _, _, [], by omega, ⟨rfl, rfl, rfl, rfl, rfl, trivial⟩, inv_nil, val_nil, ⟨List.Perm.refl _, List.Pairwise.nil⟩, hw⟩ ?_
  clear hw
  rintro μ ρ w ⟨k, m, ws, ss, vs, v1, v2, S1, hk, hρ, hI, hV, h2, hw⟩
  rw [hρ.eq]
  repeat (first | (first | refine W_seq ?_ | refine W_block ?_ | refine W_region ?_ | refine W_skip ?_ | refine W_ret ?_ | refine W_exit ?_) | (first | refine L_nil ?_ | (apply L_plain; first | (apply L_go; refine lP ?_) | (apply L_mf; refine lMakeFunc ?_) | refine lY ?_) | (apply L_guarded; first | refine lGT ?_ | refine lGF ?_ | (apply L_go; refine lPG ?_) | refine lG ?_)))
  refine W_cond rfl (fun h => ?_) (fun h => ?_)
  · have hkn : k < n := by simp only [Bool.and_eq_true, decide_eq_true_eq] at h; omega
    obtain ⟨x, hx⟩ := get_lt (l := xs) (k := k) (by omega)
    repeat (first | (first | refine W_seq ?_ | refine W_block ?_ | refine W_region ?_ | refine W_skip ?_ | refine W_ret ?_ | refine W_exit ?_) | (first | refine L_nil ?_ | (apply L_plain; first | (apply L_go; refine lP ?_) | (apply L_mf; refine lMakeFunc ?_) | refine lY ?_) | (apply L_guarded; first | refine lGT ?_ | refine lGF ?_ | (apply L_go; refine lPG ?_) | refine lG ?_)))
    refine lCall ?_
    refine (do_any Γ _ w b bm vs m ws r v1 v2 ss x hI hV h2 hw).mono ?_
    rintro e w ⟨rfl, vs', v1', v2', m', ws', ss', S2, hI', hV', h2', hw⟩
    refine ⟨_, rfl, ?_⟩
    repeat (first | (first | refine W_seq ?_ | refine W_block ?_ | refine W_region ?_ | refine W_skip ?_ | refine W_ret ?_ | refine W_exit ?_) | (first | refine L_nil ?_ | (apply L_plain; first | (apply L_go; refine lP ?_) | (apply L_mf; refine lMakeFunc ?_) | refine lY ?_) | (apply L_guarded; first | refine lGT ?_ | refine lGF ?_ | (apply L_go; refine lPG ?_) | refine lG ?_)))
    refine W_cond rfl (fun h => by simp at h) (fun _ => ?_)
    repeat (first | (first | refine W_seq ?_ | refine W_block ?_ | refine W_region ?_ | refine W_skip ?_ | refine W_ret ?_ | refine W_exit ?_) | (first | refine L_nil ?_ | (apply L_plain; first | (apply L_go; refine lP ?_) | (apply L_mf; refine lMakeFunc ?_) | refine lY ?_) | (apply L_guarded; first | refine lGT ?_ | refine lGF ?_ | (apply L_go; refine lPG ?_) | refine lG ?_)))
    refine ⟨μ - 1, by omega, k + 1, m', ws', ss', vs', v1', v2', S2 ++ S1, by omega, ⟨rfl, rfl, rfl, rfl, rfl, trivial⟩, hI', hV', h2', ?_⟩
    rw [List.append_assoc]; exact hw
  · clear h hk hρ
    have hm := hI.ml
    have hwl := hI.wl
    have hsl := sorted_len h2
    repeat (first | (first | refine W_seq ?_ | refine W_block ?_ | refine W_region ?_ | refine W_skip ?_ | refine W_ret ?_ | refine W_exit ?_) | (first | refine L_nil ?_ | (apply L_plain; first | (apply L_go; refine lP ?_) | (apply L_mf; refine lMakeFunc ?_) | refine lY ?_) | (apply L_guarded; first | refine lGT ?_ | refine lGF ?_ | (apply L_go; refine lPG ?_) | refine lG ?_)))
    generalize hcc : core % 4 = cc
    have hc0 : 0 ≤ cc := by omega
    have hc4 : cc < 4 := by omega
    refine lCall ?_
    refine (Services_any Γ _ w b bm vs m ws hI.ml hw).mono ?_
    rintro e w ⟨vb, ys, rfl, hys, hw⟩
    obtain rfl := sorted_eq hI hys h2
    refine ⟨_, rfl, ?_⟩
    repeat (first | (first | refine W_seq ?_ | refine W_block ?_ | refine W_region ?_ | refine W_skip ?_ | refine W_ret ?_ | refine W_exit ?_) | (first | refine L_nil ?_ | (apply L_plain; first | (apply L_go; refine lP ?_) | (apply L_mf; refine lMakeFunc ?_) | refine lY ?_) | (apply L_guarded; first | refine lGT ?_ | refine lGF ?_ | (apply L_go; refine lPG ?_) | refine lG ?_)))
    refine lCall ?_
    refine (Waiters_any Γ _ w b bm vs m ws hI.wl (hw.ps [3, 3, 3])).mono ?_
    rintro e w ⟨vw, rfl, hw⟩
    refine ⟨_, rfl, ?_⟩
    repeat (first | (first | refine W_seq ?_ | refine W_block ?_ | refine W_region ?_ | refine W_skip ?_ | refine W_ret ?_ | refine W_exit ?_) | (first | refine L_nil ?_ | (apply L_plain; first | (apply L_go; refine lP ?_) | (apply L_mf; refine lMakeFunc ?_) | refine lY ?_) | (apply L_guarded; first | refine lGT ?_ | refine lGF ?_ | (apply L_go; refine lPG ?_) | refine lG ?_)))
    refine lCall ?_
    refine (Depart_any Γ _ w b bm vs m ws cc hI.ml (hw.ps [3, 3, 3])).mono ?_
    rintro e w ⟨vg, ys2, vs', rfl, hys2, hw⟩
    obtain rfl := sorted_eq hI hys2 h2
    refine ⟨_, rfl, ?_⟩
    have hI' := inv_dep hI (ys2.filter (sCore cc)) (fun x => !ofCore cc x)
    have h2' := rel_dep hI h2 cc
    have hlen' := sorted_len h2'
    have hagain := fun v (hv : v ∈ ys2.filter (sCore cc)) c' h0 h4 hl => reg_again hI hV h2 (v := v) (c := cc) (c' := c') hv h0 h4 hl
    generalize hM' : delAll m (ys2.filter (sCore cc)) = m' at *
    repeat (first | (first | refine W_seq ?_ | refine W_block ?_ | refine W_region ?_ | refine W_skip ?_ | refine W_ret ?_ | refine W_exit ?_) | (first | refine L_nil ?_ | (apply L_plain; first | (apply L_go; refine lP ?_) | (apply L_mf; refine lMakeFunc ?_) | refine lY ?_) | (apply L_guarded; first | refine lGT ?_ | refine lGF ?_ | (apply L_go; refine lPG ?_) | refine lG ?_)))
    refine lCall ?_
    refine (Services_any Γ _ w b bm vs' m' _ hI'.ml (hw.ps [3, 3, 3])).mono ?_
    rintro e w ⟨va2, ys3, rfl, hys3, hw⟩
    obtain rfl := sorted_eq hI' hys3 h2'
    refine ⟨_, rfl, ?_⟩
    repeat (first | (first | refine W_seq ?_ | refine W_block ?_ | refine W_region ?_ | refine W_skip ?_ | refine W_ret ?_ | refine W_exit ?_) | (first | refine L_nil ?_ | (apply L_plain; first | (apply L_go; refine lP ?_) | (apply L_mf; refine lMakeFunc ?_) | refine lY ?_) | (apply L_guarded; first | refine lGT ?_ | refine lGF ?_ | (apply L_go; refine lPG ?_) | refine lG ?_)))
    refine lCall ?_
    refine (Waiters_any Γ _ w b bm vs' m' _ hI'.wl (hw.ps [3, 3, 3])).mono ?_
    rintro e w ⟨vl, rfl, hw⟩
    refine ⟨_, rfl, ?_⟩
    generalize hgo : ys2.filter (sCore cc) = go at *
    generalize hst : (ys2.filter fun x => !sCore cc x) = st at *
    have hboth := filter_both (p := sCore cc) ys2
    rw [hgo, hst] at hboth
    obtain ⟨ab, nb, cb, rfl, hnb, hnbc, hcb⟩ := hw.own_shape (i := 7) rfl
    obtain ⟨ag, ng, cg, rfl, hng, hngc, hcg⟩ := hw.own_shape (i := 5) rfl
    obtain ⟨aa, na, ca, rfl, hna, hnac, hca⟩ := hw.own_shape (i := 4) rfl
    simp only [List.length_map] at hnb hng hna
    have hw : Wd Γ (.own (.slice ab nb cb) 31 4 (ys2.map enc) :: .own (.slice ag ng cg) 31 4 (go.map enc) :: .own (.slice aa na ca) 31 4 (st.map enc) :: .own vl 35 3 ((ws.filter fun x => !ofCore cc x).map enc) :: .own vw 35 3 (ws.map enc) :: (srvL b bm vs' m' (ws.filter fun x => !ofCore cc x) ++ (refL r v1 v2 ys2 ws ++ (S1 ++ S)))) w := hw.ps [6, 1, 5, 6, 7]
    repeat (first | (first | refine W_seq ?_ | refine W_block ?_ | refine W_region ?_ | refine W_skip ?_ | refine W_ret ?_ | refine W_exit ?_) | (first | refine L_nil ?_ | (apply L_plain; first | (apply L_go; refine lP ?_) | (apply L_mf; refine lMakeFunc ?_) | refine lY ?_) | (apply L_guarded; first | refine lGT ?_ | refine lGF ?_ | (apply L_go; refine lPG ?_) | refine lG ?_)))
    refine W_cond rfl (fun h => ?_) (fun _ => ?_)
    · exfalso
      simp only [decide_eq_true_eq] at h
      omega
    repeat (first | (first | refine W_seq ?_ | refine W_block ?_ | refine W_region ?_ | refine W_skip ?_ | refine W_ret ?_ | refine W_exit ?_) | (first | refine L_nil ?_ | (apply L_plain; first | (apply L_go; refine lP ?_) | (apply L_mf; refine lMakeFunc ?_) | refine lY ?_) | (apply L_guarded; first | refine lGT ?_ | refine lGF ?_ | (apply L_go; refine lPG ?_) | refine lG ?_)))
    have hws : ws.length ≤ 64 := hwl
    generalize hT : .own vl 35 3 ((ws.filter fun x => !ofCore cc x).map enc) :: .own vw 35 3 (ws.map enc) :: (srvL b bm vs' m' (ws.filter fun x => !ofCore cc x) ++ (refL r v1 v2 ys2 ws ++ (S1 ++ S))) = T at hw
    refine W_loop (fun μ ρ w => ∃ (i : Nat), μ + i = nb ∧ Has ρ [(5, .pointer (some ⟨b, 0, none⟩)), (8, .int .i64 cc), (9, .slice ab nb cb), (10, vw), (11, .slice ag ng cg), (12, .slice aa na ca), (13, vl), (14, .int .i64 ((ys2.take i).filter (sCore cc)).length), (15, .int .i64 ((ys2.take i).filter fun x => !sCore cc x).length), (16, .int .i64 i)] ∧ Wd Γ (.own (.slice ab nb cb) 31 4 (ys2.map enc) :: .own (.slice ag ng cg) 31 4 (go.map enc) :: .own (.slice aa na ca) 31 4 (st.map enc) :: T) w) nb ⟨0, by omega, ⟨rfl, rfl, rfl, rfl, rfl, rfl, rfl, rfl, rfl, rfl, trivial⟩, hw⟩ ?_
    clear hw
    rintro μ ρ w ⟨i, hi, hρ, hw⟩
    rw [hρ.eq]
    repeat (first | (first | refine W_seq ?_ | refine W_block ?_ | refine W_region ?_ | refine W_skip ?_ | refine W_ret ?_ | refine W_exit ?_) | (first | refine L_nil ?_ | (apply L_plain; first | (apply L_go; refine lP ?_) | (apply L_mf; refine lMakeFunc ?_) | refine lY ?_) | (apply L_guarded; first | refine lGT ?_ | refine lGF ?_ | (apply L_go; refine lPG ?_) | refine lG ?_)))
    refine W_cond rfl (fun h => ?_) (fun h => ?_)
    · have hin : i < nb := by simpa using h
      obtain ⟨x, hx⟩ := get_lt (l := ys2) (k := i) (by omega)
      repeat (first | (first | refine W_seq ?_ | refine W_block ?_ | refine W_region ?_ | refine W_skip ?_ | refine W_ret ?_ | refine W_exit ?_) | (first | refine L_nil ?_ | (apply L_plain; first | (apply L_go; refine lP ?_) | (apply L_mf; refine lMakeFunc ?_) | refine lY ?_) | (apply L_guarded; first | refine lGT ?_ | refine lGF ?_ | (apply L_go; refine lPG ?_) | refine lG ?_)))
      refine W_cond rfl (fun h3 => ?_) (fun h3 => ?_)
      · have hp : sCore cc x = true := h3
        have hg := filter_take_get (p := sCore cc) hx hp
        rw [hgo] at hg
        have hgl := (List.getElem?_eq_some_iff.1 hg).1
        have hs1 := filter_take_succ (p := sCore cc) hx
        have hs2 := filter_take_succ (p := fun x => !sCore cc x) hx
        rw [if_pos hp] at hs1
        rw [if_neg (by simp [hp])] at hs2
        generalize hk1 : ((ys2.take i).filter (sCore cc)).length = k1 at *
        repeat (first | (first | refine W_seq ?_ | refine W_block ?_ | refine W_region ?_ | refine W_skip ?_ | refine W_ret ?_ | refine W_exit ?_) | (first | refine L_nil ?_ | (apply L_plain; first | (apply L_go; refine lP ?_) | (apply L_mf; refine lMakeFunc ?_) | refine lY ?_) | (apply L_guarded; first | refine lGT ?_ | refine lGF ?_ | (apply L_go; refine lPG ?_) | refine lG ?_)))
        refine W_quiet (by kernel_rfl) (by kernel_rfl) hw ?_
        iterate 13 (first | refine Q_nil ?_ | (apply Q_plain; first | (apply Q_go; refine qP ?_) | refine qY ?_) | (apply Q_guarded; first | (apply Q_go; refine qPG ?_) | refine qG ?_))
        apply Q_guarded
        refine qG (v := .bool (decide (x ≠ x))) ?_ rfl rfl (hy := fun hc w hw => y_neqT (a := x) (b := x) (gvT hc rfl) (gvT hc rfl) rfl)
        repeat (first | refine Q_nil ?_ | (apply Q_plain; first | (apply Q_go; refine qP ?_) | refine qY ?_) | (apply Q_guarded; first | (apply Q_go; refine qPG ?_) | refine qG ?_))
        intro w hw
        refine W_cond rfl (fun h5 => ?_) (fun _ => ?_)
        · exfalso
          simp at h5
          omega
        repeat (first | (first | refine W_seq ?_ | refine W_block ?_ | refine W_region ?_ | refine W_skip ?_ | refine W_ret ?_ | refine W_exit ?_) | (first | refine L_nil ?_ | (apply L_plain; first | (apply L_go; refine lP ?_) | (apply L_mf; refine lMakeFunc ?_) | refine lY ?_) | (apply L_guarded; first | refine lGT ?_ | refine lGF ?_ | (apply L_go; refine lPG ?_) | refine lG ?_)))
        exact ⟨μ - 1, by omega, i + 1, by omega, ⟨rfl, rfl, rfl, rfl, rfl, rfl, rfl, by rw [hs1]; rfl, by rw [hs2]; rfl, rfl, trivial⟩, hw⟩
      · have hp0 : sCore cc x = false := h3
        have hp : (!sCore cc x) = true := by rw [hp0]; rfl
        have hg := filter_take_get (p := fun x => !sCore cc x) hx hp
        rw [hst] at hg
        have hgl := (List.getElem?_eq_some_iff.1 hg).1
        have hs1 := filter_take_succ (p := sCore cc) hx
        have hs2 := filter_take_succ (p := fun x => !sCore cc x) hx
        rw [if_neg (by simp [hp0])] at hs1
        rw [if_pos hp] at hs2
        generalize hk1 : ((ys2.take i).filter fun x => !sCore cc x).length = k1 at *
        repeat (first | (first | refine W_seq ?_ | refine W_block ?_ | refine W_region ?_ | refine W_skip ?_ | refine W_ret ?_ | refine W_exit ?_) | (first | refine L_nil ?_ | (apply L_plain; first | (apply L_go; refine lP ?_) | (apply L_mf; refine lMakeFunc ?_) | refine lY ?_) | (apply L_guarded; first | refine lGT ?_ | refine lGF ?_ | (apply L_go; refine lPG ?_) | refine lG ?_)))
        refine W_quiet (by kernel_rfl) (by kernel_rfl) hw ?_
        iterate 13 (first | refine Q_nil ?_ | (apply Q_plain; first | (apply Q_go; refine qP ?_) | refine qY ?_) | (apply Q_guarded; first | (apply Q_go; refine qPG ?_) | refine qG ?_))
        apply Q_guarded
        refine qG (v := .bool (decide (x ≠ x))) ?_ rfl rfl (hy := fun hc w hw => y_neqT (a := x) (b := x) (gvT hc rfl) (gvT hc rfl) rfl)
        repeat (first | refine Q_nil ?_ | (apply Q_plain; first | (apply Q_go; refine qP ?_) | refine qY ?_) | (apply Q_guarded; first | (apply Q_go; refine qPG ?_) | refine qG ?_))
        intro w hw
        refine W_cond rfl (fun h5 => ?_) (fun _ => ?_)
        · exfalso
          simp at h5
          omega
        repeat (first | (first | refine W_seq ?_ | refine W_block ?_ | refine W_region ?_ | refine W_skip ?_ | refine W_ret ?_ | refine W_exit ?_) | (first | refine L_nil ?_ | (apply L_plain; first | (apply L_go; refine lP ?_) | (apply L_mf; refine lMakeFunc ?_) | refine lY ?_) | (apply L_guarded; first | refine lGT ?_ | refine lGF ?_ | (apply L_go; refine lPG ?_) | refine lG ?_)))
        exact ⟨μ - 1, by omega, i + 1, by omega, ⟨rfl, rfl, rfl, rfl, rfl, rfl, rfl, by rw [hs1]; rfl, by rw [hs2]; rfl, rfl, trivial⟩, hw⟩
    · clear h
      subst hT
      repeat (first | (first | refine W_seq ?_ | refine W_block ?_ | refine W_region ?_ | refine W_skip ?_ | refine W_ret ?_ | refine W_exit ?_) | (first | refine L_nil ?_ | (apply L_plain; first | (apply L_go; refine lP ?_) | (apply L_mf; refine lMakeFunc ?_) | refine lY ?_) | (apply L_guarded; first | refine lGT ?_ | refine lGF ?_ | (apply L_go; refine lPG ?_) | refine lG ?_)))
      refine lCall ?_
      refine (without_any Γ _ w vw ws 0 cc true (by omega) (hw.ps [4])).mono ?_
      rintro e w ⟨vo, rfl, hw⟩
      refine ⟨_, rfl, ?_⟩
      rw [dep_eq] at hw
      repeat (first | (first | refine W_seq ?_ | refine W_block ?_ | refine W_region ?_ | refine W_skip ?_ | refine W_ret ?_ | refine W_exit ?_) | (first | refine L_nil ?_ | (apply L_plain; first | (apply L_go; refine lP ?_) | (apply L_mf; refine lMakeFunc ?_) | refine lY ?_) | (apply L_guarded; first | refine lGT ?_ | refine lGF ?_ | (apply L_go; refine lPG ?_) | refine lG ?_)))
      refine lCall ?_
      refine (SameWaiters_own Γ _ w vl vo _ _ (hw.ps [0, 4])).mono ?_
      rintro e w ⟨rfl, hw⟩
      refine ⟨_, rfl, ?_⟩
      repeat (first | (first | refine W_seq ?_ | refine W_block ?_ | refine W_region ?_ | refine W_skip ?_ | refine W_ret ?_ | refine W_exit ?_) | (first | refine L_nil ?_ | (apply L_plain; first | (apply L_go; refine lP ?_) | (apply L_mf; refine lMakeFunc ?_) | refine lY ?_) | (apply L_guarded; first | refine lGT ?_ | refine lGF ?_ | (apply L_go; refine lPG ?_) | refine lG ?_)))
      refine W_cond rfl (fun h => by simp at h) (fun _ => ?_)
      repeat (first | (first | refine W_seq ?_ | refine W_block ?_ | refine W_region ?_ | refine W_skip ?_ | refine W_ret ?_ | refine W_exit ?_) | (first | refine L_nil ?_ | (apply L_plain; first | (apply L_go; refine lP ?_) | (apply L_mf; refine lMakeFunc ?_) | refine lY ?_) | (apply L_guarded; first | refine lGT ?_ | refine lGF ?_ | (apply L_go; refine lPG ?_) | refine lG ?_)))
      refine W_cond rfl (fun h => ?_) (fun h => ?_)
      · have h : 0 < ng ∧ na < 64 := by simp at h; omega
        obtain ⟨v, hv⟩ := get_lt (l := go) (k := 0) (by omega)
        repeat (first | (first | refine W_seq ?_ | refine W_block ?_ | refine W_region ?_ | refine W_skip ?_ | refine W_ret ?_ | refine W_exit ?_) | (first | refine L_nil ?_ | (apply L_plain; first | (apply L_go; refine lP ?_) | (apply L_mf; refine lMakeFunc ?_) | refine lY ?_) | (apply L_guarded; first | refine lGT ?_ | refine lGF ?_ | (apply L_go; refine lPG ?_) | refine lG ?_)))
        refine lAlloc ?_
        intro bv w hw
        refine lStore ?_
        intro w hw
        have hw : Wd Γ (.blk bv (.cells (enc v).toArray 31) :: _) w := hw
        repeat (first | (first | refine W_seq ?_ | refine W_block ?_ | refine W_region ?_ | refine W_skip ?_ | refine W_ret ?_ | refine W_exit ?_) | (first | refine L_nil ?_ | (apply L_plain; first | (apply L_go; refine lP ?_) | (apply L_mf; refine lMakeFunc ?_) | refine lY ?_) | (apply L_guarded; first | refine lGT ?_ | refine lGF ?_ | (apply L_go; refine lPG ?_) | refine lG ?_)))
        refine lStore ?_
        intro w hw
        have hvg : v ∈ go := List.mem_of_getElem? hv
        have htm : (cc + 1).tmod 4 = (cc + 1) % 4 := Int.tmod_eq_emod_of_nonneg (by omega)
        have hag := hagain v hvg ((cc + 1).tmod 4) (by omega) (by omega) (by omega)
        have hvn := (val_mem hV h2 (List.mem_filter.1 (show v ∈ ys2.filter (sCore cc) from by rw [hgo]; exact hvg)).1).1
        haveI hsb : SB ({ v with Core := (cc + 1).tmod 4 } : Service).Name := ⟨by
          unfold nameS at hvn
          simp only [Bool.and_eq_true, decide_eq_true_eq] at hvn
          have := hvn.2
          show v.Name.size ≤ _
          omega⟩
        have hw : Wd Γ (.blk bv (.cells (enc ({ v with Core := (cc + 1).tmod 4 } : Service)).toArray 31) :: (_ :: _ :: _ :: _ :: _ :: (srvL b bm vs' m' (ws.filter fun x => !ofCore cc x) ++ _))) w := hw
        generalize ({ v with Core := (cc + 1).tmod 4 } : Service) = v' at *
        repeat (first | (first | refine W_seq ?_ | refine W_block ?_ | refine W_region ?_ | refine W_skip ?_ | refine W_ret ?_ | refine W_exit ?_) | (first | refine L_nil ?_ | (apply L_plain; first | (apply L_go; refine lP ?_) | (apply L_mf; refine lMakeFunc ?_) | refine lY ?_) | (apply L_guarded; first | refine lGT ?_ | refine lGF ?_ | (apply L_go; refine lPG ?_) | refine lG ?_)))
        refine lCall ?_
        refine (Register_any Γ _ w b bm vs' m' _ v' (hI'.wl) (hw.ps [8, 8, 8])).mono ?_
        rintro e w ⟨fv, vs3, rfl, hw⟩
        refine ⟨_, rfl, ?_⟩
        rw [hag]
        repeat (first | (first | refine W_seq ?_ | refine W_block ?_ | refine W_region ?_ | refine W_skip ?_ | refine W_ret ?_ | refine W_exit ?_) | (first | refine L_nil ?_ | (apply L_plain; first | (apply L_go; refine lP ?_) | (apply L_mf; refine lMakeFunc ?_) | refine lY ?_) | (apply L_guarded; first | refine lGT ?_ | refine lGF ?_ | (apply L_go; refine lPG ?_) | refine lG ?_)))
        refine W_cond rfl (fun h => by simp at h) (fun _ => ?_)
        repeat (first | (first | refine W_seq ?_ | refine W_block ?_ | refine W_region ?_ | refine W_skip ?_ | refine W_ret ?_ | refine W_exit ?_) | (first | refine L_nil ?_ | (apply L_plain; first | (apply L_go; refine lP ?_) | (apply L_mf; refine lMakeFunc ?_) | refine lY ?_) | (apply L_guarded; first | refine lGT ?_ | refine lGF ?_ | (apply L_go; refine lPG ?_) | refine lG ?_)))
        have hw : Wd Γ (S1 ++ S) w := by repeat (first | exact hw | replace hw := hw.drop)
        refine lCall ?_
        refine (awake_any Γ _ w hw).mono ?_
        rintro e w ⟨rfl, S', hw⟩
        refine ⟨_, rfl, ?_⟩
        repeat (first | (first | refine W_seq ?_ | refine W_block ?_ | refine W_region ?_ | refine W_skip ?_ | refine W_ret ?_ | refine W_exit ?_) | (first | refine L_nil ?_ | (apply L_plain; first | (apply L_go; refine lP ?_) | (apply L_mf; refine lMakeFunc ?_) | refine lY ?_) | (apply L_guarded; first | refine lGT ?_ | refine lGF ?_ | (apply L_go; refine lPG ?_) | refine lG ?_)))
        exact ⟨_, rfl, rfl, S' ++ S1, hw.sa⟩
      · repeat (first | (first | refine W_seq ?_ | refine W_block ?_ | refine W_region ?_ | refine W_skip ?_ | refine W_ret ?_ | refine W_exit ?_) | (first | refine L_nil ?_ | (apply L_plain; first | (apply L_go; refine lP ?_) | (apply L_mf; refine lMakeFunc ?_) | refine lY ?_) | (apply L_guarded; first | refine lGT ?_ | refine lGF ?_ | (apply L_go; refine lPG ?_) | refine lG ?_)))
        have hw : Wd Γ (S1 ++ S) w := by repeat (first | exact hw | replace hw := hw.drop)
        refine lCall ?_
        refine (awake_any Γ _ w hw).mono ?_
        rintro e w ⟨rfl, S', hw⟩
        refine ⟨_, rfl, ?_⟩
        repeat (first | (first | refine W_seq ?_ | refine W_block ?_ | refine W_region ?_ | refine W_skip ?_ | refine W_ret ?_ | refine W_exit ?_) | (first | refine L_nil ?_ | (apply L_plain; first | (apply L_go; refine lP ?_) | (apply L_mf; refine lMakeFunc ?_) | refine lY ?_) | (apply L_guarded; first | refine lGT ?_ | refine lGF ?_ | (apply L_go; refine lPG ?_) | refine lG ?_)))
        exact ⟨_, rfl, rfl, S' ++ S1, hw.sa⟩
end Go.Proofs.Ytekdbdhkpolooaa
