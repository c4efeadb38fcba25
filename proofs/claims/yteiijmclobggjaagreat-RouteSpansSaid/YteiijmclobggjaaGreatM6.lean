/- Texts of this proof, one behind another. -/
import Derived.Test.YteiijmclobggjaaGreatM5
set_option linter.unusedVariables false
set_option linter.unusedSimpArgs false
/- The kit's Subset and the parties of a tree, walked. -/
section
open Go Mk
namespace Go.Proofs.YteiijmclobggjaaGreat
set_option maxHeartbeats 16000000
attribute [local irreducible] Calls
/-- What Subset picks. -/
def subF (L : List Int) : Nat → Nat → List Int → List Int
  | 0, _, _ => []
  | f + 1, k, rest => if rest = [] then [] else rest.getD (nx L k rest.length).toNat 0 :: subF L f (k + 1) (rest.eraseIdx (nx L k rest.length).toNat)
theorem nx_nat (L : List Int) (k : Nat) {n : Nat} (h : 1 ≤ n) : ∃ i : Nat, nx L k n = i ∧ i < n := by
  have := nx_range (L := L) (k := k) (n := (n : Int)) (by omega)
  exact ⟨(nx L k n).toNat, by omega, by omega⟩
theorem cons_erase_perm : ∀ {l : List Int} {k : Nat} {x : Int}, l[k]? = some x → (x :: l.eraseIdx k).Perm l
  | [], _, _, h => by simp at h
  | a :: l, 0, x, h => by simp at h; subst h; exact .refl _
  | a :: l, k + 1, x, h => (List.Perm.swap a x _).trans ((cons_erase_perm (l := l) (k := k) (by simpa using h)).cons a)
theorem subF_perm (L : List Int) : ∀ (f k : Nat) (l : List Int), ∃ rest, (subF L f k l ++ rest).Perm l
  | 0, _, l => ⟨l, by simp [subF]⟩
  | f + 1, k, l => by
    unfold subF
    by_cases h : l = []
    · rw [if_pos h]; exact ⟨l, by simp⟩
    · rw [if_neg h]
      obtain ⟨i, hi, hil⟩ := nx_nat L k (n := l.length) (by have := List.length_pos_iff.2 h; omega)
      rw [hi]
      obtain ⟨rest, hr⟩ := subF_perm L f (k + 1) (l.eraseIdx i)
      refine ⟨rest, ?_⟩
      rw [show ((i : Int)).toNat = i from rfl, List.cons_append]
      obtain ⟨x, hx⟩ := get_lt hil
      rw [List.getD_eq_getElem?_getD, hx]
      exact (hr.cons x).trans (cons_erase_perm hx)
theorem subF_len (L : List Int) : ∀ (f k : Nat) (l : List Int), (subF L f k l).length ≤ f
  | 0, _, l => by simp [subF]
  | f + 1, k, l => by
    unfold subF
    split
    · simp
    · rw [List.length_cons]
      have := subF_len L f (k + 1) (l.eraseIdx (nx L k l.length).toNat)
      omega
theorem erase_ints (xs : List Int) (k : Nat) : (intRows xs).take k ++ (intRows xs).drop (k + 1) = intRows (xs.eraseIdx k) := by
  unfold intRows
  rw [← List.map_take, ← List.map_drop, ← List.map_append, List.eraseIdx_eq_take_drop_succ]
theorem take_ints (xs : List Int) (k : Nat) : ∀ u ∈ ((intRows xs).take k).flatten, u.oneCell' = true := by
  unfold intRows; rw [← List.map_take]; exact List.all_eq_true.1 (ints1 _)
theorem drop_ints (xs : List Int) (k : Nat) : ∀ u ∈ ((intRows xs).drop k).flatten, u.oneCell' = true := by
  unfold intRows; rw [← List.map_drop]; exact List.all_eq_true.1 (ints1 _)

theorem Subset_any {Γ : Gho} {S : List Res} {w : World} {al ap : Option Addr} {nl cl np cp : Nat} {l L : List Int} (hl : RepS Γ (.slice al nl cl) 1 (intRows l)) (hp : RepS Γ (.slice ap np cp) 1 (intRows L)) (hll : l.length ≤ 1000) (hLl : L.length ≤ 1000) (hw : Wd Γ S w) :
    Calls Tryz.prog 45 #[.slice al nl cl, .slice ap np cp] w fun e w' => ∃ v, e = .returned v ∧ Wd Γ (.own v 3 1 (intRows (subF L L.length 0 l)) :: S) w' := by
  obtain ⟨hnl, hncl, hccl⟩ := rep_facts hl
  obtain ⟨hnp, hncp, hccp⟩ := rep_facts hp
  simp only [intRows, List.length_map] at hnl hnp
  refine calls_of_WC Tryz.func45 rfl rfl ?_
  repeat (first | refine byW ?_ | (refine byV ?_; intro w hw))
  refine lBox ?_
  intro bs w hw
  have hw : Wd Γ (drwB bs ap np cp 0 :: S) w := hw
  repeat (first | refine byW ?_ | (refine byV ?_; intro w hw))
  have hw := Wd.addNil (a := none) (E := 3) (sz := 1) hw
  refine lApp (i := 0) (rows2 := intRows l) ?_ (hl.rd hw) rfl rfl hw rfl (ints1 _) (by simp [intRows, hnl])
  intro vr w hw
  have hw := Wd.addNil (a := none) (E := 3) (sz := 1) hw
  have hw : Wd Γ (.own vr 3 1 (intRows l) :: .own (.slice none 0 0) 3 1 (intRows []) :: drwB bs ap np cp 0 :: S) w := hw.ps [1]
  repeat (first | refine byW ?_ | (refine byV ?_; intro w hw))
  refine W_loop (fun μ ρ w => ∃ (k : Nat) (out rest : List Int) (vr vo : Value), μ + k = np ∧ out.length = k ∧ rest.length ≤ 1000 ∧ out ++ subF L μ k rest = subF L L.length 0 l ∧ Has ρ [(1, .slice ap np cp), (5, .pointer (some ⟨bs, 0, none⟩)), (6, vr), (7, vo)] ∧ Wd Γ (.own vr 3 1 (intRows rest) :: .own vo 3 1 (intRows out) :: drwB bs ap np cp k :: S) w) np ⟨0, [], l, vr, _, by omega, rfl, hll, by rw [hnp]; rfl, ⟨rfl, rfl, rfl, rfl, trivial⟩, hw⟩ ?_
  clear hw
  rintro μ ρ w ⟨k, out, rest, vr, vo, hk, hok, hrl, hF, hρ, hw⟩
  rw [hρ.eq]
  clear hρ
  obtain ⟨ar, nr, cr, rfl, hnr, hncr, hccr⟩ := hw.own_shape (i := 0) rfl
  obtain ⟨ao, no, co, rfl, hno, hnco, hcco⟩ := hw.own_shape (i := 1) rfl
  simp only [intRows, List.length_map] at hnr hno
  repeat (first | refine byW ?_ | (refine byV ?_; intro w hw))
  refine W_cond rfl (fun h => ?_) (fun h => ?_)
  · have h : (decide ((nr : Int) > 0) && decide ((no : Int) < (np : Int))) = true := h
    simp only [Bool.and_eq_true, decide_eq_true_eq] at h
    obtain ⟨h1, h2⟩ := h
    obtain ⟨μ', rfl⟩ : ∃ μ', μ = μ' + 1 := ⟨μ - 1, by omega⟩
    obtain ⟨i, hi, hin⟩ := nx_nat L k (n := nr) (by omega)
    obtain ⟨x, hx⟩ := get_lt (l := rest) (k := i) (by omega)
    repeat (first | refine byW ?_ | (refine byV ?_; intro w hw))
    refine lCall ((Next_any (n := (nr : Int)) (by omega) (by omega) hp (hw.ps [2])).mono fun e w hq => ?_)
    clear hw
    obtain ⟨rfl, hw⟩ := hq
    rw [hi]
    refine ⟨_, rfl, ?_⟩
    have hw : Wd Γ (.own (.slice ar nr cr) 3 1 (intRows rest) :: .own (.slice ao no co) 3 1 (intRows out) :: drwB bs ap np cp (k + 1) :: S) w := hw.ps [2, 2]
    repeat (first | refine byW ?_ | (refine byV ?_; intro w hw))
    refine lBuildSlice (intRows [x]) ?_
    intro ax w hw
    have hw : Wd Γ (.own (.slice (some ax) 1 1) 3 1 (intRows [x]) :: .own (.slice ar nr cr) 3 1 (intRows rest) :: .own (.slice ao no co) 3 1 (intRows out) :: drwB bs ap np cp (k + 1) :: S) w := hw
    repeat (first | refine byW ?_ | (refine byV ?_; intro w hw))
    refine lApp (i := 2) (rows2 := intRows [x]) ?_ (hw.own_rd (i := 0) rfl) rfl rfl hw rfl (ints1 _) rfl
    intro vo' w hw
    have hw : Wd Γ (.own (.slice ar nr cr) 3 1 (intRows rest) :: .own vo' 3 1 (intRows out ++ intRows [x]) :: drwB bs ap np cp (k + 1) :: S) w := (hw.ds [0])
    rw [← intRows_app] at hw
    repeat (first | refine byW ?_ | (refine byV ?_; intro w hw))
    refine W_mixP [[],[],[],[0],[],[],[],[],[0],[0,1]] [[1],[],[],[0],[1],[],[],[],[0],[0,1]] [38, 43] 6 (.slice ar nr cr) ?_
    refine mMoveR (dd := 6) ?_
    refine mY ?_
    refine mY (v := .slice ar i cr) ?_ (hy := fun Y w g hw => y_sliceH (a := ar) (n := nr) (c := cr) (h := (i : Int)) rfl rfl (by omega) (by omega))
    refine mAppNil (m := i) (rows2 := (intRows rest).take i) ?_ (fun Y w hw => (Wd.own_rd (i := 0) hw rfl).take i) (by simp [intRows]; omega) (take_ints _ _)
    refine mMoveR (dd := 6) ?_
    iterate 2 (refine mY ?_)
    refine mY (v := .slice (cutA ar (i + 1) cr 1) (nr - (i + 1)) (cr - (i + 1))) ?_ (hy := fun Y w g hw => y_sliceL (a := ar) (n := nr) (c := cr) (l := (i : Int) + 1) rfl rfl (by omega) (by omega))
    refine mAppOwn (dx := 38) (m := nr - (i + 1)) (rows2 := (intRows rest).drop (i + 1)) ?_ (fun Y w hw => (Wd.own_rd (i := 0) hw rfl).cut (c := cr) (by simp [intRows]; omega) (i + 1) (by simp [intRows]; omega)) (by simp [intRows]; omega) (drop_ints _ _) (hb := by simp [intRows]; omega) (h63 := by simp [intRows]; omega)
    refine mAssX (dx := 43) ?_
    refine mEnd fun w g hw => ?_
    have hw := hw.perm List.perm_append_comm
    rw [erase_ints] at hw
    have hw : Wd Γ (.own (g 6) 3 1 (intRows (rest.eraseIdx i)) :: .own (.slice ar nr cr) 3 1 (intRows rest) :: .own vo' 3 1 (intRows (out ++ [x])) :: drwB bs ap np cp (k + 1) :: S) w := hw
    have hF' : (out ++ [x]) ++ subF L μ' (k + 1) (rest.eraseIdx i) = subF L L.length 0 l := by
      rw [← hF]
      conv => rhs; unfold subF
      rw [if_neg (by intro e; rw [e] at hnr; simp at hnr; omega), ← hnr, hi, show ((i : Nat) : Int).toNat = i from rfl, List.getD_eq_getElem?_getD, hx]
      simp
    repeat (first | refine byW ?_ | (refine byV ?_; intro w hw))
    exact ⟨μ', by omega, k + 1, out ++ [x], rest.eraseIdx i, g 6, vo', by omega, by simp [hok], by rw [List.length_eraseIdx]; split <;> omega, hF', ⟨rfl, rfl, rfl, rfl, trivial⟩, hw.dropAt 1⟩
  · have h : (decide ((nr : Int) > 0) && decide ((no : Int) < (np : Int))) = false := h
    have hF' : out = subF L L.length 0 l := by
      rw [← hF]
      cases μ with
      | zero => simp [subF]
      | succ μ =>
        have hr0 : rest = [] := by
          simp only [Bool.and_eq_false_iff, decide_eq_false_iff_not] at h
          exact List.eq_nil_of_length_eq_zero (by omega)
        rw [hr0]; simp [subF]
    rw [hF'] at hw
    repeat (first | refine byW ?_ | (refine byV ?_; intro w hw))
    exact ⟨[_], ⟨rfl, trivial⟩, _, rfl, hw.ds [0, 1]⟩
/-- The root and the members that numbers stand for. -/
structure Party (H : HwT) (r : Int) (ms : List Int) : Prop where
  rt : r ∈ H.Cores.map (·.ID)
  sub : ∃ rest, (r :: (ms ++ rest)).Perm (H.Cores.map (·.ID))
theorem parties_any {Γ : Gho} {u : Value} {H : HwT} [hh : HwR Γ u H] (hn : 1 ≤ H.Cores.length ∧ H.Cores.length ≤ 32) {S : List Res} {w : World} {ap : Option Addr} {np cp : Nat} {L : List Int} {root : Int} (hp : RepS Γ (.slice ap np cp) 1 (intRows L)) (hLl : L.length ≤ 1000) (hw : Wd Γ S w) :
    Calls Tryz.prog 22 #[u, .int .i64 root, .slice ap np cp] w fun e w' => ∃ Γ' r ms v, Γ.le Γ' ∧ e = .returned (.tuple #[.int .i64 r, v]) ∧ Party H r ms ∧ ms.length ≤ L.length ∧ Wd Γ' (.own v 3 1 (intRows ms) :: S) w' := by
  have hh' := hh
  obtain ⟨a1, n1, c1, a2, n2, c2, a3, n3, c3, a4, n4, c4, a5, n5, c5, cs, rfl, hcs, hok, hsz, r1, r2, r3, r4, r5⟩ := hh.h
  obtain ⟨hnp, hncp, hccp⟩ := rep_facts hp
  simp only [intRows, List.length_map] at hnp
  refine calls_of_WC Tryz.func22 rfl rfl ?_
  repeat (first | refine byW ?_ | (refine byV ?_; intro w hw))
  refine lBox ?_
  intro b3 w hw
  have hw : Wd Γ (.blk b3 (hwC H a1 n1 c1 a2 n2 c2 a3 n3 c3 a4 n4 c4 a5 n5 c5) :: S) w := hw
  repeat (first | refine byW ?_ | (refine byV ?_; intro w hw))
  refine lCall ((IDs_any (xs := H.Cores) (nm := H.Name) (RepS.rdS r1) (by omega) hw).mono fun e w hq => ?_)
  clear hw
  obtain ⟨vi, rfl, hw⟩ := hq
  refine ⟨_, rfl, ?_⟩
  obtain ⟨ai, ni, ci, rfl, hni, hnci, hcci⟩ := hw.own_shape (i := 0) rfl
  simp only [intRows, List.length_map] at hni
  generalize hids : H.Cores.map (·.ID) = ids at *
  have hil : ids.length = ni := by rw [← hids, List.length_map]; omega
  obtain ⟨k, hk, p1⟩ := place_at (x := root) (n := ni) (by omega) (by omega)
  obtain ⟨x, hx⟩ := get_lt (l := ids) (k := k) (by omega)
  repeat (first | refine byW ?_ | (refine byV ?_; intro w hw))
  refine W_mix2 [.own (.slice ai ni ci) 3 1 (intRows ids), .blk b3 (hwC H a1 n1 c1 a2 n2 c2 a3 n3 c3 a4 n4 c4 a5 n5 c5)] S [[],[],[],[1],[],[],[],[],[1],[1]] [[],[],[],[1],[],[],[],[],[1],[1]] [[], [20, 25, 10]] hw ?_
  iterate 2 (refine mY ?_)
  refine mY (v := .slice ai k ci) ?_ (hy := fun Y w g hw => y_sliceH (a := ai) (n := ni) (c := ci) (h := (k : Int)) rfl rfl (by omega) (by omega))
  refine mAppNil (c := 1) (m := k) (rows2 := (intRows ids).take k) ?_ (fun Y w hw => (Wd.own_rd (i := 0) hw rfl).take k) (by simp [intRows]; omega) (take_ints _ _)
  iterate 3 (refine mY ?_)
  refine mY (v := .slice (cutA ai (k + 1) ci 1) (ni - (k + 1)) (ci - (k + 1))) ?_ (hy := fun Y w g hw => y_sliceL (a := ai) (n := ni) (c := ci) (l := (k : Int) + 1) rfl rfl (by omega) (by omega))
  refine mAppOwn (c := 1) (dx := 20) (m := ni - (k + 1)) (rows2 := (intRows ids).drop (k + 1)) ?_ (fun Y w hw => (Wd.own_rd (i := 0) hw rfl).cut (c := ci) (by simp [intRows]; omega) (k + 1) (by simp [intRows]; omega)) (by simp [intRows]; omega) (drop_ints _ _) (hb := by simp [intRows]; omega) (h63 := by simp [intRows]; omega)
  refine mAssV (c := 1) (dx := 25) ?_
  refine mEnd fun w g hw => ?_
  rw [erase_ints] at hw
  have hw : Wd Γ (.own (.slice ai ni ci) 3 1 (intRows ids) :: .blk b3 (hwC H a1 n1 c1 a2 n2 c2 a3 n3 c3 a4 n4 c4 a5 n5 c5) :: (S ++ ([.own (g 10) 3 1 (intRows (ids.eraseIdx k))] ++ []))) w := hw
  have hw : Wd Γ (.own (g 10) 3 1 (intRows (ids.eraseIdx k)) :: .own (.slice ai ni ci) 3 1 (intRows ids) :: .blk b3 (hwC H a1 n1 c1 a2 n2 c2 a3 n3 c3 a4 n4 c4 a5 n5 c5) :: S) w := hw.perm byPM
  generalize hg : g 10 = g10 at *
  obtain ⟨ar, nr, cr, rfl, hnr, hncr, hccr⟩ := hw.own_shape (i := 0) rfl
  obtain ⟨Γ1, e1, q1, hw⟩ := hw.freeze
  have hlen : (ids.eraseIdx k).length ≤ 1000 := by rw [List.length_eraseIdx]; split <;> omega
  have hp1 := hp.mono e1
  refine W_has (l := [(2, .slice ap np cp), (8, .slice ai ni ci), (9, .int .i64 k), (10, .slice ar nr cr)]) ⟨rfl, rfl, rfl, hg, trivial⟩ fun ρ' hρ' => ?_
  rw [hρ'.eq]
  clear hρ' hg
  repeat (first | refine byW ?_ | (refine byV ?_; intro w hw))
  refine W_mix2 [.own (.slice ai ni ci) 3 1 (intRows ids), .blk b3 (hwC H a1 n1 c1 a2 n2 c2 a3 n3 c3 a4 n4 c4 a5 n5 c5)] S [[],[],[],[],[],[],[1],[],[1]] [[],[],[],[],[],[],[1],[],[1]] [[], [32, 7]] hw ?_
  repeat (first | refine mY ?_ | refine mP ?_ | refine mPg ?_)
  refine mCallG (c := 1) (F := fun _ => []) (fun g => [.own (g 32) 3 1 (intRows (subF L L.length 0 (ids.eraseIdx k)))]) (fun _ => [.slice ar nr cr, .slice ap np cp]) (fun g w Y hw => (Subset_any q1 hp1 hlen hLl hw).mono fun e w' hq => ?_) ?_ (hM := rfl)
  · obtain ⟨v, rfl, hw⟩ := hq
    exact ⟨v, rfl, hw⟩
  repeat (first | refine mY ?_ | refine mP ?_ | refine mPg ?_)
  refine mAssV (c := 1) (dx := 32) ?_
  refine mEnd fun w g hw => ?_
  have hw : Wd Γ1 (.own (.slice ai ni ci) 3 1 (intRows ids) :: .blk b3 (hwC H a1 n1 c1 a2 n2 c2 a3 n3 c3 a4 n4 c4 a5 n5 c5) :: (S ++ ([.own (g 7) 3 1 (intRows (subF L L.length 0 (ids.eraseIdx k)))] ++ []))) w := hw
  have hw : Wd Γ1 (.own (g 7) 3 1 (intRows (subF L L.length 0 (ids.eraseIdx k))) :: S) w := Wd.ds [1, 1] (hw.perm (S' := .own (g 7) 3 1 (intRows (subF L L.length 0 (ids.eraseIdx k))) :: .own (.slice ai ni ci) 3 1 (intRows ids) :: .blk b3 (hwC H a1 n1 c1 a2 n2 c2 a3 n3 c3 a4 n4 c4 a5 n5 c5) :: S) byPM)
  repeat (first | refine byW ?_ | (refine byV ?_; intro w hw))
  refine ⟨[_, _], ⟨rfl, rfl, trivial⟩, Γ1, x, _, _, e1, rfl, ⟨by rw [hids]; exact List.mem_of_getElem? hx, ?_⟩, subF_len _ _ _ _, hw⟩
  obtain ⟨rest, hr⟩ := subF_perm L L.length 0 (ids.eraseIdx k)
  rw [hids]
  exact ⟨rest, (hr.cons x).trans (cons_erase_perm hx)⟩
end Go.Proofs.YteiijmclobggjaaGreat
end
/- RouteFastest, walked. -/
section
open Go Mk
namespace Go.Proofs.YteiijmclobggjaaGreat
set_option maxHeartbeats 16000000
attribute [local irreducible] Calls
theorem valid_ids {H : HwT} (h : validS H = 0) : (H.Cores.map (·.ID)).Nodup := by
  obtain ⟨-, -, -, -, h5, -⟩ := valid_all h
  unfold uniqueB at h5
  simp only [Bool.and_eq_true, decide_eq_true_eq] at h5
  exact h5.2.1.1.1.1.1
theorem find_of_id {H : HwT} {x : Int} (h : x ∈ H.Cores.map (·.ID)) : (findC H.Cores x).2 = true := by
  obtain ⟨c, hc, he⟩ := List.mem_map.1 h
  rcases coreIx_cases H.Cores x with ⟨-, -, h3⟩ | ⟨k, y, -, -, -, h4⟩
  · exact absurd he (h3 c hc)
  · rw [h4]
theorem party_ok {H : HwT} {r : Int} {ms : List Int} (hv : validS H = 0) (p : Party H r ms) : PlanOk H r ms := by
  obtain ⟨rest, hp⟩ := p.sub
  have hn : (r :: (ms ++ rest)).Nodup := hp.nodup_iff.2 (valid_ids hv)
  rw [List.nodup_cons, List.nodup_append] at hn
  refine ⟨hv, find_of_id p.rt, fun a ha => find_of_id (hp.mem_iff.1 (by simp [ha])), fun h => hn.1 (by simp [h]), hn.2.1⟩
theorem plan_proj {H : HwT} {r : Int} {ms : List Int} {cost : Int} (p : PlanOk H r ms) (hc : 0 ≤ cost ∧ cost ≤ 1000000) : planErr H r ms cost = 0 ∧ planS H r ms cost = (r, planE H r ms cost) := by
  have h := p.err hc
  refine ⟨h, ?_⟩
  unfold planS
  rw [if_pos h]
end Go.Proofs.YteiijmclobggjaaGreat
end
/- RouteSpans, walked. -/
section
open Go Mk
namespace Go.Proofs.YteiijmclobggjaaGreat
set_option maxHeartbeats 16000000
attribute [local irreducible] Calls
theorem gen_wide {H : HwT} {nodes sh first irq : Int} (g : Gen H nodes sh first irq) : MemWide H := fun x hx => by
  obtain ⟨i, hi⟩ := List.getElem?_of_mem hx
  have h1 := (g.me i x hi).2.1
  have h2 := g.nm'
  have h3 := (List.getElem?_eq_some_iff.1 hi).1
  unfold u64I
  omega
/-! ### who enters a node -/
noncomputable def entN (H : HwT) (es : List Pl) (i : Nat) (n : Int) : Nat := (es.take i).countP fun e => decide (coreN H e.1 ≠ coreN H e.2) && decide (coreN H e.2 = n)
theorem entN_step {H : HwT} {es : List Pl} {i : Nat} {e : Pl} (h : es[i]? = some e) (n : Int) : entN H es (i + 1) n = entN H es i n + (if (decide (coreN H e.1 ≠ coreN H e.2) && decide (coreN H e.2 = n)) = true then 1 else 0) := by
  unfold entN
  rw [take_succ_of h, List.countP_append]
  congr 1
  rw [List.countP_cons, List.countP_nil, Nat.zero_add]
noncomputable def entL (H : HwT) (es : List Pl) (i : Nat) : List Int := (List.range 64).map fun n : Nat => (entN H es i (n : Int) : Int)
theorem entL_len {H : HwT} {es : List Pl} {i : Nat} : (entL H es i).length = 64 := by simp [entL]
theorem entL_get {H : HwT} {es : List Pl} {i : Nat} {n : Int} (h0 : 0 ≤ n ∧ n < 64) : (entL H es i)[n.toNat]? = some (entN H es i n : Int) := by
  unfold entL
  rw [List.getElem?_map, List.getElem?_range (by omega)]
  simp only [Option.map_some]
  rw [show ((n.toNat : Nat) : Int) = n by omega]
theorem entL_zero {H : HwT} {es : List Pl} : entL H es 0 = List.replicate 64 0 := by
  refine List.ext_getElem? fun k => ?_
  unfold entL entN
  rw [List.getElem?_map, List.getElem?_replicate]
  by_cases h : k < 64
  · rw [List.getElem?_range h, if_pos h]; simp
  · rw [List.getElem?_eq_none (by simp; omega), if_neg h]; rfl
theorem entL_set {H : HwT} {es : List Pl} {i : Nat} {e : Pl} (h : es[i]? = some e) (hr : 0 ≤ coreN H e.2 ∧ coreN H e.2 < 64) (hne : coreN H e.1 ≠ coreN H e.2) : (entL H es i).set (coreN H e.2).toNat ((entN H es i (coreN H e.2) : Int) + 1) = entL H es (i + 1) := by
  refine List.ext_getElem? fun k => ?_
  rw [List.getElem?_set]
  by_cases hk : k < 64
  · have g1 : (entL H es i)[k]? = some (entN H es i (k : Int) : Int) := by
      have := entL_get (H := H) (es := es) (i := i) (n := (k : Int)) (by omega); simpa using this
    have g2 : (entL H es (i + 1))[k]? = some (entN H es (i + 1) (k : Int) : Int) := by
      have := entL_get (H := H) (es := es) (i := i + 1) (n := (k : Int)) (by omega); simpa using this
    rw [g1, g2, entN_step h]
    by_cases e1 : (coreN H e.2).toNat = k
    · have : coreN H e.2 = (k : Int) := by omega
      rw [if_pos e1, if_pos (by rw [entL_len]; omega), this]
      rw [if_pos (by rw [this] at hne; simp [hne])]
      simp
    · have : ¬ coreN H e.2 = (k : Int) := by omega
      rw [if_neg e1, if_neg (by simp [this])]
      simp
  · rw [List.getElem?_eq_none (by rw [entL_len]; omega), List.getElem?_eq_none (by rw [entL_len]; omega)]
    split
    · rw [if_neg (by rw [entL_len]; omega)]
    · rfl
theorem entL_same {H : HwT} {es : List Pl} {i : Nat} {e : Pl} (h : es[i]? = some e) (heq : coreN H e.1 = coreN H e.2) : entL H es i = entL H es (i + 1) := by
  unfold entL
  refine List.map_congr_left fun n _ => ?_
  rw [entN_step h, if_neg (by simp [heq])]
  simp
theorem getInt {R : List Int} {k : Nat} {b : Int} (h : R[k]? = some b) : ((R.map fun x => Value.int .i64 x).toArray)[0 + k * 1]? = some (.int .i64 b) := by simp [h]
theorem putInt {R : List Int} {k : Nat} {b : Int} (h : k < R.length) : putCells (R.map fun x => Value.int .i64 x).toArray (0 + k * 1) [.int .i64 b] = ((R.set k b).map fun x => Value.int .i64 x).toArray := by
  unfold putCells
  rw [Nat.zero_add, Nat.mul_one, List.set_eq_take_append_cons_drop, if_pos h]
  simp
section
variable {H : HwT} {r : Int} {ms : List Int} {cost : Int}
/-- An edge between nodes comes from the root, and leads to a forwarder. -/
theorem cross_root (p : PlanOk H r ms) {m : Nat} {e : Pl} (he : (planE H r ms cost)[m]? = some e) (hne : coreN H e.1 ≠ coreN H e.2) : e.1 = r ∧ coreN H e.2 ≠ coreN H r ∧ e.2 = fwdL H (grpL H ms (coreN H e.2)) := by
  obtain ⟨h1, h2⟩ := plan_parts p he
  have hd := srt_mem.1 (List.mem_of_getElem? h2)
  by_cases hr : e.1 = r
  · rw [hr] at hd hne
    refine ⟨hr, Ne.symm hne, ?_⟩
    have hb := chP_root_mem hd
    unfold rootAt at hb
    have hne2 : ¬ (coreN H e.2 = coreN H r ∨ grpL H ms (coreN H e.2) = []) := by
      rintro (c | c)
      · exact hne c.symm
      · have := (grpL_mem (H := H) (ms := ms) (n := coreN H e.2) (x := e.2)).2 ⟨chP_mem hd, rfl⟩
        rw [c] at this; simp at this
    rw [if_neg hne2] at hb
    exact List.mem_singleton.1 hb
  · exact absurd (chP_other hr hd).2.2.2.1.symm hne
theorem ent_le (p : PlanOk H r ms) (n : Int) (i : Nat) : entN H (planE H r ms cost) i n ≤ 1 := by
  have hn := (List.nodup_cons.1 (plan_nodup (cost := cost) p)).2
  unfold entN
  have key : ∀ (l : List Pl), (∀ e ∈ l, (decide (coreN H e.1 ≠ coreN H e.2) && decide (coreN H e.2 = n)) = true → e.2 = fwdL H (grpL H ms n)) → (l.map (·.2)).Nodup → l.countP (fun e => decide (coreN H e.1 ≠ coreN H e.2) && decide (coreN H e.2 = n)) ≤ 1 := by
    intro l
    induction l with
    | nil => intro _ _; simp
    | cons e l ih =>
      intro h1 h2
      rw [List.map_cons, List.nodup_cons] at h2
      rw [List.countP_cons]
      have := ih (fun x hx => h1 x (by simp [hx])) h2.2
      by_cases c : (decide (coreN H e.1 ≠ coreN H e.2) && decide (coreN H e.2 = n)) = true
      · rw [if_pos c]
        have hz : l.countP (fun e => decide (coreN H e.1 ≠ coreN H e.2) && decide (coreN H e.2 = n)) = 0 := by
          rw [List.countP_eq_zero]
          intro x hx hc
          have e1 := h1 e (by simp) c
          have e2 := h1 x (by simp [hx]) hc
          exact h2.1 (by rw [e1, ← e2]; exact List.mem_map_of_mem hx)
        omega
      · rw [if_neg c]; omega
  refine key _ (fun e he hc => ?_) (hn.sublist ((List.take_sublist _ _).map _))
  obtain ⟨m, hm⟩ := List.getElem?_of_mem (List.mem_of_mem_take he)
  simp only [Bool.and_eq_true, decide_eq_true_eq] at hc
  have := (cross_root p hm hc.1).2.2
  rw [hc.2] at this
  exact this
theorem plan_known (p : PlanOk H r ms) {e : Pl} (he : e ∈ planE H r ms cost) : (findC H.Cores e.1).2 = true ∧ (findC H.Cores e.2).2 = true := by
  obtain ⟨-, h2, -, -⟩ := tree_facts (planE_tree (cost := cost) p)
  rw [Bool.and_eq_true] at h2
  have := List.all_eq_true.1 h2.2 e he
  unfold knownT at this
  rwa [Bool.and_eq_true] at this
end
set_option maxRecDepth 4000 in
theorem RouteSpans_any {Γ : Gho} {S : List Res} {w : World} {a ap : Option Addr} {m c np cp : Nat} {L Lp : List Int} {root cost : Int} (hr : RepS Γ (.slice a m c) 1 (intRows L)) (hp : RepS Γ (.slice ap np cp) 1 (intRows Lp)) (hw : Wd Γ S w) :
    Calls Tryz.prog 6 #[.slice a m c, .int .i64 root, .slice ap np cp, .int .i64 cost] w fun e w' => ∃ Γ', Γ.le Γ' ∧ e = .returned (.bool true) ∧ Wd Γ' S w' := by
  obtain ⟨hnp, hncp, hccp⟩ := rep_facts hp
  simp only [intRows, List.length_map] at hnp
  refine calls_of_W Tryz.func6 rfl rfl ?_
  repeat (first | refine byW ?_ | (refine byV ?_; intro w hw))
  refine W_cond rfl (fun h => ?_) (fun h => ?_)
  · repeat (first | refine byW ?_ | (refine byV ?_; intro w hw))
    exact ⟨_, rfl, Γ, .refl _, rfl, hw⟩
  have h : (decide ((m : Int) > 200) || decide ((np : Int) > 40)) = false := h
  have hnp40 : np ≤ 40 := by simp at h; omega
  clear h
  repeat (first | refine byW ?_ | (refine byV ?_; intro w hw))
  refine lCall ((Hardware_any hr hw).mono fun r w hq => ?_)
  clear hw
  obtain ⟨Γ1, H, u, nodes, sh, first, irq, hle1, rfl, hG, ho⟩ := hq
  refine ⟨_, rfl, ?_⟩
  have hv := gen_valid hG
  haveI hwd : WideH H := ⟨gen_wide hG⟩
  obtain ⟨Γ2, hle2, hR, hw⟩ := ho.freeze (gen_sz hG)
  have hnc := hG.nc
  have hp2 := (hp.mono hle1).mono hle2
  clear ho hr hG
  obtain ⟨a1, n1, c1, a2, n2, c2, a3, n3, c3, a4, n4, c4, a5, n5, c5, cs, rfl, hcs, hok, hsz, r1, r2, r3, r4, r5⟩ := hR.h
  repeat (first | refine byW ?_ | (refine byV ?_; intro w hw))
  refine lAlloc ?_
  intro b9 w hw
  refine lStore ?_
  intro w hw
  have hw : Wd Γ2 (.blk b9 (hwC H a1 n1 c1 a2 n2 c2 a3 n3 c3 a4 n4 c4 a5 n5 c5) :: S) w := hw
  repeat (first | refine byW ?_ | (refine byV ?_; intro w hw))
  refine lCall ((parties_any (hh := hR) (by omega) hp2 (by omega) hw).mono fun e w hq => ?_)
  clear hw
  obtain ⟨Γ3, r, ms, vm, hle3, rfl, hP, hml, hw⟩ := hq
  refine ⟨_, rfl, ?_⟩
  obtain ⟨am, nm, cm, rfl, hnm, hnmc, hcm⟩ := hw.own_shape (i := 0) rfl
  simp only [intRows, List.length_map] at hnm
  obtain ⟨Γ4, hle4, q1, hw⟩ := hw.freeze
  have pk := party_ok hv hP
  haveI hR4 := (hR.mono hle3).mono hle4
  haveI s1 : SlC Γ4 (.slice am nm cm) 1 (intRows ms) := ⟨q1⟩
  haveI s2 : ShortL ms := ⟨by omega⟩
  haveI : PosL 30 := ⟨by decide⟩
  obtain ⟨wc, hwc, hw0, hw30⟩ : ∃ wc : Int, cost % 30 = wc ∧ 0 ≤ wc ∧ wc < 30 := ⟨cost % 30, rfl, by omega, by omega⟩
  haveI p30 : PC Tryz.prog 23 [.int .i64 cost, .int .i64 30] (.int .i64 wc) := by rw [← hwc]; infer_instance
  obtain ⟨hpe, hps⟩ := plan_proj (cost := wc) pk (by omega)
  have hel := planE_len (cost := wc) pk
  repeat (first | refine byW ?_ | (refine byV ?_; intro w hw))
  refine W_mixed [.blk b9 (hwC H a1 n1 c1 a2 n2 c2 a3 n3 c3 a4 n4 c4 a5 n5 c5)] [fun _ => [], fun _ => [], fun _ => [], fun _ => S] [[],[],[],[],[],[0],[0,2],[0],[],[1],[0,1],[]] [[],[],[],[],[],[0],[0,2],[0],[2],[1],[0,1],[]] [[45, 39, 46], [12], [39], []] (by
    show Wd Γ4 ([.blk b9 (hwC H a1 n1 c1 a2 n2 c2 a3 n3 c3 a4 n4 c4 a5 n5 c5)] ++ ([] ++ ([] ++ ([] ++ (S ++ []))))) w
    rw [List.append_nil]; exact hw) ?_
  repeat (first | refine mY ?_ | refine mP ?_ | refine mPg ?_)
  refine mCallG (c := 0) (F := fun _ => []) (exC (T := Value) (fun t g => g 45 = .tuple #[.agg #[.int .i64 r, t], .int .i64 0]) fun t => [.own t 60 2 ((planE H r ms wc).map plV)]) (fun _ => [.agg #[.string H.Name, .slice a1 n1 c1, .slice a2 n2 c2, .slice a3 n3 c3, .slice a4 n4 c4, .slice a5 n5 c5], .int .i64 r, .slice am nm cm, .int .i64 wc]) (fun g w Y hw => (plan_any (hhw := hR4) (hr := s1) r wc hw).mono fun e w' hq => ?_) ?_ (hM := rfl)
  · obtain ⟨v, rfl, hw⟩ := hq
    rw [hps, hpe] at *
    exact ⟨_, rfl, exC_mk (T := Value) v rfl hw⟩
  refine mS2 (c := 0) (c2 := 2) (v := undef) (F := exC (T := Value) (fun t g => g 45 = .tuple #[.agg #[.int .i64 r, t], .int .i64 0]) fun t => [.own t 60 2 ((planE H r ms wc).map plV)]) (G := fun _ => []) (exC (T := Value) (fun t g => g 39 = .tuple #[.agg #[.int .i64 r, t], .int .i64 0]) fun t => [.own t 60 2 ((planE H r ms wc).map plV)]) (fun g => [Res.pure (∃ v, g 39 = .tuple #[v, .int .i64 0])]) (fun g w Y hw => ?_) ?_ (hM := setC_self) (hM2 := (setC_other (by decide)).trans rfl)
  · obtain ⟨t, ht, hw⟩ := exC_open hw
    have h5 : g 45 = .tuple #[.agg #[.int .i64 r, t], .int .i64 0] := ht
    refine Yields.step (v := .tuple #[.agg #[.int .i64 r, t], .int .i64 0]) (y_move h5) ⟨(fun h => by cases h), exC_mk (T := Value) t rfl ?_⟩
    exact (Wd.pureIn (p := ∃ v, (Value.tuple #[.agg #[.int .i64 r, t], .int .i64 0]) = .tuple #[v, .int .i64 0]) ⟨_, rfl⟩ hw).perm (.swap _ _ _)
  refine mS (c := 0) (v := undef) (F := exC (T := Value) (fun t g => g 39 = .tuple #[.agg #[.int .i64 r, t], .int .i64 0]) fun t => [.own t 60 2 ((planE H r ms wc).map plV)]) (exC (T := Value) (fun t g => g 46 = .agg #[.int .i64 r, t]) fun t => [.own t 60 2 ((planE H r ms wc).map plV)]) (fun g w Y hw => ?_) ?_ (hM := (setC_other (by decide)).trans setC_self)
  · obtain ⟨t, ht, hw⟩ := exC_open hw
    have h5 : g 39 = .tuple #[.agg #[.int .i64 r, t], .int .i64 0] := ht
    exact Yields.step (v := .agg #[.int .i64 r, t]) (y_extract h5 rfl) ⟨(fun h => by cases h), exC_mk (T := Value) t rfl hw⟩
  refine mY (v := .int .i64 0) ?_ (hy := fun Y w g hw => by
    have hw : Wd Γ4 ([.blk b9 (hwC H a1 n1 c1 a2 n2 c2 a3 n3 c3 a4 n4 c4 a5 n5 c5)] ++ ([Res.pure (∃ v, g 39 = .tuple #[v, .int .i64 0])] ++ Y)) w := hw
    obtain ⟨v, h5⟩ := Wd.pureOut hw (i := 1) rfl
    exact y_extract h5 rfl)
  refine mAlloc (c := 1) ?_
  refine mS2 (c := 0) (c2 := 1) (v := undef) (F := exC (T := Value) (fun t g => g 46 = .agg #[.int .i64 r, t]) fun t => [.own t 60 2 ((planE H r ms wc).map plV)]) (G := fun g => [atP (g 12) fun bb => [.blk bb (.cells #[.int .i64 0, .slice none 0 0] 32)]]) (fun _ => []) (exC (T := Value × Nat) (fun t g => g 12 = .pointer (some ⟨t.2, 0, none⟩)) fun t => [.blk t.2 (.cells #[.int .i64 r, t.1] 32), .own t.1 60 2 ((planE H r ms wc).map plV)]) (fun g w Y hw => ?_) ?_ (hM := (setC_other (by decide)).trans setC_self) (hM2 := setC_self)
  · obtain ⟨t, ht, hw⟩ := exC_open hw
    have hw : Wd Γ4 (atP (g 12) (fun bb => [.blk bb (.cells #[.int .i64 0, .slice none 0 0] 32)]) :: ([.own t 60 2 ((planE H r ms wc).map plV)] ++ ([.blk b9 (hwC H a1 n1 c1 a2 n2 c2 a3 n3 c3 a4 n4 c4 a5 n5 c5)] ++ Y))) w := hw.perm (.swap _ _ _)
    obtain ⟨bb, h6, hw⟩ := hw.openAt
    obtain ⟨a', n', c', rfl, -, -, -⟩ := hw.own_shape (i := 1) rfl
    have h5 : g 46 = .agg #[.int .i64 r, .slice a' n' c'] := ht
    have h6 : g 12 = .pointer (some ⟨bb, 0, none⟩) := h6
    exact s_store (i := 0) (v := .agg #[.int .i64 r, .slice a' n' c']) (inferInstance : TSz Tryz.prog 32 2).h hw h6 h5 rfl rfl (List.all_eq_true.1 (rfl : [Value.int .i64 r, .slice a' n' c'].all (·.oneCell') = true)) rfl (Nat.le_refl _) fun w' hw' => ⟨(fun h => rfl), by rw [List.nil_append]; exact exC_mk (T := Value × Nat) (.slice a' n' c', bb) h6 hw'⟩
  repeat (first | refine mY ?_ | refine mP ?_ | refine mPg ?_)
  refine mEnd fun w g hw => ?_
  have hw : Wd Γ4 ([.blk b9 (hwC H a1 n1 c1 a2 n2 c2 a3 n3 c3 a4 n4 c4 a5 n5 c5)] ++ ([] ++ (exC (T := Value × Nat) (fun t g => g 12 = .pointer (some ⟨t.2, 0, none⟩)) (fun t => [.blk t.2 (.cells #[.int .i64 r, t.1] 32), .own t.1 60 2 ((planE H r ms wc).map plV)]) g ++ ([Res.pure (∃ v, g 39 = .tuple #[v, .int .i64 0])] ++ (S ++ []))))) w := hw
  rw [List.append_nil, List.nil_append] at hw
  obtain ⟨t, ht, hw⟩ := exC_open hw.swapApp
  obtain ⟨tv, b12⟩ := t
  have h12 : g 12 = .pointer (some ⟨b12, 0, none⟩) := ht
  obtain ⟨ae, ne, ce, rfl, hne, hnec, hce⟩ := hw.own_shape (i := 1) rfl
  simp only [List.length_map] at hne
  have hw : Wd Γ4 (.own (.slice ae ne ce) 60 2 ((planE H r ms wc).map plV) :: .blk b12 (.cells #[.int .i64 r, .slice ae ne ce] 32) :: .blk b9 (hwC H a1 n1 c1 a2 n2 c2 a3 n3 c3 a4 n4 c4 a5 n5 c5) :: S) w := Wd.ds [3] (hw.perm (S' := .own (.slice ae ne ce) 60 2 ((planE H r ms wc).map plV) :: .blk b12 (.cells #[.int .i64 r, .slice ae ne ce] 32) :: .blk b9 (hwC H a1 n1 c1 a2 n2 c2 a3 n3 c3 a4 n4 c4 a5 n5 c5) :: Res.pure (∃ v, g 39 = .tuple #[v, .int .i64 0]) :: S) byPM)
  refine W_has (l := [(9, .pointer (some ⟨b9, 0, none⟩)), (10, .int .i64 r), (11, .slice am nm cm), (12, .pointer (some ⟨b12, 0, none⟩)), (13, .int .i64 0)]) ⟨rfl, rfl, rfl, h12, rfl, trivial⟩ fun ρ' hρ' => ?_
  rw [hρ'.eq]
  clear hρ' h12 ht
  have htos := planE_tos (cost := wc) pk
  have ht0 : treeErr H r (planE H r ms wc) = 0 := planE_tree pk
  obtain ⟨Γ5, hle5, q2, hw⟩ := hw.freeze
  haveI hR5 := hR4.mono hle5
  haveI s3 : SlC Γ5 (.slice ae ne ce) 2 ((planE H r ms wc).map plV) := ⟨q2⟩
  haveI s4 : ShortL (planE H r ms wc) := ⟨by omega⟩
  have q1' := q1.mono hle5
  have hle : Γ.le Γ5 := hle1.trans (hle2.trans (hle3.trans (hle4.trans hle5)))
  haveI p5 : PG Tryz.prog Γ5 19 [.agg #[.string H.Name, .slice a1 n1 c1, .slice a2 n2 c2, .slice a3 n3 c3, .slice a4 n4 c4, .slice a5 n5 c5], .agg #[.int .i64 r, .slice ae ne ce]] (.int .i64 0) := by
    have := pg_VTree (hh := hR5) (hr := s3) (hsh := s4) r
    rwa [ht0] at this
  haveI p6 : PG Tryz.prog Γ5 20 [.agg #[.string H.Name, .slice a1 n1 c1, .slice a2 n2 c2, .slice a3 n3 c3, .slice a4 n4 c4, .slice a5 n5 c5], .agg #[.int .i64 r, .slice ae ne ce]] (.int .i64 0) := by
    have := pg_RValid (hh := hR5) (hr := s3) (hsh := s4) r
    rwa [ht0] at this
  have hb1 : decide (r ≠ r) = false := by simp
  have hb2 : decide (((ne : Nat) : Int) ≠ ((nm : Nat) : Int)) = false := decide_eq_false (by simp; omega)
  repeat (first | (first | refine W_seq ?_ | refine W_block ?_ | refine W_region ?_ | refine W_skip ?_ | refine W_ret ?_ | refine W_exit ?_) | ((first | apply L_bin | apply L_notop); first | (refine lT ?_ ?_; (first | exact rfl | exact decide_eq_true rfl | exact hb1 | exact hb2 | exact hb3 | exact hb4 | (focus (simp; done)))) | (refine lF ?_ ?_; (first | exact rfl | exact decide_eq_true rfl | exact hb1 | exact hb2 | exact hb3 | exact hb4 | (focus (simp; done))))) | (first | refine L_nil ?_ | (apply L_plain; first | (apply L_go; first | refine lP ?_ | (refine lPg ?_; intro w hw)) | (apply L_mf; refine lMakeFunc ?_) | refine lY ?_) | (apply L_guarded; first | refine lGT ?_ (hct := rfl) | refine lGF ?_ (hct := rfl) | (apply L_go; first | refine lPG ?_ | (refine lPgG ?_; intro w hw)) | refine lG ?_)) | (refine lAlloc ?_; intro _ w hw) | (refine lBox ?_; intro _ w hw) | (refine lStore ?_; intro w hw))
  refine W_cond_false rfl ?_
  repeat (first | refine byW ?_ | (refine byV ?_; intro w hw))
  clear hb1 hb2
  have hmem : ∀ (x : Int), x ∈ ms → (planE H r ms wc).any (fun e => decide (e.2 = x)) = true := fun x hx => by
    obtain ⟨e, he, he2⟩ := List.mem_map.1 (htos.mem_iff.2 hx)
    exact List.any_eq_true.2 ⟨e, he, by simpa using he2⟩
  have hknown : ∀ e ∈ planE H r ms wc, (findC H.Cores e.1).2 = true ∧ (findC H.Cores e.2).2 = true := fun e he => plan_known pk he
  have hcross : ∀ (m : Nat) (e : Pl), (planE H r ms wc)[m]? = some e → coreN H e.1 ≠ coreN H e.2 → e.1 = r ∧ coreN H e.2 ≠ coreN H r := fun m e he hne => ⟨(cross_root pk he hne).1, (cross_root pk he hne).2.1⟩
  have hent : ∀ (n : Int) (i : Nat), entN H (planE H r ms wc) i n ≤ 1 := fun n i => ent_le pk n i
  have hBW := hw
  clear hw
  generalize planE H r ms wc = es at *
  refine W_loop (fun μ ρ w => ∃ k : Nat, μ + k = nm ∧ Has ρ [(9, .pointer (some ⟨b9, 0, none⟩)), (10, .int .i64 r), (11, .slice am nm cm), (12, .pointer (some ⟨b12, 0, none⟩)), (14, .int .i64 k)] ∧ Wd Γ5 (.blk b12 (.cells #[.int .i64 r, .slice ae ne ce] 32) :: .blk b9 (hwC H a1 n1 c1 a2 n2 c2 a3 n3 c3 a4 n4 c4 a5 n5 c5) :: S) w) nm ⟨0, by omega, ⟨rfl, rfl, rfl, rfl, rfl, trivial⟩, hBW⟩ ?_
  clear hBW
  rintro μ ρ w ⟨k, hk, hρ, hw⟩
  rw [hρ.eq]
  clear hρ
  repeat (first | refine byW ?_ | (refine byV ?_; intro w hw))
  refine W_cond rfl (fun h => ?_) (fun h => ?_)
  · have hkn : k < nm := by have := of_decide_eq_true h; omega
    clear h
    obtain ⟨x, hx⟩ := get_lt (l := ms) (k := k) (by omega)
    have hany := hmem x (List.mem_of_getElem? hx)
    repeat (first | refine byW ?_ | (refine byV ?_; intro w hw))
    refine W_loop (fun μ ρ w => ∃ j : Nat, μ + j = ne ∧ Has ρ [(9, .pointer (some ⟨b9, 0, none⟩)), (10, .int .i64 r), (11, .slice am nm cm), (12, .pointer (some ⟨b12, 0, none⟩)), (14, .int .i64 k), (15, .bool ((es.take j).any fun e => decide (e.2 = x))), (16, .int .i64 j)] ∧ Wd Γ5 (.blk b12 (.cells #[.int .i64 r, .slice ae ne ce] 32) :: .blk b9 (hwC H a1 n1 c1 a2 n2 c2 a3 n3 c3 a4 n4 c4 a5 n5 c5) :: S) w) ne ⟨0, by omega, ⟨rfl, rfl, rfl, rfl, rfl, rfl, rfl, trivial⟩, hw⟩ ?_
    clear hw
    rintro μ2 ρ w ⟨j, hj, hρ, hw⟩
    rw [hρ.eq]
    clear hρ
    repeat (first | refine byW ?_ | (refine byV ?_; intro w hw))
    refine W_cond rfl (fun h => ?_) (fun h => ?_)
    · have hjn : j < ne := by have := of_decide_eq_true h; omega
      clear h
      obtain ⟨e, he⟩ := get_lt (l := es) (k := j) (by omega)
      have han := any_snoc (f := fun e : Pl => decide (e.2 = x)) he
      generalize (es.take j).any (fun e => decide (e.2 = x)) = fb at *
      repeat (first | refine byW ?_ | (refine byV ?_; intro w hw))
      refine W_quiet (by kernel_rfl) (by kernel_rfl) hw ?_
      repeat (first | refine Q_nil ?_ | (apply Q_plain; first | (apply Q_go; first | refine qP ?_ | refine qPg ?_) | refine qY ?_) | (apply Q_guarded; first | (apply Q_go; first | refine qPG ?_ | refine qPgG ?_) | refine qG ?_))
      intro w hw
      repeat (first | refine byW ?_ | (refine byV ?_; intro w hw))
      exact ⟨μ2 - 1, by omega, j + 1, by omega, ⟨rfl, rfl, rfl, rfl, rfl, congrArg Value.bool han.symm, rfl, trivial⟩, hw⟩
    · have hjn : ¬ j < ne := by have := of_decide_eq_false h; omega
      rw [List.take_of_length_le (by omega), hany]
      repeat (first | refine byW ?_ | (refine byV ?_; intro w hw))
      refine W_cond_false rfl ?_
      repeat (first | refine byW ?_ | (refine byV ?_; intro w hw))
      exact ⟨μ - 1, by omega, k + 1, by omega, ⟨rfl, rfl, rfl, rfl, rfl, trivial⟩, hw⟩
  have hkn : ¬ k < nm := by have := of_decide_eq_false h; omega
  clear h hkn hk
  repeat (first | refine byW ?_ | (refine byV ?_; intro w hw))
  refine lAlloc ?_
  intro b17 w hw
  have hw : Wd Γ5 (.blk b17 (.cells ((entL H es 0).map fun x => Value.int .i64 x).toArray 61) :: .blk b12 (.cells #[.int .i64 r, .slice ae ne ce] 32) :: .blk b9 (hwC H a1 n1 c1 a2 n2 c2 a3 n3 c3 a4 n4 c4 a5 n5 c5) :: S) w := by rw [entL_zero]; exact hw
  repeat (first | refine byW ?_ | (refine byV ?_; intro w hw))
  refine W_loop (fun μ ρ w => ∃ i : Nat, μ + i = ne ∧ Has ρ [(9, .pointer (some ⟨b9, 0, none⟩)), (10, .int .i64 r), (12, .pointer (some ⟨b12, 0, none⟩)), (17, .pointer (some ⟨b17, 0, none⟩)), (18, .int .i64 i)] ∧ Wd Γ5 (.blk b17 (.cells ((entL H es i).map fun x => Value.int .i64 x).toArray 61) :: .blk b12 (.cells #[.int .i64 r, .slice ae ne ce] 32) :: .blk b9 (hwC H a1 n1 c1 a2 n2 c2 a3 n3 c3 a4 n4 c4 a5 n5 c5) :: S) w) ne ⟨0, by omega, ⟨rfl, rfl, rfl, rfl, rfl, trivial⟩, hw⟩ ?_
  clear hw
  rintro μ ρ w ⟨i, hi, hρ, hw⟩
  rw [hρ.eq]
  clear hρ
  haveI pr := pg_NodeOf (hh := hR5) (x := r) pk.kr
  repeat (first | refine byW ?_ | (refine byV ?_; intro w hw))
  refine W_cond rfl (fun h => ?_) (fun h => ?_)
  · have hin : i < ne := by have := of_decide_eq_true h; omega
    clear h
    obtain ⟨e, he⟩ := get_lt (l := es) (k := i) (by omega)
    obtain ⟨kf, kt⟩ := hknown e (List.mem_of_getElem? he)
    haveI pf := pg_NodeOf (hh := hR5) (x := e.1) kf
    haveI pt := pg_NodeOf (hh := hR5) (x := e.2) kt
    obtain ⟨hB0, hB1⟩ := coreN_rng hv kt
    have hq0 := hent (coreN H e.2) i
    have hq1 := hent (coreN H e.2) (i + 1)
    repeat (first | refine byW ?_ | (refine byV ?_; intro w hw))
    refine W_quiet (by kernel_rfl) (by kernel_rfl) hw ?_
    repeat (first | refine Q_nil ?_ | (apply Q_plain; first | (apply Q_go; first | refine qP ?_ | refine qPg ?_) | refine qY ?_) | (apply Q_guarded; first | (apply Q_go; first | refine qPG ?_ | refine qPgG ?_) | refine qG ?_))
    intro w hw
    repeat (first | refine byW ?_ | (refine byV ?_; intro w hw))
    refine W_cond rfl (fun h => ?_) (fun h => ?_)
    · have hne : coreN H e.1 ≠ coreN H e.2 := of_decide_eq_true h
      clear h
      obtain ⟨hrt, hnr⟩ := hcross i e he hne
      repeat (first | refine byW ?_ | (refine byV ?_; intro w hw))
      refine lY (v := .int .i64 (entN H es i (coreN H e.2) : Int)) ?_ (hy := y_l1b (i := 0) hw rfl rfl (getInt (entL_get ⟨hB0, hB1⟩)))
      repeat (first | refine byW ?_ | (refine byV ?_; intro w hw))
      refine lStore (i := 0) (o := 0 + (coreN H e.2).toNat * 1) (ho := by simp [entL_len]; omega) ?_
      intro w hw
      have hw : Wd Γ5 (.blk b17 (.cells (putCells ((entL H es i).map fun x => Value.int .i64 x).toArray (0 + (coreN H e.2).toNat * 1) [.int .i64 ((entN H es i (coreN H e.2) : Int) + 1)]) 61) :: .blk b12 (.cells #[.int .i64 r, .slice ae ne ce] 32) :: .blk b9 (hwC H a1 n1 c1 a2 n2 c2 a3 n3 c3 a4 n4 c4 a5 n5 c5) :: S) w := hw
      rw [putInt (by rw [entL_len]; omega), entL_set he ⟨hB0, hB1⟩ hne] at hw
      have hb1 : decide ((entN H es (i + 1) (coreN H e.2) : Int) > 1) = false := decide_eq_false (by omega)
      have hb2 : decide (coreN H e.1 ≠ coreN H e.2) = true := decide_eq_true hne
      have hb3 : decide (e.1 ≠ r) = false := decide_eq_false (by simp [hrt])
      have hb4 : decide (coreN H e.2 = coreN H r) = false := decide_eq_false hnr
      repeat (first | (first | refine W_seq ?_ | refine W_block ?_ | refine W_region ?_ | refine W_skip ?_ | refine W_ret ?_ | refine W_exit ?_) | ((first | apply L_bin | apply L_notop); first | (refine lT ?_ ?_; (first | exact rfl | exact decide_eq_true rfl | exact hb1 | exact hb2 | exact hb3 | exact hb4 | (focus (simp; done)))) | (refine lF ?_ ?_; (first | exact rfl | exact decide_eq_true rfl | exact hb1 | exact hb2 | exact hb3 | exact hb4 | (focus (simp; done))))) | (first | refine L_nil ?_ | (apply L_plain; first | (apply L_go; first | refine lP ?_ | (refine lPg ?_; intro w hw)) | (apply L_mf; refine lMakeFunc ?_) | refine lY ?_) | (apply L_guarded; first | refine lGT ?_ (hct := rfl) | refine lGF ?_ (hct := rfl) | (apply L_go; first | refine lPG ?_ | (refine lPgG ?_; intro w hw)) | refine lG ?_)) | (refine lAlloc ?_; intro _ w hw) | (refine lBox ?_; intro _ w hw) | (refine lStore ?_; intro w hw))
      refine lY (v := .int .i64 (entN H es (i + 1) (coreN H e.2) : Int)) ?_ (hy := y_l1b (i := 0) hw rfl rfl (getInt (entL_get ⟨hB0, hB1⟩)))
      repeat (first | (first | refine W_seq ?_ | refine W_block ?_ | refine W_region ?_ | refine W_skip ?_ | refine W_ret ?_ | refine W_exit ?_) | ((first | apply L_bin | apply L_notop); first | (refine lT ?_ ?_; (first | exact rfl | exact decide_eq_true rfl | exact hb1 | exact hb2 | exact hb3 | exact hb4 | (focus (simp; done)))) | (refine lF ?_ ?_; (first | exact rfl | exact decide_eq_true rfl | exact hb1 | exact hb2 | exact hb3 | exact hb4 | (focus (simp; done))))) | (first | refine L_nil ?_ | (apply L_plain; first | (apply L_go; first | refine lP ?_ | (refine lPg ?_; intro w hw)) | (apply L_mf; refine lMakeFunc ?_) | refine lY ?_) | (apply L_guarded; first | refine lGT ?_ (hct := rfl) | refine lGF ?_ (hct := rfl) | (apply L_go; first | refine lPG ?_ | (refine lPgG ?_; intro w hw)) | refine lG ?_)) | (refine lAlloc ?_; intro _ w hw) | (refine lBox ?_; intro _ w hw) | (refine lStore ?_; intro w hw))
      refine W_cond_false rfl ?_
      repeat (first | refine byW ?_ | (refine byV ?_; intro w hw))
      exact ⟨μ - 1, by omega, i + 1, by omega, ⟨rfl, rfl, rfl, rfl, rfl, trivial⟩, hw⟩
    · have heq : coreN H e.1 = coreN H e.2 := by have := of_decide_eq_false h; simpa using this
      clear h
      rw [entL_same he heq] at hw
      have hb1 : decide ((entN H es (i + 1) (coreN H e.2) : Int) > 1) = false := decide_eq_false (by omega)
      have hb2 : decide (coreN H e.1 ≠ coreN H e.2) = false := decide_eq_false (by simp [heq])
      repeat (first | (first | refine W_seq ?_ | refine W_block ?_ | refine W_region ?_ | refine W_skip ?_ | refine W_ret ?_ | refine W_exit ?_) | ((first | apply L_bin | apply L_notop); first | (refine lT ?_ ?_; (first | exact rfl | exact decide_eq_true rfl | exact hb1 | exact hb2 | exact hb3 | exact hb4 | (focus (simp; done)))) | (refine lF ?_ ?_; (first | exact rfl | exact decide_eq_true rfl | exact hb1 | exact hb2 | exact hb3 | exact hb4 | (focus (simp; done))))) | (first | refine L_nil ?_ | (apply L_plain; first | (apply L_go; first | refine lP ?_ | (refine lPg ?_; intro w hw)) | (apply L_mf; refine lMakeFunc ?_) | refine lY ?_) | (apply L_guarded; first | refine lGT ?_ (hct := rfl) | refine lGF ?_ (hct := rfl) | (apply L_go; first | refine lPG ?_ | (refine lPgG ?_; intro w hw)) | refine lG ?_)) | (refine lAlloc ?_; intro _ w hw) | (refine lBox ?_; intro _ w hw) | (refine lStore ?_; intro w hw) | (apply L_guarded; refine lGF ?_ (hc := by exact GuardIs.u) (hct := rfl)))
      refine lY (v := .int .i64 (entN H es (i + 1) (coreN H e.2) : Int)) ?_ (hy := y_l1b (i := 0) hw rfl rfl (getInt (entL_get ⟨hB0, hB1⟩)))
      repeat (first | (first | refine W_seq ?_ | refine W_block ?_ | refine W_region ?_ | refine W_skip ?_ | refine W_ret ?_ | refine W_exit ?_) | ((first | apply L_bin | apply L_notop); first | (refine lT ?_ ?_; (first | exact rfl | exact decide_eq_true rfl | exact hb1 | exact hb2 | exact hb3 | exact hb4 | (focus (simp; done)))) | (refine lF ?_ ?_; (first | exact rfl | exact decide_eq_true rfl | exact hb1 | exact hb2 | exact hb3 | exact hb4 | (focus (simp; done))))) | (first | refine L_nil ?_ | (apply L_plain; first | (apply L_go; first | refine lP ?_ | (refine lPg ?_; intro w hw)) | (apply L_mf; refine lMakeFunc ?_) | refine lY ?_) | (apply L_guarded; first | refine lGT ?_ (hct := rfl) | refine lGF ?_ (hct := rfl) | (apply L_go; first | refine lPG ?_ | (refine lPgG ?_; intro w hw)) | refine lG ?_)) | (refine lAlloc ?_; intro _ w hw) | (refine lBox ?_; intro _ w hw) | (refine lStore ?_; intro w hw) | (apply L_guarded; refine lGF ?_ (hc := by exact GuardIs.u) (hct := rfl)))
      refine W_cond_false rfl ?_
      repeat (first | refine byW ?_ | (refine byV ?_; intro w hw))
      exact ⟨μ - 1, by omega, i + 1, by omega, ⟨rfl, rfl, rfl, rfl, rfl, trivial⟩, hw⟩
  · repeat (first | refine byW ?_ | (refine byV ?_; intro w hw))
    exact ⟨_, rfl, Γ5, hle, rfl, hw.ds [0, 0, 0]⟩
end Go.Proofs.YteiijmclobggjaaGreat
end
