/- Texts of this proof, one behind another. -/
import Derived.Test.YteiijmclobggjaaGreatM5
set_option linter.unusedVariables false
set_option linter.unusedSimpArgs false
/- The kit's Subset and the parties of a tree, walked. -/
section
open Go Mk
namespace Go.Proofs.YteiijmclobggjaaGreat
set_option maxHeartbeats 16000000
attribute [local irreducible] Calls
/-- What Subset picks. -/
def subF (L : List Int) : Nat → Nat → List Int → List Int
  | 0, _, _ => []
  | f + 1, k, rest => if rest = [] then [] else rest.getD (nx L k rest.length).toNat 0 :: subF L f (k + 1) (rest.eraseIdx (nx L k rest.length).toNat)
theorem nx_nat (L : List Int) (k : Nat) {n : Nat} (h : 1 ≤ n) : ∃ i : Nat, nx L k n = i ∧ i < n := by
  have := nx_range (L := L) (k := k) (n := (n : Int)) (by omega)
  exact ⟨(nx L k n).toNat, by omega, by omega⟩
theorem cons_erase_perm : ∀ {l : List Int} {k : Nat} {x : Int}, l[k]? = some x → (x :: l.eraseIdx k).Perm l
  | [], _, _, h => by simp at h
  | a :: l, 0, x, h => by simp at h; subst h; exact .refl _
  | a :: l, k + 1, x, h => (List.Perm.swap a x _).trans ((cons_erase_perm (l := l) (k := k) (by simpa using h)).cons a)
theorem subF_perm (L : List Int) : ∀ (f k : Nat) (l : List Int), ∃ rest, (subF L f k l ++ rest).Perm l
  | 0, _, l => ⟨l, by simp [subF]⟩
  | f + 1, k, l => by
    unfold subF
    by_cases h : l = []
    · rw [if_pos h]; exact ⟨l, by simp⟩
    · rw [if_neg h]
      obtain ⟨i, hi, hil⟩ := nx_nat L k (n := l.length) (by have := List.length_pos_iff.2 h; omega)
      rw [hi]
      obtain ⟨rest, hr⟩ := subF_perm L f (k + 1) (l.eraseIdx i)
      refine ⟨rest, ?_⟩
      rw [show ((i : Int)).toNat = i from rfl, List.cons_append]
      obtain ⟨x, hx⟩ := get_lt hil
      rw [List.getD_eq_getElem?_getD, hx]
      exact (hr.cons x).trans (cons_erase_perm hx)
theorem subF_len (L : List Int) : ∀ (f k : Nat) (l : List Int), (subF L f k l).length ≤ f
  | 0, _, l => by simp [subF]
  | f + 1, k, l => by
    unfold subF
    split
    · simp
    · rw [List.length_cons]
      have := subF_len L f (k + 1) (l.eraseIdx (nx L k l.length).toNat)
      omega
theorem erase_ints (xs : List Int) (k : Nat) : (intRows xs).take k ++ (intRows xs).drop (k + 1) = intRows (xs.eraseIdx k) := by
  unfold intRows
  rw [← List.map_take, ← List.map_drop, ← List.map_append, List.eraseIdx_eq_take_drop_succ]
theorem take_ints (xs : List Int) (k : Nat) : ∀ u ∈ ((intRows xs).take k).flatten, u.oneCell' = true := by
  unfold intRows; rw [← List.map_take]; exact List.all_eq_true.1 (ints1 _)
theorem drop_ints (xs : List Int) (k : Nat) : ∀ u ∈ ((intRows xs).drop k).flatten, u.oneCell' = true := by
  unfold intRows; rw [← List.map_drop]; exact List.all_eq_true.1 (ints1 _)

theorem Subset_any {Γ : Gho} {S : List Res} {w : World} {al ap : Option Addr} {nl cl np cp : Nat} {l L : List Int} (hl : RepS Γ (.slice al nl cl) 1 (intRows l)) (hp : RepS Γ (.slice ap np cp) 1 (intRows L)) (hll : l.length ≤ 1000) (hLl : L.length ≤ 1000) (hw : Wd Γ S w) :
    Calls Tryz.prog 45 #[.slice al nl cl, .slice ap np cp] w fun e w' => ∃ v, e = .returned v ∧ Wd Γ (.own v 3 1 (intRows (subF L L.length 0 l)) :: S) w' := by
  obtain ⟨hnl, hncl, hccl⟩ := rep_facts hl
  obtain ⟨hnp, hncp, hccp⟩ := rep_facts hp
  simp only [intRows, List.length_map] at hnl hnp
  refine calls_of_WC Tryz.func45 rfl rfl ?_
  repeat (first | refine byW ?_ | (refine byV ?_; intro w hw))
  refine lBox ?_
  intro bs w hw
  have hw : Wd Γ (drwB bs ap np cp 0 :: S) w := hw
  repeat (first | refine byW ?_ | (refine byV ?_; intro w hw))
  have hw := Wd.addNil (a := none) (E := 3) (sz := 1) hw
  refine lApp (i := 0) (rows2 := intRows l) ?_ (hl.rd hw) rfl rfl hw rfl (ints1 _) (by simp [intRows, hnl])
  intro vr w hw
  have hw := Wd.addNil (a := none) (E := 3) (sz := 1) hw
  have hw : Wd Γ (.own vr 3 1 (intRows l) :: .own (.slice none 0 0) 3 1 (intRows []) :: drwB bs ap np cp 0 :: S) w := hw.ps [1]
  repeat (first | refine byW ?_ | (refine byV ?_; intro w hw))
  refine W_loop (fun μ ρ w => ∃ (k : Nat) (out rest : List Int) (vr vo : Value), μ + k = np ∧ out.length = k ∧ rest.length ≤ 1000 ∧ out ++ subF L μ k rest = subF L L.length 0 l ∧ Has ρ [(1, .slice ap np cp), (5, .pointer (some ⟨bs, 0, none⟩)), (6, vr), (7, vo)] ∧ Wd Γ (.own vr 3 1 (intRows rest) :: .own vo 3 1 (intRows out) :: drwB bs ap np cp k :: S) w) np ⟨0, [], l, vr, _, by omega, rfl, hll, by rw [hnp]; rfl, ⟨rfl, rfl, rfl, rfl, trivial⟩, hw⟩ ?_
  clear hw
  rintro μ ρ w ⟨k, out, rest, vr, vo, hk, hok, hrl, hF, hρ, hw⟩
  rw [hρ.eq]
  clear hρ
  obtain ⟨ar, nr, cr, rfl, hnr, hncr, hccr⟩ := hw.own_shape (i := 0) rfl
  obtain ⟨ao, no, co, rfl, hno, hnco, hcco⟩ := hw.own_shape (i := 1) rfl
  simp only [intRows, List.length_map] at hnr hno
  repeat (first | refine byW ?_ | (refine byV ?_; intro w hw))
  refine W_cond rfl (fun h => ?_) (fun h => ?_)
  · have h : (decide ((nr : Int) > 0) && decide ((no : Int) < (np : Int))) = true := h
    simp only [Bool.and_eq_true, decide_eq_true_eq] at h
    obtain ⟨h1, h2⟩ := h
    obtain ⟨μ', rfl⟩ : ∃ μ', μ = μ' + 1 := ⟨μ - 1, by omega⟩
    obtain ⟨i, hi, hin⟩ := nx_nat L k (n := nr) (by omega)
    obtain ⟨x, hx⟩ := get_lt (l := rest) (k := i) (by omega)
    repeat (first | refine byW ?_ | (refine byV ?_; intro w hw))
    refine lCall ((Next_any (n := (nr : Int)) (by omega) (by omega) hp (hw.ps [2])).mono fun e w hq => ?_)
    clear hw
    obtain ⟨rfl, hw⟩ := hq
    rw [hi]
    refine ⟨_, rfl, ?_⟩
    have hw : Wd Γ (.own (.slice ar nr cr) 3 1 (intRows rest) :: .own (.slice ao no co) 3 1 (intRows out) :: drwB bs ap np cp (k + 1) :: S) w := hw.ps [2, 2]
    repeat (first | refine byW ?_ | (refine byV ?_; intro w hw))
    refine lBuildSlice (intRows [x]) ?_
    intro ax w hw
    have hw : Wd Γ (.own (.slice (some ax) 1 1) 3 1 (intRows [x]) :: .own (.slice ar nr cr) 3 1 (intRows rest) :: .own (.slice ao no co) 3 1 (intRows out) :: drwB bs ap np cp (k + 1) :: S) w := hw
    repeat (first | refine byW ?_ | (refine byV ?_; intro w hw))
    refine lApp (i := 2) (rows2 := intRows [x]) ?_ (hw.own_rd (i := 0) rfl) rfl rfl hw rfl (ints1 _) rfl
    intro vo' w hw
    have hw : Wd Γ (.own (.slice ar nr cr) 3 1 (intRows rest) :: .own vo' 3 1 (intRows out ++ intRows [x]) :: drwB bs ap np cp (k + 1) :: S) w := (hw.ds [0])
    rw [← intRows_app] at hw
    repeat (first | refine byW ?_ | (refine byV ?_; intro w hw))
    refine W_mixP [[],[],[],[0],[],[],[],[],[0],[0,1]] [[1],[],[],[0],[1],[],[],[],[0],[0,1]] [38, 43] 6 (.slice ar nr cr) ?_
    refine mMoveR (dd := 6) ?_
    refine mY ?_
    refine mY (v := .slice ar i cr) ?_ (hy := fun Y w g hw => y_sliceH (a := ar) (n := nr) (c := cr) (h := (i : Int)) rfl rfl (by omega) (by omega))
    refine mAppNil (m := i) (rows2 := (intRows rest).take i) ?_ (fun Y w hw => (Wd.own_rd (i := 0) hw rfl).take i) (by simp [intRows]; omega) (take_ints _ _)
    refine mMoveR (dd := 6) ?_
    iterate 2 (refine mY ?_)
    refine mY (v := .slice (cutA ar (i + 1) cr 1) (nr - (i + 1)) (cr - (i + 1))) ?_ (hy := fun Y w g hw => y_sliceL (a := ar) (n := nr) (c := cr) (l := (i : Int) + 1) rfl rfl (by omega) (by omega))
    refine mAppOwn (dx := 38) (m := nr - (i + 1)) (rows2 := (intRows rest).drop (i + 1)) ?_ (fun Y w hw => (Wd.own_rd (i := 0) hw rfl).cut (c := cr) (by simp [intRows]; omega) (i + 1) (by simp [intRows]; omega)) (by simp [intRows]; omega) (drop_ints _ _) (hb := by simp [intRows]; omega) (h63 := by simp [intRows]; omega)
    refine mAssX (dx := 43) ?_
    refine mEnd fun w g hw => ?_
    have hw := hw.perm List.perm_append_comm
    rw [erase_ints] at hw
    have hw : Wd Γ (.own (g 6) 3 1 (intRows (rest.eraseIdx i)) :: .own (.slice ar nr cr) 3 1 (intRows rest) :: .own vo' 3 1 (intRows (out ++ [x])) :: drwB bs ap np cp (k + 1) :: S) w := hw
    have hF' : (out ++ [x]) ++ subF L μ' (k + 1) (rest.eraseIdx i) = subF L L.length 0 l := by
      rw [← hF]
      conv => rhs; unfold subF
      rw [if_neg (by intro e; rw [e] at hnr; simp at hnr; omega), ← hnr, hi, show ((i : Nat) : Int).toNat = i from rfl, List.getD_eq_getElem?_getD, hx]
      simp
    repeat (first | refine byW ?_ | (refine byV ?_; intro w hw))
    exact ⟨μ', by omega, k + 1, out ++ [x], rest.eraseIdx i, g 6, vo', by omega, by simp [hok], by rw [List.length_eraseIdx]; split <;> omega, hF', ⟨rfl, rfl, rfl, rfl, trivial⟩, hw.dropAt 1⟩
  · have h : (decide ((nr : Int) > 0) && decide ((no : Int) < (np : Int))) = false := h
    have hF' : out = subF L L.length 0 l := by
      rw [← hF]
      cases μ with
      | zero => simp [subF]
      | succ μ =>
        have hr0 : rest = [] := by
          simp only [Bool.and_eq_false_iff, decide_eq_false_iff_not] at h
          exact List.eq_nil_of_length_eq_zero (by omega)
        rw [hr0]; simp [subF]
    rw [hF'] at hw
    repeat (first | refine byW ?_ | (refine byV ?_; intro w hw))
    exact ⟨[_], ⟨rfl, trivial⟩, _, rfl, hw.ds [0, 1]⟩
/-- The root and the members that numbers stand for. -/
structure Party (H : HwT) (r : Int) (ms : List Int) : Prop where
  rt : r ∈ H.Cores.map (·.ID)
  sub : ∃ rest, (r :: (ms ++ rest)).Perm (H.Cores.map (·.ID))
theorem parties_any {Γ : Gho} {u : Value} {H : HwT} [hh : HwR Γ u H] (hn : 1 ≤ H.Cores.length ∧ H.Cores.length ≤ 32) {S : List Res} {w : World} {ap : Option Addr} {np cp : Nat} {L : List Int} {root : Int} (hp : RepS Γ (.slice ap np cp) 1 (intRows L)) (hLl : L.length ≤ 1000) (hw : Wd Γ S w) :
    Calls Tryz.prog 22 #[u, .int .i64 root, .slice ap np cp] w fun e w' => ∃ Γ' r ms v, Γ.le Γ' ∧ e = .returned (.tuple #[.int .i64 r, v]) ∧ Party H r ms ∧ ms.length ≤ L.length ∧ Wd Γ' (.own v 3 1 (intRows ms) :: S) w' := by
  have hh' := hh
  obtain ⟨a1, n1, c1, a2, n2, c2, a3, n3, c3, a4, n4, c4, a5, n5, c5, cs, rfl, hcs, hok, hsz, r1, r2, r3, r4, r5⟩ := hh.h
  obtain ⟨hnp, hncp, hccp⟩ := rep_facts hp
  simp only [intRows, List.length_map] at hnp
  refine calls_of_WC Tryz.func22 rfl rfl ?_
  repeat (first | refine byW ?_ | (refine byV ?_; intro w hw))
  refine lBox ?_
  intro b3 w hw
  have hw : Wd Γ (.blk b3 (hwC H a1 n1 c1 a2 n2 c2 a3 n3 c3 a4 n4 c4 a5 n5 c5) :: S) w := hw
  repeat (first | refine byW ?_ | (refine byV ?_; intro w hw))
  refine lCall ((IDs_any (xs := H.Cores) (nm := H.Name) (RepS.rdS r1) (by omega) hw).mono fun e w hq => ?_)
  clear hw
  obtain ⟨vi, rfl, hw⟩ := hq
  refine ⟨_, rfl, ?_⟩
  obtain ⟨ai, ni, ci, rfl, hni, hnci, hcci⟩ := hw.own_shape (i := 0) rfl
  simp only [intRows, List.length_map] at hni
  generalize hids : H.Cores.map (·.ID) = ids at *
  have hil : ids.length = ni := by rw [← hids, List.length_map]; omega
  obtain ⟨k, hk, p1⟩ := place_at (x := root) (n := ni) (by omega) (by omega)
  obtain ⟨x, hx⟩ := get_lt (l := ids) (k := k) (by omega)
  repeat (first | refine byW ?_ | (refine byV ?_; intro w hw))
  refine W_mix2 [.own (.slice ai ni ci) 3 1 (intRows ids), .blk b3 (hwC H a1 n1 c1 a2 n2 c2 a3 n3 c3 a4 n4 c4 a5 n5 c5)] S [[],[],[],[1],[],[],[],[],[1],[1]] [[],[],[],[1],[],[],[],[],[1],[1]] [[], [20, 25, 10]] hw ?_
  iterate 2 (refine mY ?_)
  refine mY (v := .slice ai k ci) ?_ (hy := fun Y w g hw => y_sliceH (a := ai) (n := ni) (c := ci) (h := (k : Int)) rfl rfl (by omega) (by omega))
  refine mAppNil (c := 1) (m := k) (rows2 := (intRows ids).take k) ?_ (fun Y w hw => (Wd.own_rd (i := 0) hw rfl).take k) (by simp [intRows]; omega) (take_ints _ _)
  iterate 3 (refine mY ?_)
  refine mY (v := .slice (cutA ai (k + 1) ci 1) (ni - (k + 1)) (ci - (k + 1))) ?_ (hy := fun Y w g hw => y_sliceL (a := ai) (n := ni) (c := ci) (l := (k : Int) + 1) rfl rfl (by omega) (by omega))
  refine mAppOwn (c := 1) (dx := 20) (m := ni - (k + 1)) (rows2 := (intRows ids).drop (k + 1)) ?_ (fun Y w hw => (Wd.own_rd (i := 0) hw rfl).cut (c := ci) (by simp [intRows]; omega) (k + 1) (by simp [intRows]; omega)) (by simp [intRows]; omega) (drop_ints _ _) (hb := by simp [intRows]; omega) (h63 := by simp [intRows]; omega)
  refine mAssV (c := 1) (dx := 25) ?_
  refine mEnd fun w g hw => ?_
  rw [erase_ints] at hw
  have hw : Wd Γ (.own (.slice ai ni ci) 3 1 (intRows ids) :: .blk b3 (hwC H a1 n1 c1 a2 n2 c2 a3 n3 c3 a4 n4 c4 a5 n5 c5) :: (S ++ ([.own (g 10) 3 1 (intRows (ids.eraseIdx k))] ++ []))) w := hw
  have hw : Wd Γ (.own (g 10) 3 1 (intRows (ids.eraseIdx k)) :: .own (.slice ai ni ci) 3 1 (intRows ids) :: .blk b3 (hwC H a1 n1 c1 a2 n2 c2 a3 n3 c3 a4 n4 c4 a5 n5 c5) :: S) w := hw.perm byPM
  generalize hg : g 10 = g10 at *
  obtain ⟨ar, nr, cr, rfl, hnr, hncr, hccr⟩ := hw.own_shape (i := 0) rfl
  obtain ⟨Γ1, e1, q1, hw⟩ := hw.freeze
  have hlen : (ids.eraseIdx k).length ≤ 1000 := by rw [List.length_eraseIdx]; split <;> omega
  have hp1 := hp.mono e1
  refine W_has (l := [(2, .slice ap np cp), (8, .slice ai ni ci), (9, .int .i64 k), (10, .slice ar nr cr)]) ⟨rfl, rfl, rfl, hg, trivial⟩ fun ρ' hρ' => ?_
  rw [hρ'.eq]
  clear hρ' hg
  repeat (first | refine byW ?_ | (refine byV ?_; intro w hw))
  refine W_mix2 [.own (.slice ai ni ci) 3 1 (intRows ids), .blk b3 (hwC H a1 n1 c1 a2 n2 c2 a3 n3 c3 a4 n4 c4 a5 n5 c5)] S [[],[],[],[],[],[],[1],[],[1]] [[],[],[],[],[],[],[1],[],[1]] [[], [32, 7]] hw ?_
  repeat (first | refine mY ?_ | refine mP ?_ | refine mPg ?_)
  refine mCallG (c := 1) (F := fun _ => []) (fun g => [.own (g 32) 3 1 (intRows (subF L L.length 0 (ids.eraseIdx k)))]) (fun _ => [.slice ar nr cr, .slice ap np cp]) (fun g w Y hw => (Subset_any q1 hp1 hlen hLl hw).mono fun e w' hq => ?_) ?_ (hM := rfl)
  · obtain ⟨v, rfl, hw⟩ := hq
    exact ⟨v, rfl, hw⟩
  repeat (first | refine mY ?_ | refine mP ?_ | refine mPg ?_)
  refine mAssV (c := 1) (dx := 32) ?_
  refine mEnd fun w g hw => ?_
  have hw : Wd Γ1 (.own (.slice ai ni ci) 3 1 (intRows ids) :: .blk b3 (hwC H a1 n1 c1 a2 n2 c2 a3 n3 c3 a4 n4 c4 a5 n5 c5) :: (S ++ ([.own (g 7) 3 1 (intRows (subF L L.length 0 (ids.eraseIdx k)))] ++ []))) w := hw
  have hw : Wd Γ1 (.own (g 7) 3 1 (intRows (subF L L.length 0 (ids.eraseIdx k))) :: S) w := Wd.ds [1, 1] (hw.perm (S' := .own (g 7) 3 1 (intRows (subF L L.length 0 (ids.eraseIdx k))) :: .own (.slice ai ni ci) 3 1 (intRows ids) :: .blk b3 (hwC H a1 n1 c1 a2 n2 c2 a3 n3 c3 a4 n4 c4 a5 n5 c5) :: S) byPM)
  repeat (first | refine byW ?_ | (refine byV ?_; intro w hw))
  refine ⟨[_, _], ⟨rfl, rfl, trivial⟩, Γ1, x, _, _, e1, rfl, ⟨by rw [hids]; exact List.mem_of_getElem? hx, ?_⟩, subF_len _ _ _ _, hw⟩
  obtain ⟨rest, hr⟩ := subF_perm L L.length 0 (ids.eraseIdx k)
  rw [hids]
  exact ⟨rest, (hr.cons x).trans (cons_erase_perm hx)⟩
end Go.Proofs.YteiijmclobggjaaGreat
end
/- RouteFastest, walked. -/
section
open Go Mk
namespace Go.Proofs.YteiijmclobggjaaGreat
set_option maxHeartbeats 16000000
attribute [local irreducible] Calls
theorem valid_ids {H : HwT} (h : validS H = 0) : (H.Cores.map (·.ID)).Nodup := by
  obtain ⟨-, -, -, -, h5, -⟩ := valid_all h
  unfold uniqueB at h5
  simp only [Bool.and_eq_true, decide_eq_true_eq] at h5
  exact h5.2.1.1.1.1.1
theorem find_of_id {H : HwT} {x : Int} (h : x ∈ H.Cores.map (·.ID)) : (findC H.Cores x).2 = true := by
  obtain ⟨c, hc, he⟩ := List.mem_map.1 h
  rcases coreIx_cases H.Cores x with ⟨-, -, h3⟩ | ⟨k, y, -, -, -, h4⟩
  · exact absurd he (h3 c hc)
  · rw [h4]
theorem party_ok {H : HwT} {r : Int} {ms : List Int} (hv : validS H = 0) (p : Party H r ms) : PlanOk H r ms := by
  obtain ⟨rest, hp⟩ := p.sub
  have hn : (r :: (ms ++ rest)).Nodup := hp.nodup_iff.2 (valid_ids hv)
  rw [List.nodup_cons, List.nodup_append] at hn
  refine ⟨hv, find_of_id p.rt, fun a ha => find_of_id (hp.mem_iff.1 (by simp [ha])), fun h => hn.1 (by simp [h]), hn.2.1⟩
theorem plan_proj {H : HwT} {r : Int} {ms : List Int} {cost : Int} (p : PlanOk H r ms) (hc : 0 ≤ cost ∧ cost ≤ 1000000) : planErr H r ms cost = 0 ∧ planS H r ms cost = (r, planE H r ms cost) := by
  have h := p.err hc
  refine ⟨h, ?_⟩
  unfold planS
  rw [if_pos h]
end Go.Proofs.YteiijmclobggjaaGreat
end
/- RouteSpans, walked. -/
section
open Go Mk
namespace Go.Proofs.YteiijmclobggjaaGreat
set_option maxHeartbeats 16000000
attribute [local irreducible] Calls
theorem gen_wide {H : HwT} {nodes sh first irq : Int} (g : Gen H nodes sh first irq) : MemWide H := fun x hx => by
  obtain ⟨i, hi⟩ := List.getElem?_of_mem hx
  have h1 := (g.me i x hi).2.1
  have h2 := g.nm'
  have h3 := (List.getElem?_eq_some_iff.1 hi).1
  unfold u64I
  omega
/-! ### who enters a node -/
section
variable {H : HwT} {r : Int} {ms : List Int} {cost : Int}
theorem plan_known (p : PlanOk H r ms) {e : Pl} (he : e ∈ planE H r ms cost) : (findC H.Cores e.1).2 = true ∧ (findC H.Cores e.2).2 = true := by
  obtain ⟨-, h2, -, -⟩ := tree_facts (planE_tree (cost := cost) p)
  rw [Bool.and_eq_true] at h2
  have := List.all_eq_true.1 h2.2 e he
  unfold knownT at this
  rwa [Bool.and_eq_true] at this
end
end Go.Proofs.YteiijmclobggjaaGreat
end
/- RouteTimes, walked (printed by gen_h37.py). -/
section
open Go Mk
namespace Go.Proofs.YteiijmclobggjaaGreat
set_option maxHeartbeats 16000000
attribute [local irreducible] Calls
theorem arr_bound {far : Int → Int → Int} {cost : Int} (hc : 0 ≤ cost ∧ cost ≤ 1000000) : ∀ {es : List Pl} {st sn : Int → Int} {B C : Int}, (∀ e ∈ es, 0 ≤ far e.1 e.2 ∧ far e.1 e.2 ≤ 63000000) → (∀ x, 0 ≤ st x ∧ st x ≤ B) → (∀ x, 0 ≤ sn x ∧ sn x ≤ C) → C + (es.length : Int) ≤ 1000 → ∀ v ∈ arrF far cost st sn es, 0 ≤ v ∧ v ≤ B + (es.length : Int) * 2000000000
  | [], _, _, _, _, _, _, _, _, v, h => by simp [arrF] at h
  | e :: es, st, sn, B, C, hf, hst, hsn, hl, v, h => by
    rw [List.length_cons] at hl ⊢
    have h1 := hf e (by simp)
    have h2 := hst e.1
    have h3 := hsn e.1
    have hC : 0 ≤ C := Int.le_trans (hsn 0).1 (hsn 0).2
    have h4 : 0 ≤ (sn e.1 + 1) * cost ∧ (sn e.1 + 1) * cost ≤ 1001000000 := ⟨Int.mul_nonneg (by omega) hc.1, Int.le_trans (Int.mul_le_mul (b := cost) (d := 1000000) (show sn e.1 + 1 ≤ 1001 by omega) hc.2 hc.1 (by omega)) (by omega)⟩
    unfold arrF at h
    generalize hq : st e.1 + (sn e.1 + 1) * cost + far e.1 e.2 = t at h
    have ht : 0 ≤ t ∧ t ≤ B + 2000000000 := by omega
    rcases List.mem_cons.1 h with rfl | h
    · omega
    · have := arr_bound hc (B := B + 2000000000) (C := C + 1) (fun x hx => hf x (by simp [hx])) (fun x => by
        unfold updI
        by_cases e1 : e.2 = x
        · rw [if_pos e1]; exact ht
        · rw [if_neg e1]; have := hst x; omega) (fun x => by
        unfold updI
        by_cases e1 : e.1 = x
        · rw [if_pos e1]; omega
        · rw [if_neg e1]; have := hsn x; omega) (by omega) v h
      omega
theorem stL_snoc {l : List (Pl × Int)} {p : Pl × Int} {st : Int → Int} {x : Int} : stL (l ++ [p]) st x = if p.1.2 = x then p.2 else stL l st x := by
  unfold stL
  rw [List.foldl_append]; rfl
section
variable {far : Int → Int → Int} {cost : Int} {r : Int} {es : List Pl}
def stK (far : Int → Int → Int) (cost : Int) (es : List Pl) (k : Nat) (x : Int) : Int := stL ((es.zip (arr0 far cost es)).take k) (fun _ => 0) x
theorem stK_step {k : Nat} {e : Pl} {v : Int} (he : es[k]? = some e) (hv : (arr0 far cost es)[k]? = some v) (x : Int) : stK far cost es (k + 1) x = if e.2 = x then v else stK far cost es k x := by
  unfold stK
  have hz : (es.zip (arr0 far cost es))[k]? = some (e, v) := by rw [List.getElem?_zip_eq_some]; exact ⟨he, hv⟩
  rw [take_succ_of hz, stL_snoc]
theorem arr_st {i : Nat} {e : Pl} (he : es[i]? = some e) : (arr0 far cost es)[i]? = some (stK far cost es i e.1 + ((cntF es i e.1 : Int) + 1) * cost + far e.1 e.2) := by
  have h := arr_at (far := far) (cost := cost) (st := fun _ => 0) (sn := fun _ => 0) he
  rw [show (0 : Int) + (cntF es i e.1 : Int) = (cntF es i e.1 : Int) by omega] at h
  exact h
theorem times_same (hn : (r :: es.map (·.2)).Nodup) (hp : ProtoP r es) {i : Nat} {e z : Pl} {v vz : Int} (he : es[i + 1]? = some e) (hz : es[i]? = some z) (h1 : z.1 = e.1) (hv : (arr0 far cost es)[i + 1]? = some v) (hvz : (arr0 far cost es)[i]? = some vz) :
    v - far e.1 e.2 = vz - far e.1 z.2 + cost := by
  rw [arr_st he] at hv
  have h2 := arr_st (far := far) (cost := cost) hz
  rw [hvz] at h2
  have h3 := stK_step (far := far) (cost := cost) hz hvz e.1
  rw [if_neg (by rw [← h1]; exact self_edge hn hp hz)] at h3
  have h4 : cntF es (i + 1) e.1 = cntF es i e.1 + 1 := by
    unfold cntF
    rw [take_succ_of hz, List.countP_append]
    simp [h1]
  rw [h3, h4] at hv
  rw [h1] at h2
  have h5 : ((((cntF es i e.1 + 1 : Nat) : Int)) + 1) * cost = ((cntF es i e.1 : Int) + 1) * cost + cost := by
    rw [show (((cntF es i e.1 + 1 : Nat) : Int)) + 1 = ((cntF es i e.1 : Int) + 1) + 1 by omega, Int.add_mul, Int.one_mul]
  rw [h5] at hv
  cases hv
  have h2 := Option.some.inj h2
  omega
theorem times_new (hp : ProtoP r es) {i : Nat} {e : Pl} {v : Int} (he : es[i]? = some e) (h1 : ∀ z, 0 < i → es[i - 1]? = some z → z.1 ≠ e.1) (hv : (arr0 far cost es)[i]? = some v) : v - far e.1 e.2 = stK far cost es i e.1 + cost := by
  rw [arr_st he] at hv
  have h0 : cntF es i e.1 = 0 := by
    unfold cntF
    rw [List.countP_eq_zero]
    intro x hx hxe
    obtain ⟨j, hj⟩ := List.getElem?_of_mem hx
    rw [List.getElem?_take] at hj
    split at hj
    · rename_i hji
      have hil := (List.getElem?_eq_some_iff.1 he).1
      obtain ⟨z, hz⟩ := get_lt (l := es) (k := i - 1) (by omega)
      have hxe : x.1 = e.1 := by simpa using hxe
      have := proto_together hp j (i - 1) i x e (by omega) (by omega) hj he hxe z hz
      exact h1 z (by omega) hz (this.trans hxe)
    · cases hj
  rw [h0] at hv
  cases hv
  omega
end
theorem far_dist {H : HwT} (hv : validS H = 0) {x y : Int} (hx : (findC H.Cores x).2 = true) (hy : (findC H.Cores y).2 = true) : distS H (coreN H x) (coreN H y) = (farI H x y, 0) :=
  core_dist hv (findC_mem hx).1 (findC_mem hy).1
set_option maxRecDepth 4000 in
theorem RouteTimes_any {Γ : Gho} {S : List Res} {w : World} {a ap : Option Addr} {m c np cp : Nat} {L Lp : List Int} {root cost : Int} (hr : RepS Γ (.slice a m c) 1 (intRows L)) (hp : RepS Γ (.slice ap np cp) 1 (intRows Lp)) (hw : Wd Γ S w) :
    Calls Tryz.prog 7 #[.slice a m c, .int .i64 root, .slice ap np cp, .int .i64 cost] w fun e w' => ∃ Γ', Γ.le Γ' ∧ e = .returned (.bool true) ∧ Wd Γ' S w' := by
  obtain ⟨hnp, hncp, hccp⟩ := rep_facts hp
  simp only [intRows, List.length_map] at hnp
  refine calls_of_W Tryz.func7 rfl rfl ?_
  repeat (first | refine byW ?_ | (refine byV ?_; intro w hw))
  refine W_cond rfl (fun h => ?_) (fun h => ?_)
  · repeat (first | refine byW ?_ | (refine byV ?_; intro w hw))
    exact ⟨_, rfl, Γ, .refl _, rfl, hw⟩
  have h : (decide ((m : Int) > 200) || decide ((np : Int) > 40)) = false := h
  have hnp40 : np ≤ 40 := by simp at h; omega
  clear h
  repeat (first | refine byW ?_ | (refine byV ?_; intro w hw))
  refine lCall ((Hardware_any hr hw).mono fun r w hq => ?_)
  clear hw
  obtain ⟨Γ1, H, u, nodes, sh, first, irq, hle1, rfl, hG, ho⟩ := hq
  refine ⟨_, rfl, ?_⟩
  have hv := gen_valid hG
  haveI hwd : WideH H := ⟨gen_wide hG⟩
  obtain ⟨Γ2, hle2, hR, hw⟩ := ho.freeze (gen_sz hG)
  have hnc := hG.nc
  have hp2 := (hp.mono hle1).mono hle2
  clear ho hr hG
  obtain ⟨a1, n1, c1, a2, n2, c2, a3, n3, c3, a4, n4, c4, a5, n5, c5, cs, rfl, hcs, hok, hsz, r1, r2, r3, r4, r5⟩ := hR.h
  repeat (first | refine byW ?_ | (refine byV ?_; intro w hw))
  refine lAlloc ?_
  intro b9 w hw
  refine lStore ?_
  intro w hw
  have hw : Wd Γ2 (.blk b9 (hwC H a1 n1 c1 a2 n2 c2 a3 n3 c3 a4 n4 c4 a5 n5 c5) :: S) w := hw
  repeat (first | refine byW ?_ | (refine byV ?_; intro w hw))
  refine lCall ((parties_any (hh := hR) (by omega) hp2 (by omega) hw).mono fun e w hq => ?_)
  clear hw
  obtain ⟨Γ3, r, ms, vm, hle3, rfl, hP, hml, hw⟩ := hq
  refine ⟨_, rfl, ?_⟩
  obtain ⟨am, nm, cm, rfl, hnm, hnmc, hcm⟩ := hw.own_shape (i := 0) rfl
  simp only [intRows, List.length_map] at hnm
  obtain ⟨Γ4, hle4, q1, hw⟩ := hw.freeze
  have pk := party_ok hv hP
  have hR4 := (hR.mono hle3).mono hle4
  haveI s1 : SlC Γ4 (.slice am nm cm) 1 (intRows ms) := ⟨q1⟩
  haveI s2 : ShortL ms := ⟨by omega⟩
  haveI : PosL 30 := ⟨by decide⟩
  obtain ⟨wc, hwc, hw0, hw30⟩ : ∃ wc : Int, cost % 30 = wc ∧ 0 ≤ wc ∧ wc < 30 := ⟨cost % 30, rfl, by omega, by omega⟩
  haveI p30 : PC Tryz.prog 23 [.int .i64 cost, .int .i64 30] (.int .i64 wc) := by rw [← hwc]; infer_instance
  obtain ⟨hpe, hps⟩ := plan_proj (cost := wc) pk (by omega)
  have hel := planE_len (cost := wc) pk
  have ht : treeErr H r (planE H r ms wc) = 0 := planE_tree pk
  obtain ⟨-, -, hnd, hpr⟩ := tree_facts ht
  have hknown : ∀ e ∈ planE H r ms wc, (findC H.Cores e.1).2 = true ∧ (findC H.Cores e.2).2 = true := fun e he => plan_known pk he
  repeat (first | refine byW ?_ | (refine byV ?_; intro w hw))
  refine lCall ((plan_any (hhw := hR4) (hr := s1) r wc hw).mono fun e w hq => ?_)
  clear hw
  obtain ⟨ve, rfl, hw⟩ := hq
  rw [hps, hpe]
  rw [hps] at hw
  refine ⟨_, rfl, ?_⟩
  clear hps hpe
  have hBW := hw
  clear hw
  generalize planE H r ms wc = es at *
  obtain ⟨ae, ne, ce, rfl, hne, hnec, hce⟩ := hBW.own_shape (i := 0) rfl
  simp only [List.length_map] at hne
  obtain ⟨Γ5, hle5, q2, hw⟩ := hBW.freeze
  clear hBW
  haveI hR5 := hR4.mono hle5
  haveI s3 : SlC Γ5 (.slice ae ne ce) 2 (es.map plV) := ⟨q2⟩
  haveI s4 : ShortL es := ⟨by omega⟩
  have hcr : 0 ≤ wc ∧ wc ≤ 1000000 := by omega
  repeat (first | refine byW ?_ | (refine byV ?_; intro w hw))
  refine lAlloc ?_
  intro b13 w hw
  refine lStore ?_
  intro w hw
  have hw : Wd Γ5 (.blk b13 (.cells #[.int .i64 r, .slice ae ne ce] 32) :: .blk b9 (hwC H a1 n1 c1 a2 n2 c2 a3 n3 c3 a4 n4 c4 a5 n5 c5) :: S) w := hw
  have hle : Γ.le Γ5 := hle1.trans (hle2.trans (hle3.trans (hle4.trans hle5)))
  repeat (first | refine byW ?_ | (refine byV ?_; intro w hw))
  refine lCall ((arrivals_any (hh := hR5) (hr := s3) r wc hw).mono fun e w hq => ?_)
  clear hw
  obtain ⟨va, rfl, hw⟩ := hq
  rw [arrS_ok ht hcr] at *
  have hw : Wd Γ5 (.own va 3 1 (intRows (arr0 (farI H) wc es)) :: .blk b13 (.cells #[.int .i64 r, .slice ae ne ce] 32) :: .blk b9 (hwC H a1 n1 c1 a2 n2 c2 a3 n3 c3 a4 n4 c4 a5 n5 c5) :: S) w := hw
  refine ⟨_, rfl, ?_⟩
  obtain ⟨aa, na, ca, rfl, hna, hnac, hca⟩ := hw.own_shape (i := 0) rfl
  simp only [intRows, List.length_map, arr0_len] at hna
  obtain ⟨Γ6, hle6, q3, hw⟩ := hw.freeze
  haveI hR6 := hR5.mono hle6
  haveI s5 : SlC Γ6 (.slice ae ne ce) 2 (es.map plV) := ⟨q2.mono hle6⟩
  have q2' := q2.mono hle6
  have hAl : (arr0 (farI H) wc es).length = ne := by rw [arr0_len]; omega
  have hAb : ∀ v ∈ arr0 (farI H) wc es, 0 ≤ v ∧ v ≤ 0 + (es.length : Int) * 2000000000 := arr_bound hcr (C := 0) (fun e he => far_le hv (hknown e he).1 (hknown e he).2) (fun x => ⟨by omega, by omega⟩) (fun x => ⟨by omega, by omega⟩) (by omega)
  have hsame : ∀ {i : Nat} {e z : Pl} {v vz : Int}, es[i + 1]? = some e → es[i]? = some z → z.1 = e.1 → (arr0 (farI H) wc es)[i + 1]? = some v → (arr0 (farI H) wc es)[i]? = some vz → v - farI H e.1 e.2 = vz - farI H e.1 z.2 + wc := fun he hz h1 hv hvz => times_same hnd hpr he hz h1 hv hvz
  have hnew : ∀ {i : Nat} {e : Pl} {v : Int}, es[i]? = some e → (∀ z, 0 < i → es[i - 1]? = some z → z.1 ≠ e.1) → (arr0 (farI H) wc es)[i]? = some v → v - farI H e.1 e.2 = stK (farI H) wc es i e.1 + wc := fun he h1 hv => times_new hpr he h1 hv
  have hstk : ∀ {k : Nat} {e : Pl} {v : Int}, es[k]? = some e → (arr0 (farI H) wc es)[k]? = some v → ∀ x, stK (farI H) wc es (k + 1) x = if e.2 = x then v else stK (farI H) wc es k x := fun he hv x => stK_step he hv x
  have hst0 : ∀ x, stK (farI H) wc es 0 x = 0 := fun x => rfl
  haveI p5 : PG Tryz.prog Γ6 15 [.agg #[.string H.Name, .slice a1 n1 c1, .slice a2 n2 c2, .slice a3 n3 c3, .slice a4 n4 c4, .slice a5 n5 c5], .agg #[.int .i64 r, .slice ae ne ce], .int .i64 wc] (.tuple #[.int .i64 ((arr0 (farI H) wc es).foldl max 0), .int .i64 0]) := by
    have := pg_Completion (hh := hR6) (hr := s5) (hsh := s4) r wc
    rwa [compS_ok ht hcr, arrS_ok ht hcr] at this
  haveI p6 : PG Tryz.prog Γ6 20 [.agg #[.string H.Name, .slice a1 n1 c1, .slice a2 n2 c2, .slice a3 n3 c3, .slice a4 n4 c4, .slice a5 n5 c5], .agg #[.int .i64 r, .slice ae ne ce]] (.int .i64 0) := by
    have := pg_RValid (hh := hR6) (hr := s5) (hsh := s4) r
    rwa [ht] at this
  have hBW := hw
  clear hw
  generalize arr0 (farI H) wc es = A at *
  generalize stK (farI H) wc es = sk at *
  have hw := hBW
  clear hBW
  obtain ⟨n0, hn0⟩ : ∃ n0, n0 = A.foldl max 0 := ⟨_, rfl⟩
  rw [← hn0] at p5
  have hb2 : decide (((na : Nat) : Int) ≠ ((ne : Nat) : Int)) = false := decide_eq_false (by simp; omega)
  refine L_has (l := [(9, .pointer (some ⟨b9, 0, none⟩)), (10, .int .i64 r), (12, .int .i64 wc), (13, .pointer (some ⟨b13, 0, none⟩)), (14, .int .i64 0), (61, .tuple #[.slice aa na ca, .int .i64 0])]) ⟨rfl, rfl, rfl, rfl, rfl, rfl, trivial⟩ fun ρ' hρ' => ?_
  rw [hρ'.eq]
  clear hρ'
  repeat (first | (first | refine W_seq ?_ | refine W_block ?_ | refine W_region ?_ | refine W_skip ?_ | refine W_ret ?_ | refine W_exit ?_) | ((first | apply L_bin | apply L_notop); first | (refine lT ?_ ?_; (first | exact rfl | exact decide_eq_true rfl | exact hb1 | exact hb2 | exact hb3 | exact hb4 | (focus (simp; done)))) | (refine lF ?_ ?_; (first | exact rfl | exact decide_eq_true rfl | exact hb1 | exact hb2 | exact hb3 | exact hb4 | (focus (simp; done))))) | (first | refine L_nil ?_ | (apply L_plain; first | (apply L_go; first | refine lP ?_ | (refine lPg ?_; intro w hw)) | (apply L_mf; refine lMakeFunc ?_) | refine lY ?_) | (apply L_guarded; first | refine lGT ?_ (hct := rfl) | refine lGF ?_ (hct := rfl) | (apply L_go; first | refine lPG ?_ | (refine lPgG ?_; intro w hw)) | refine lG ?_)) | (refine lAlloc ?_; intro _ w hw) | (refine lBox ?_; intro _ w hw) | (refine lStore ?_; intro w hw))
  refine W_cond_false rfl ?_
  repeat (first | refine byW ?_ | (refine byV ?_; intro w hw))
  clear hb2
  have hBW := hw
  clear hw
  refine W_loop (fun μ ρ w => ∃ i : Nat, μ + i = ne ∧ Has ρ [(9, .pointer (some ⟨b9, 0, none⟩)), (12, .int .i64 wc), (13, .pointer (some ⟨b13, 0, none⟩)), (15, .slice aa na ca), (17, .int .i64 n0), (19, .int .i64 ((A.take i).foldl max 0)), (20, .int .i64 i)] ∧ Wd Γ6 (.blk b13 (.cells #[.int .i64 r, .slice ae ne ce] 32) :: .blk b9 (hwC H a1 n1 c1 a2 n2 c2 a3 n3 c3 a4 n4 c4 a5 n5 c5) :: S) w) ne ⟨0, by omega, ⟨rfl, rfl, rfl, rfl, rfl, rfl, rfl, trivial⟩, hBW⟩ ?_
  clear hBW
  rintro μ ρ w ⟨i, hi, hρ, hw⟩
  rw [hρ.eq]
  clear hρ
  repeat (first | refine byW ?_ | (refine byV ?_; intro w hw))
  refine W_cond rfl (fun h => ?_) (fun h => ?_)
  · have hin : i < ne := by have := of_decide_eq_true h; omega
    clear h
    obtain ⟨e, he⟩ := get_lt (l := es) (k := i) (by omega)
    obtain ⟨v, hv1⟩ := get_lt (l := A) (k := i) (by omega)
    have hvb := hAb v (List.mem_of_getElem? hv1)
    obtain ⟨kf, kt⟩ := hknown e (List.mem_of_getElem? he)
    haveI pf := pg_NodeOf (hh := hR6) (x := e.1) kf
    haveI pt := pg_NodeOf (hh := hR6) (x := e.2) kt
    have hfb := far_le hv kf kt
    have hmx : (A.take (i + 1)).foldl max 0 = max ((A.take i).foldl max 0) v := by rw [take_succ_of hv1, List.foldl_append]; rfl
    haveI pd : PG Tryz.prog Γ6 24 [.agg #[.string H.Name, .slice a1 n1 c1, .slice a2 n2 c2, .slice a3 n3 c3, .slice a4 n4 c4, .slice a5 n5 c5], .int .i64 (coreN H e.1), .int .i64 (coreN H e.2)] (.tuple #[.int .i64 (farI H e.1 e.2), .int .i64 0]) := by
      have := pg_Distance (hh := hR6) (coreN H e.1) (coreN H e.2)
      rwa [far_dist hv kf kt] at this
    obtain ⟨z, hz⟩ := get_lt (l := es) (k := ((i : Int) - 1).toNat) (by omega)
    repeat (first | refine byW ?_ | (refine byV ?_; intro w hw))
    refine lAlloc ?_
    intro b21 w hw
    refine lStore ?_
    intro w hw
    have hw : Wd Γ6 (.blk b21 (.cells (plV e).toArray 60) :: .blk b13 (.cells #[.int .i64 r, .slice ae ne ce] 32) :: .blk b9 (hwC H a1 n1 c1 a2 n2 c2 a3 n3 c3 a4 n4 c4 a5 n5 c5) :: S) w := hw
    repeat (first | refine byW ?_ | (refine byV ?_; intro w hw))
    refine W_quiet (by kernel_rfl) (by kernel_rfl) hw ?_
    repeat (first | refine Q_nil ?_ | (apply Q_plain; first | (apply Q_go; first | refine qP ?_ | refine qPg ?_) | refine qY ?_) | (apply Q_guarded; first | (apply Q_go; first | refine qPG ?_ | refine qPgG ?_) | refine qG ?_))
    intro w hw
    repeat (first | refine byW ?_ | (refine byV ?_; intro w hw))
    refine W_quiet (by kernel_rfl) (by kernel_rfl) hw ?_
    repeat (first | refine Q_nil ?_ | (apply Q_plain; first | (apply Q_go; first | refine qP ?_ | refine qPg ?_) | refine qY ?_) | (apply Q_guarded; first | (apply Q_go; first | refine qPG ?_ | refine qPgG ?_) | refine qG ?_))
    intro w hw
    refine W_cond rfl (fun h => ?_) (fun h => ?_)
    · have h : (decide ((i : Int) > 0) && decide (z.1 = e.1)) = true := h
      simp only [Bool.and_eq_true, decide_eq_true_eq] at h
      obtain ⟨hi0, hze⟩ := h
      obtain ⟨j, rfl⟩ : ∃ j, i = j + 1 := ⟨i - 1, by omega⟩
      have hj : (((j + 1 : Nat) : Int) - 1).toNat = j := by omega
      have hzj : es[j]? = some z := by rw [← hj]; exact hz
      obtain ⟨vz, hvz⟩ := get_lt (l := A) (k := j) (by omega)
      have hvz' : A[(((j + 1 : Nat) : Int) - 1).toNat]? = some vz := by rw [hj]; exact hvz
      have hvzb := hAb vz (List.mem_of_getElem? hvz)
      obtain ⟨-, kz⟩ := hknown z (List.mem_of_getElem? hzj)
      haveI pz := pg_NodeOf (hh := hR6) (x := z.2) kz
      have hfz := far_le hv kf kz
      haveI pd2 : PG Tryz.prog Γ6 24 [.agg #[.string H.Name, .slice a1 n1 c1, .slice a2 n2 c2, .slice a3 n3 c3, .slice a4 n4 c4, .slice a5 n5 c5], .int .i64 (coreN H e.1), .int .i64 (coreN H z.2)] (.tuple #[.int .i64 (farI H e.1 z.2), .int .i64 0]) := by
        have := pg_Distance (hh := hR6) (coreN H e.1) (coreN H z.2)
        rwa [far_dist hv kf kz] at this
      have hs := hsame he hzj hze hv1 hvz
      repeat (first | refine byW ?_ | (refine byV ?_; intro w hw))
      refine W_quiet (by kernel_rfl) (by kernel_rfl) hw ?_
      repeat (first | refine Q_nil ?_ | (apply Q_plain; first | (apply Q_go; first | refine qP ?_ | refine qPg ?_) | refine qY ?_) | (apply Q_guarded; first | (apply Q_go; first | refine qPG ?_ | refine qPgG ?_) | refine qG ?_))
      intro w hw
      have hb1 : decide (v - farI H e.1 e.2 ≠ vz - farI H e.1 z.2 + wc) = false := decide_eq_false (by omega)
      repeat (first | (first | refine W_seq ?_ | refine W_block ?_ | refine W_region ?_ | refine W_skip ?_ | refine W_ret ?_ | refine W_exit ?_) | ((first | apply L_bin | apply L_notop); first | (refine lT ?_ ?_; (first | exact rfl | exact decide_eq_true rfl | exact hb1 | exact hb2 | exact hb3 | exact hb4 | (focus (simp; done)))) | (refine lF ?_ ?_; (first | exact rfl | exact decide_eq_true rfl | exact hb1 | exact hb2 | exact hb3 | exact hb4 | (focus (simp; done))))) | (first | refine L_nil ?_ | (apply L_plain; first | (apply L_go; first | refine lP ?_ | (refine lPg ?_; intro w hw)) | (apply L_mf; refine lMakeFunc ?_) | refine lY ?_) | (apply L_guarded; first | refine lGT ?_ (hct := rfl) | refine lGF ?_ (hct := rfl) | (apply L_go; first | refine lPG ?_ | (refine lPgG ?_; intro w hw)) | refine lG ?_)) | (refine lAlloc ?_; intro _ w hw) | (refine lBox ?_; intro _ w hw) | (refine lStore ?_; intro w hw))
      refine W_cond_false rfl ?_
      repeat (first | refine byW ?_ | (refine byV ?_; intro w hw))
      exact ⟨μ - 1, by omega, j + 1 + 1, by omega, ⟨rfl, rfl, rfl, rfl, rfl, congrArg (Value.int .i64) (by rw [hmx, max_if]), rfl, trivial⟩, hw.drop⟩
    · have h : (decide ((i : Int) > 0) && decide (z.1 = e.1)) = false := h
      have hs := hnew he (fun z' h0 hz' => by
        have e1 : ((i : Int) - 1).toNat = i - 1 := by omega
        rw [e1, hz'] at hz
        cases hz
        intro e2
        rw [decide_eq_true (show (i : Int) > 0 by omega), decide_eq_true e2] at h; cases h) hv1
      clear h
      repeat (first | refine byW ?_ | (refine byV ?_; intro w hw))
      have hBW := hw
      clear hw
      refine W_loop (fun μ2 ρ w => ∃ k : Nat, μ2 + k = i ∧ 0 ≤ sk k e.1 ∧ sk k e.1 ≤ 80000000000 ∧ Has ρ [(9, .pointer (some ⟨b9, 0, none⟩)), (12, .int .i64 wc), (13, .pointer (some ⟨b13, 0, none⟩)), (15, .slice aa na ca), (17, .int .i64 n0), (19, .int .i64 ((A.take i).foldl max 0)), (20, .int .i64 i), (21, .pointer (some ⟨b21, 0, none⟩)), (24, .int .i64 (v - farI H e.1 e.2)), (27, .int .i64 (sk k e.1)), (28, .int .i64 k)] ∧ Wd Γ6 (.blk b21 (.cells (plV e).toArray 60) :: .blk b13 (.cells #[.int .i64 r, .slice ae ne ce] 32) :: .blk b9 (hwC H a1 n1 c1 a2 n2 c2 a3 n3 c3 a4 n4 c4 a5 n5 c5) :: S) w) i ⟨0, by omega, by rw [hst0]; omega, by rw [hst0]; omega, ⟨rfl, rfl, rfl, rfl, rfl, rfl, rfl, rfl, rfl, congrArg (Value.int .i64) (hst0 e.1).symm, rfl, trivial⟩, hBW⟩ ?_
      clear hBW
      rintro μ2 ρ w ⟨k, hk, hk0, hk1, hρ, hw⟩
      rw [hρ.eq]
      clear hρ
      repeat (first | refine byW ?_ | (refine byV ?_; intro w hw))
      refine W_cond rfl (fun h => ?_) (fun h => ?_)
      · have hki : k < i := by have := of_decide_eq_true h; omega
        clear h
        obtain ⟨y, hy⟩ := get_lt (l := es) (k := k) (by omega)
        obtain ⟨vy, hvy⟩ := get_lt (l := A) (k := k) (by omega)
        have hvyb := hAb vy (List.mem_of_getElem? hvy)
        have hstep := hstk hy hvy e.1
        repeat (first | refine byW ?_ | (refine byV ?_; intro w hw))
        refine W_quiet (by kernel_rfl) (by kernel_rfl) hw ?_
        repeat (first | refine Q_nil ?_ | (apply Q_plain; first | (apply Q_go; first | refine qP ?_ | refine qPg ?_) | refine qY ?_) | (apply Q_guarded; first | (apply Q_go; first | refine qPG ?_ | refine qPgG ?_) | refine qG ?_))
        intro w hw
        refine W_cond rfl (fun h => ?_) (fun h => ?_)
        · have h : y.2 = e.1 := of_decide_eq_true h
          rw [if_pos h] at hstep
          repeat (first | refine byW ?_ | (refine byV ?_; intro w hw))
          exact ⟨μ2 - 1, by omega, k + 1, by omega, by omega, by omega, ⟨rfl, rfl, rfl, rfl, rfl, rfl, rfl, rfl, rfl, congrArg (Value.int .i64) hstep.symm, rfl, trivial⟩, hw⟩
        · have h : ¬ y.2 = e.1 := of_decide_eq_false h
          rw [if_neg h] at hstep
          repeat (first | refine byW ?_ | (refine byV ?_; intro w hw))
          exact ⟨μ2 - 1, by omega, k + 1, by omega, by omega, by omega, ⟨rfl, rfl, rfl, rfl, rfl, rfl, rfl, rfl, rfl, congrArg (Value.int .i64) hstep.symm, rfl, trivial⟩, hw⟩
      · have hki : ¬ k < i := by have := of_decide_eq_false h; omega
        have hki : k = i := by omega
        subst hki
        have hb1 : decide (v - farI H e.1 e.2 ≠ sk k e.1 + wc) = false := decide_eq_false (by omega)
        repeat (first | (first | refine W_seq ?_ | refine W_block ?_ | refine W_region ?_ | refine W_skip ?_ | refine W_ret ?_ | refine W_exit ?_) | ((first | apply L_bin | apply L_notop); first | (refine lT ?_ ?_; (first | exact rfl | exact decide_eq_true rfl | exact hb1 | exact hb2 | exact hb3 | exact hb4 | (focus (simp; done)))) | (refine lF ?_ ?_; (first | exact rfl | exact decide_eq_true rfl | exact hb1 | exact hb2 | exact hb3 | exact hb4 | (focus (simp; done))))) | (first | refine L_nil ?_ | (apply L_plain; first | (apply L_go; first | refine lP ?_ | (refine lPg ?_; intro w hw)) | (apply L_mf; refine lMakeFunc ?_) | refine lY ?_) | (apply L_guarded; first | refine lGT ?_ (hct := rfl) | refine lGF ?_ (hct := rfl) | (apply L_go; first | refine lPG ?_ | (refine lPgG ?_; intro w hw)) | refine lG ?_)) | (refine lAlloc ?_; intro _ w hw) | (refine lBox ?_; intro _ w hw) | (refine lStore ?_; intro w hw))
        refine W_cond_false rfl ?_
        repeat (first | refine byW ?_ | (refine byV ?_; intro w hw))
        exact ⟨μ - 1, by omega, k + 1, by omega, ⟨rfl, rfl, rfl, rfl, rfl, congrArg (Value.int .i64) (by rw [hmx, max_if]), rfl, trivial⟩, hw.drop⟩
  · have hin : ¬ i < ne := by have := of_decide_eq_false h; omega
    rw [List.take_of_length_le (by omega), ← hn0]
    repeat (first | (first | refine W_seq ?_ | refine W_block ?_ | refine W_region ?_ | refine W_skip ?_ | refine W_ret ?_ | refine W_exit ?_) | ((first | apply L_bin | apply L_notop); first | (refine lT ?_ ?_; (first | exact rfl | exact decide_eq_true rfl | exact hb1 | exact hb2 | exact hb3 | exact hb4 | (focus (simp; done)))) | (refine lF ?_ ?_; (first | exact rfl | exact decide_eq_true rfl | exact hb1 | exact hb2 | exact hb3 | exact hb4 | (focus (simp; done))))) | (first | refine L_nil ?_ | (apply L_plain; first | (apply L_go; first | refine lP ?_ | (refine lPg ?_; intro w hw)) | (apply L_mf; refine lMakeFunc ?_) | refine lY ?_) | (apply L_guarded; first | refine lGT ?_ (hct := rfl) | refine lGF ?_ (hct := rfl) | (apply L_go; first | refine lPG ?_ | (refine lPgG ?_; intro w hw)) | refine lG ?_)) | (refine lAlloc ?_; intro _ w hw) | (refine lBox ?_; intro _ w hw) | (refine lStore ?_; intro w hw))
    exact ⟨_, rfl, Γ6, hle.trans hle6, rfl, hw.ds [0, 0]⟩
end Go.Proofs.YteiijmclobggjaaGreat
end
