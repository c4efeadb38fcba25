/- Texts of this proof, one behind another. -/
import Derived.Test.YteiijmclobggjaaM6
import Derived.Test.YteiijmclobggjaaM5
set_option linter.unusedVariables false
set_option linter.unusedSimpArgs false
/- The kit's Subset and the parties of a tree, walked. -/
section
open Go Mk
namespace Go.Proofs.Yteiijmclobggjaa
set_option maxHeartbeats 16000000
attribute [local irreducible] Calls

/-- What Subset picks. -/
def subF (L : List Int) : Nat → Nat → List Int → List Int
  | 0, _, _ => []
  | f + 1, k, rest => if rest = [] then [] else rest.getD (nx L k rest.length).toNat 0 :: subF L f (k + 1) (rest.eraseIdx (nx L k rest.length).toNat)
theorem nx_nat (L : List Int) (k : Nat) {n : Nat} (h : 1 ≤ n) : ∃ i : Nat, nx L k n = i ∧ i < n := by
  have := nx_range (L := L) (k := k) (n := (n : Int)) (by omega)
  exact ⟨(nx L k n).toNat, by omega, by omega⟩
theorem cons_erase_perm : ∀ {l : List Int} {k : Nat} {x : Int}, l[k]? = some x → (x :: l.eraseIdx k).Perm l
  | [], _, _, h => by simp at h
  | a :: l, 0, x, h => by simp at h; subst h; exact .refl _
  | a :: l, k + 1, x, h => (List.Perm.swap a x _).trans ((cons_erase_perm (l := l) (k := k) (by simpa using h)).cons a)
theorem subF_perm (L : List Int) : ∀ (f k : Nat) (l : List Int), ∃ rest, (subF L f k l ++ rest).Perm l
  | 0, _, l => ⟨l, by simp [subF]⟩
  | f + 1, k, l => by
    unfold subF
    by_cases h : l = []
    · rw [if_pos h]; exact ⟨l, by simp⟩
    · rw [if_neg h]
      obtain ⟨i, hi, hil⟩ := nx_nat L k (n := l.length) (by have := List.length_pos_iff.2 h; omega)
      rw [hi]
      obtain ⟨rest, hr⟩ := subF_perm L f (k + 1) (l.eraseIdx i)
      refine ⟨rest, ?_⟩
      rw [show ((i : Int)).toNat = i from rfl, List.cons_append]
      obtain ⟨x, hx⟩ := get_lt hil
      rw [List.getD_eq_getElem?_getD, hx]
      exact (hr.cons x).trans (cons_erase_perm hx)
theorem subF_len (L : List Int) : ∀ (f k : Nat) (l : List Int), (subF L f k l).length ≤ f
  | 0, _, l => by simp [subF]
  | f + 1, k, l => by
    unfold subF
    split
    · simp
    · rw [List.length_cons]
      have := subF_len L f (k + 1) (l.eraseIdx (nx L k l.length).toNat)
      omega
theorem erase_ints (xs : List Int) (k : Nat) : (intRows xs).take k ++ (intRows xs).drop (k + 1) = intRows (xs.eraseIdx k) := by
  unfold intRows
  rw [← List.map_take, ← List.map_drop, ← List.map_append, List.eraseIdx_eq_take_drop_succ]
theorem take_ints (xs : List Int) (k : Nat) : ∀ u ∈ ((intRows xs).take k).flatten, u.oneCell' = true := by
  unfold intRows; rw [← List.map_take]; exact List.all_eq_true.1 (ints1 _)
theorem drop_ints (xs : List Int) (k : Nat) : ∀ u ∈ ((intRows xs).drop k).flatten, u.oneCell' = true := by
  unfold intRows; rw [← List.map_drop]; exact List.all_eq_true.1 (ints1 _)

theorem Subset_any {Γ : Gho} {S : List Res} {w : World} {al ap : Option Addr} {nl cl np cp : Nat} {l L : List Int} (hl : RepS Γ (.slice al nl cl) 1 (intRows l)) (hp : RepS Γ (.slice ap np cp) 1 (intRows L)) (hll : l.length ≤ 1000) (hLl : L.length ≤ 1000) (hw : Wd Γ S w) :
    Calls Try.prog 20 #[.slice al nl cl, .slice ap np cp] w fun e w' => ∃ v, e = .returned v ∧ Wd Γ (.own v 3 1 (intRows (subF L L.length 0 l)) :: S) w' := by
  obtain ⟨hnl, hncl, hccl⟩ := rep_facts hl
  obtain ⟨hnp, hncp, hccp⟩ := rep_facts hp
  simp only [intRows, List.length_map] at hnl hnp
  refine calls_of_WC Try.func20 rfl rfl ?_
  repeat (first | refine byW ?_ | (refine byV ?_; intro w hw))
  refine lBox ?_
  intro bs w hw
  have hw : Wd Γ (drwB bs ap np cp 0 :: S) w := hw
  repeat (first | refine byW ?_ | (refine byV ?_; intro w hw))
  have hw := Wd.addNil (a := none) (E := 3) (sz := 1) hw
  refine lApp (i := 0) (rows2 := intRows l) ?_ (hl.rd hw) rfl rfl hw rfl (ints1 _) (by simp [intRows, hnl])
  intro vr w hw
  have hw := Wd.addNil (a := none) (E := 3) (sz := 1) hw
  have hw : Wd Γ (.own vr 3 1 (intRows l) :: .own (.slice none 0 0) 3 1 (intRows []) :: drwB bs ap np cp 0 :: S) w := hw.ps [1]
  repeat (first | refine byW ?_ | (refine byV ?_; intro w hw))
  refine W_loop (fun μ ρ w => ∃ (k : Nat) (out rest : List Int) (vr vo : Value), μ + k = np ∧ out.length = k ∧ rest.length ≤ 1000 ∧ out ++ subF L μ k rest = subF L L.length 0 l ∧ Has ρ [(1, .slice ap np cp), (5, .pointer (some ⟨bs, 0, none⟩)), (6, vr), (7, vo)] ∧ Wd Γ (.own vr 3 1 (intRows rest) :: .own vo 3 1 (intRows out) :: drwB bs ap np cp k :: S) w) np ⟨0, [], l, vr, _, by omega, rfl, hll, by rw [hnp]; rfl, ⟨rfl, rfl, rfl, rfl, trivial⟩, hw⟩ ?_
  clear hw
  rintro μ ρ w ⟨k, out, rest, vr, vo, hk, hok, hrl, hF, hρ, hw⟩
  rw [hρ.eq]
  clear hρ
  obtain ⟨ar, nr, cr, rfl, hnr, hncr, hccr⟩ := hw.own_shape (i := 0) rfl
  obtain ⟨ao, no, co, rfl, hno, hnco, hcco⟩ := hw.own_shape (i := 1) rfl
  simp only [intRows, List.length_map] at hnr hno
  repeat (first | refine byW ?_ | (refine byV ?_; intro w hw))
  refine W_cond rfl (fun h => ?_) (fun h => ?_)
  · have h : (decide ((nr : Int) > 0) && decide ((no : Int) < (np : Int))) = true := h
    simp only [Bool.and_eq_true, decide_eq_true_eq] at h
    obtain ⟨h1, h2⟩ := h
    obtain ⟨μ', rfl⟩ : ∃ μ', μ = μ' + 1 := ⟨μ - 1, by omega⟩
    obtain ⟨i, hi, hin⟩ := nx_nat L k (n := nr) (by omega)
    obtain ⟨x, hx⟩ := get_lt (l := rest) (k := i) (by omega)
    repeat (first | refine byW ?_ | (refine byV ?_; intro w hw))
    refine lCall ((Next_any (n := (nr : Int)) (by omega) (by omega) hp (hw.ps [2])).mono fun e w hq => ?_)
    clear hw
    obtain ⟨rfl, hw⟩ := hq
    rw [hi]
    refine ⟨_, rfl, ?_⟩
    have hw : Wd Γ (.own (.slice ar nr cr) 3 1 (intRows rest) :: .own (.slice ao no co) 3 1 (intRows out) :: drwB bs ap np cp (k + 1) :: S) w := hw.ps [2, 2]
    repeat (first | refine byW ?_ | (refine byV ?_; intro w hw))
    refine lBuildSlice (intRows [x]) ?_
    intro ax w hw
    have hw : Wd Γ (.own (.slice (some ax) 1 1) 3 1 (intRows [x]) :: .own (.slice ar nr cr) 3 1 (intRows rest) :: .own (.slice ao no co) 3 1 (intRows out) :: drwB bs ap np cp (k + 1) :: S) w := hw
    repeat (first | refine byW ?_ | (refine byV ?_; intro w hw))
    refine lApp (i := 2) (rows2 := intRows [x]) ?_ (hw.own_rd (i := 0) rfl) rfl rfl hw rfl (ints1 _) rfl
    intro vo' w hw
    have hw : Wd Γ (.own (.slice ar nr cr) 3 1 (intRows rest) :: .own vo' 3 1 (intRows out ++ intRows [x]) :: drwB bs ap np cp (k + 1) :: S) w := (hw.ds [0])
    rw [← intRows_app] at hw
    repeat (first | refine byW ?_ | (refine byV ?_; intro w hw))
    refine W_mixP [[],[],[],[0],[],[],[],[],[0],[0,1]] [[1],[],[],[0],[1],[],[],[],[0],[0,1]] [38, 43] 6 (.slice ar nr cr) ?_
    refine mMoveR (dd := 6) ?_
    refine mY ?_
    refine mY (v := .slice ar i cr) ?_ (hy := fun Y w g hw => y_sliceH (a := ar) (n := nr) (c := cr) (h := (i : Int)) rfl rfl (by omega) (by omega))
    refine mAppNil (m := i) (rows2 := (intRows rest).take i) ?_ (fun Y w hw => (Wd.own_rd (i := 0) hw rfl).take i) (by simp [intRows]; omega) (take_ints _ _)
    refine mMoveR (dd := 6) ?_
    iterate 2 (refine mY ?_)
    refine mY (v := .slice (cutA ar (i + 1) cr 1) (nr - (i + 1)) (cr - (i + 1))) ?_ (hy := fun Y w g hw => y_sliceL (a := ar) (n := nr) (c := cr) (l := (i : Int) + 1) rfl rfl (by omega) (by omega))
    refine mAppOwn (dx := 38) (m := nr - (i + 1)) (rows2 := (intRows rest).drop (i + 1)) ?_ (fun Y w hw => (Wd.own_rd (i := 0) hw rfl).cut (c := cr) (by simp [intRows]; omega) (i + 1) (by simp [intRows]; omega)) (by simp [intRows]; omega) (drop_ints _ _) (hb := by simp [intRows]; omega) (h63 := by simp [intRows]; omega)
    refine mAssX (dx := 43) ?_
    refine mEnd fun w g hw => ?_
    have hw := hw.perm List.perm_append_comm
    rw [erase_ints] at hw
    have hw : Wd Γ (.own (g 6) 3 1 (intRows (rest.eraseIdx i)) :: .own (.slice ar nr cr) 3 1 (intRows rest) :: .own vo' 3 1 (intRows (out ++ [x])) :: drwB bs ap np cp (k + 1) :: S) w := hw
    have hF' : (out ++ [x]) ++ subF L μ' (k + 1) (rest.eraseIdx i) = subF L L.length 0 l := by
      rw [← hF]
      conv => rhs; unfold subF
      rw [if_neg (by intro e; rw [e] at hnr; simp at hnr; omega), ← hnr, hi, show ((i : Nat) : Int).toNat = i from rfl, List.getD_eq_getElem?_getD, hx]
      simp
    repeat (first | refine byW ?_ | (refine byV ?_; intro w hw))
    exact ⟨μ', by omega, k + 1, out ++ [x], rest.eraseIdx i, g 6, vo', by omega, by simp [hok], by rw [List.length_eraseIdx]; split <;> omega, hF', ⟨rfl, rfl, rfl, rfl, trivial⟩, hw.dropAt 1⟩
  · have h : (decide ((nr : Int) > 0) && decide ((no : Int) < (np : Int))) = false := h
    have hF' : out = subF L L.length 0 l := by
      rw [← hF]
      cases μ with
      | zero => simp [subF]
      | succ μ =>
        have hr0 : rest = [] := by
          simp only [Bool.and_eq_false_iff, decide_eq_false_iff_not] at h
          exact List.eq_nil_of_length_eq_zero (by omega)
        rw [hr0]; simp [subF]
    rw [hF'] at hw
    repeat (first | refine byW ?_ | (refine byV ?_; intro w hw))
    exact ⟨[_], ⟨rfl, trivial⟩, _, rfl, hw.ds [0, 1]⟩
/-- The root and the members that numbers stand for. -/
structure Party (H : HwT) (r : Int) (ms : List Int) : Prop where
  rt : r ∈ H.Cores.map (·.ID)
  sub : ∃ rest, (r :: (ms ++ rest)).Perm (H.Cores.map (·.ID))
theorem parties_any {Γ : Gho} {u : Value} {H : HwT} [hh : HwR Γ u H] (hn : 1 ≤ H.Cores.length ∧ H.Cores.length ≤ 32) {S : List Res} {w : World} {ap : Option Addr} {np cp : Nat} {L : List Int} {root : Int} (hp : RepS Γ (.slice ap np cp) 1 (intRows L)) (hLl : L.length ≤ 1000) (hw : Wd Γ S w) :
    Calls Try.prog 10 #[u, .int .i64 root, .slice ap np cp] w fun e w' => ∃ Γ' r ms v, Γ.le Γ' ∧ e = .returned (.tuple #[.int .i64 r, v]) ∧ Party H r ms ∧ ms.length ≤ L.length ∧ Wd Γ' (.own v 3 1 (intRows ms) :: S) w' := by
  have hh' := hh
  obtain ⟨a1, n1, c1, a2, n2, c2, a3, n3, c3, a4, n4, c4, a5, n5, c5, cs, rfl, hcs, hok, hsz, r1, r2, r3, r4, r5⟩ := hh.h
  obtain ⟨hnp, hncp, hccp⟩ := rep_facts hp
  simp only [intRows, List.length_map] at hnp
  refine calls_of_WC Try.func10 rfl rfl ?_
  repeat (first | refine byW ?_ | (refine byV ?_; intro w hw))
  refine lBox ?_
  intro b3 w hw
  have hw : Wd Γ (.blk b3 (hwC H a1 n1 c1 a2 n2 c2 a3 n3 c3 a4 n4 c4 a5 n5 c5) :: S) w := hw
  repeat (first | refine byW ?_ | (refine byV ?_; intro w hw))
  refine lCall ((IDs_any (xs := H.Cores) (nm := H.Name) (RepS.rdS r1) (by omega) hw).mono fun e w hq => ?_)
  clear hw
  obtain ⟨vi, rfl, hw⟩ := hq
  refine ⟨_, rfl, ?_⟩
  obtain ⟨ai, ni, ci, rfl, hni, hnci, hcci⟩ := hw.own_shape (i := 0) rfl
  simp only [intRows, List.length_map] at hni
  generalize hids : H.Cores.map (·.ID) = ids at *
  have hil : ids.length = ni := by rw [← hids, List.length_map]; omega
  obtain ⟨k, hk, p1⟩ := place_at (x := root) (n := ni) (by omega) (by omega)
  obtain ⟨x, hx⟩ := get_lt (l := ids) (k := k) (by omega)
  repeat (first | refine byW ?_ | (refine byV ?_; intro w hw))
  refine W_mix2 [.own (.slice ai ni ci) 3 1 (intRows ids), .blk b3 (hwC H a1 n1 c1 a2 n2 c2 a3 n3 c3 a4 n4 c4 a5 n5 c5)] S [[],[],[],[1],[],[],[],[],[1],[1]] [[],[],[],[1],[],[],[],[],[1],[1]] [[], [20, 25, 10]] hw ?_
  iterate 2 (refine mY ?_)
  refine mY (v := .slice ai k ci) ?_ (hy := fun Y w g hw => y_sliceH (a := ai) (n := ni) (c := ci) (h := (k : Int)) rfl rfl (by omega) (by omega))
  refine mAppNil (c := 1) (m := k) (rows2 := (intRows ids).take k) ?_ (fun Y w hw => (Wd.own_rd (i := 0) hw rfl).take k) (by simp [intRows]; omega) (take_ints _ _)
  iterate 3 (refine mY ?_)
  refine mY (v := .slice (cutA ai (k + 1) ci 1) (ni - (k + 1)) (ci - (k + 1))) ?_ (hy := fun Y w g hw => y_sliceL (a := ai) (n := ni) (c := ci) (l := (k : Int) + 1) rfl rfl (by omega) (by omega))
  refine mAppOwn (c := 1) (dx := 20) (m := ni - (k + 1)) (rows2 := (intRows ids).drop (k + 1)) ?_ (fun Y w hw => (Wd.own_rd (i := 0) hw rfl).cut (c := ci) (by simp [intRows]; omega) (k + 1) (by simp [intRows]; omega)) (by simp [intRows]; omega) (drop_ints _ _) (hb := by simp [intRows]; omega) (h63 := by simp [intRows]; omega)
  refine mAssV (c := 1) (dx := 25) ?_
  refine mEnd fun w g hw => ?_
  rw [erase_ints] at hw
  have hw : Wd Γ (.own (.slice ai ni ci) 3 1 (intRows ids) :: .blk b3 (hwC H a1 n1 c1 a2 n2 c2 a3 n3 c3 a4 n4 c4 a5 n5 c5) :: (S ++ ([.own (g 10) 3 1 (intRows (ids.eraseIdx k))] ++ []))) w := hw
  have hw : Wd Γ (.own (g 10) 3 1 (intRows (ids.eraseIdx k)) :: .own (.slice ai ni ci) 3 1 (intRows ids) :: .blk b3 (hwC H a1 n1 c1 a2 n2 c2 a3 n3 c3 a4 n4 c4 a5 n5 c5) :: S) w := hw.perm byPM
  generalize hg : g 10 = g10 at *
  obtain ⟨ar, nr, cr, rfl, hnr, hncr, hccr⟩ := hw.own_shape (i := 0) rfl
  obtain ⟨Γ1, e1, q1, hw⟩ := hw.freeze
  have hlen : (ids.eraseIdx k).length ≤ 1000 := by rw [List.length_eraseIdx]; split <;> omega
  have hp1 := hp.mono e1
  refine W_has (l := [(2, .slice ap np cp), (8, .slice ai ni ci), (9, .int .i64 k), (10, .slice ar nr cr)]) ⟨rfl, rfl, rfl, hg, trivial⟩ fun ρ' hρ' => ?_
  rw [hρ'.eq]
  clear hρ' hg
  repeat (first | refine byW ?_ | (refine byV ?_; intro w hw))
  refine W_mix2 [.own (.slice ai ni ci) 3 1 (intRows ids), .blk b3 (hwC H a1 n1 c1 a2 n2 c2 a3 n3 c3 a4 n4 c4 a5 n5 c5)] S [[],[],[],[],[],[],[1],[],[1]] [[],[],[],[],[],[],[1],[],[1]] [[], [32, 7]] hw ?_
  repeat (first | refine mY ?_ | refine mP ?_ | refine mPg ?_)
  refine mCallG (c := 1) (F := fun _ => []) (fun g => [.own (g 32) 3 1 (intRows (subF L L.length 0 (ids.eraseIdx k)))]) (fun _ => [.slice ar nr cr, .slice ap np cp]) (fun g w Y hw => (Subset_any q1 hp1 hlen hLl hw).mono fun e w' hq => ?_) ?_ (hM := rfl)
  · obtain ⟨v, rfl, hw⟩ := hq
    exact ⟨v, rfl, hw⟩
  repeat (first | refine mY ?_ | refine mP ?_ | refine mPg ?_)
  refine mAssV (c := 1) (dx := 32) ?_
  refine mEnd fun w g hw => ?_
  have hw : Wd Γ1 (.own (.slice ai ni ci) 3 1 (intRows ids) :: .blk b3 (hwC H a1 n1 c1 a2 n2 c2 a3 n3 c3 a4 n4 c4 a5 n5 c5) :: (S ++ ([.own (g 7) 3 1 (intRows (subF L L.length 0 (ids.eraseIdx k)))] ++ []))) w := hw
  have hw : Wd Γ1 (.own (g 7) 3 1 (intRows (subF L L.length 0 (ids.eraseIdx k))) :: S) w := Wd.ds [1, 1] (hw.perm (S' := .own (g 7) 3 1 (intRows (subF L L.length 0 (ids.eraseIdx k))) :: .own (.slice ai ni ci) 3 1 (intRows ids) :: .blk b3 (hwC H a1 n1 c1 a2 n2 c2 a3 n3 c3 a4 n4 c4 a5 n5 c5) :: S) byPM)
  repeat (first | refine byW ?_ | (refine byV ?_; intro w hw))
  refine ⟨[_, _], ⟨rfl, rfl, trivial⟩, Γ1, x, _, _, e1, rfl, ⟨by rw [hids]; exact List.mem_of_getElem? hx, ?_⟩, subF_len _ _ _ _, hw⟩
  obtain ⟨rest, hr⟩ := subF_perm L L.length 0 (ids.eraseIdx k)
  rw [hids]
  exact ⟨rest, (hr.cons x).trans (cons_erase_perm hx)⟩
end Go.Proofs.Yteiijmclobggjaa
end
/- Exchanging two edges of one sender leaves a tree valid, and completes a plan no earlier. -/
section
open Go Mk
namespace Go.Proofs.Yteiijmclobggjaa

theorem swap_get {es : List Pl} {i k : Nat} {a b : Pl} (ha : es[i]? = some a) (hb : es[k]? = some b) (m : Nat) : ((es.set i b).set k a)[m]? = if m = k then some a else if m = i then some b else es[m]? := by
  have h1 := (List.getElem?_eq_some_iff.1 ha).1
  have h2 := (List.getElem?_eq_some_iff.1 hb).1
  rw [List.getElem?_set]
  by_cases e : m = k
  · subst e; simp [h2]
  · rw [if_neg (Ne.symm e), if_neg e, List.getElem?_set]
    by_cases e2 : m = i
    · subst e2; simp [h1]
    · rw [if_neg (Ne.symm e2), if_neg e2]
theorem swap_perm2 {es : List Pl} {i k : Nat} {a b : Pl} (ha : es[i]? = some a) (hb : es[k]? = some b) : ((es.set i b).set k a).Perm es := by
  obtain ⟨h1, h1'⟩ := List.getElem?_eq_some_iff.1 ha
  obtain ⟨h2, h2'⟩ := List.getElem?_eq_some_iff.1 hb
  refine List.perm_iff_count.2 fun x => ?_
  have h3 : (es.set i b)[k]'(by simpa using h2) = b := by
    rw [List.getElem_set]; split <;> simp_all
  rw [List.count_set (by simpa using h2), List.count_set h1, h3, h1']
  by_cases e : a == x
  · have : 0 < es.count x := List.count_pos_iff.2 (by rw [← eq_of_beq e]; exact List.mem_of_getElem? ha)
    rw [if_pos e]
    split <;> omega
  · rw [if_neg e]
    split <;> omega
theorem swap_from {es : List Pl} {i k : Nat} {a b : Pl} (ha : es[i]? = some a) (hb : es[k]? = some b) (hf : a.1 = b.1) {m : Nat} {e : Pl} (he : ((es.set i b).set k a)[m]? = some e) : ∃ e0, es[m]? = some e0 ∧ e0.1 = e.1 := by
  rw [swap_get ha hb] at he
  by_cases e1 : m = k
  · rw [if_pos e1] at he; cases he; subst e1; exact ⟨b, hb, hf.symm⟩
  · rw [if_neg e1] at he
    by_cases e2 : m = i
    · rw [if_pos e2] at he; cases he; subst e2; exact ⟨a, ha, hf⟩
    · rw [if_neg e2] at he; exact ⟨e, he, rfl⟩
theorem swap_froms {es : List Pl} {i k : Nat} {a b : Pl} (ha : es[i]? = some a) (hb : es[k]? = some b) (hf : a.1 = b.1) : ((es.set i b).set k a).map (·.1) = es.map (·.1) := by
  refine List.ext_getElem? fun m => ?_
  rw [List.getElem?_map, List.getElem?_map, swap_get ha hb]
  by_cases e1 : m = k
  · rw [if_pos e1, e1, hb]; simp [hf]
  · rw [if_neg e1]
    by_cases e2 : m = i
    · rw [if_pos e2, e2, ha]; simp [hf]
    · rw [if_neg e2]
theorem cntF_froms {es es' : List Pl} (h : es'.map (·.1) = es.map (·.1)) (m : Nat) (f : Int) : cntF es' m f = cntF es m f := by
  have : ∀ l : List Pl, cntF l m f = ((l.map (·.1)).take m).countP fun x => decide (x = f) := fun l => by
    unfold cntF
    rw [← List.map_take, List.countP_map]; rfl
  rw [this, this, h]
theorem cntF_mono {es : List Pl} {i k : Nat} (h : i ≤ k) (f : Int) : cntF es i f ≤ cntF es k f := by
  unfold cntF
  exact (List.take_sublist_take_left h).countP_le
theorem self_edge {r : Int} {es : List Pl} (hn : (r :: es.map (·.2)).Nodup) (hp : ProtoP r es) {i : Nat} {a : Pl} (ha : es[i]? = some a) : a.2 ≠ a.1 := fun e => by
  rw [List.nodup_cons] at hn
  rcases List.mem_cons.1 (hp i a ha).1 with h | h
  · exact hn.1 (by rw [← h, ← e]; exact List.mem_map_of_mem (List.mem_of_getElem? ha))
  · obtain ⟨j, hj⟩ := List.getElem?_of_mem h
    rw [List.map_take, List.getElem?_take] at hj
    split at hj
    · rename_i hji
      have hi : (es.map (·.2))[i]? = some a.1 := by rw [List.getElem?_map, ha]; simp [e]
      have := nodup_get hn.2 hj hi
      omega
    · cases hj
theorem swap_protoL {r : Int} {es : List Pl} (hn : (r :: es.map (·.2)).Nodup) (hp : ProtoP r es) {i k : Nat} (hik : i < k) {a b : Pl} (ha : es[i]? = some a) (hb : es[k]? = some b) (hf : a.1 = b.1) : ProtoP r ((es.set i b).set k a) := by
  have hT := proto_together hp
  have hT' : Together ((es.set i b).set k a) := fun j m q x y h1 h2 hx hy hxy c hc => by
    obtain ⟨x0, hx0, ex⟩ := swap_from ha hb hf hx
    obtain ⟨y0, hy0, ey⟩ := swap_from ha hb hf hy
    obtain ⟨c0, hc0, ec⟩ := swap_from ha hb hf hc
    have := hT j m q x0 y0 h1 h2 hx0 hy0 (by rw [ex, ey, hxy]) c0 hc0
    rw [← ec, ← ex, this]
  intro m e he
  refine ⟨?_, together_done hT' he⟩
  obtain ⟨e0, he0, ee⟩ := swap_from ha hb hf he
  have hml := (List.getElem?_eq_some_iff.1 he0).1
  rw [← ee]
  rcases List.mem_cons.1 (hp m e0 he0).1 with h | h
  · rw [h]; simp
  · refine List.mem_cons.2 (.inr ?_)
    obtain ⟨d, hd, hde⟩ := List.mem_map.1 h
    obtain ⟨j, hj⟩ := List.getElem?_of_mem hd
    rw [List.getElem?_take] at hj
    split at hj
    · rename_i hjm
      have put : ∀ (q : Nat) (x : Pl), q < m → ((es.set i b).set k a)[q]? = some x → x.2 = e0.1 → e0.1 ∈ (((es.set i b).set k a).take m).map (·.2) := fun q x hq hx hx2 => by
        rw [← hx2]
        refine List.mem_map_of_mem (List.mem_of_getElem? (i := q) ?_)
        rw [List.getElem?_take, if_pos hq]; exact hx
      by_cases e1 : j = i
      · subst e1
        rw [ha] at hj; cases hj
        by_cases hkm : k < m
        · exact put k a hkm (by rw [swap_get ha hb, if_pos rfl]) hde
        · have := hT j m k a b (by omega) (by omega) ha hb hf e0 he0
          exact absurd (hde.trans this) (self_edge hn hp ha)
      · by_cases e2 : j = k
        · subst e2
          rw [hb] at hj; cases hj
          exact put i b (by omega) (by rw [swap_get ha hb, if_neg (by omega), if_pos rfl]) hde
        · exact put j d hjm (by rw [swap_get ha hb, if_neg e2, if_neg e1]; exact hj) hde
    · cases hj
theorem tree_facts {H : HwT} {r : Int} {es : List Pl} (h : treeErr H r es = 0) : validS H = 0 ∧ ((findC H.Cores r).2 && es.all (knownT H)) = true ∧ (r :: es.map (·.2)).Nodup ∧ ProtoP r es := by
  unfold treeErr at h
  by_cases e1 : validS H = 0
  · rw [if_pos e1] at h
    by_cases e2 : ((findC H.Cores r).2 && es.all (knownT H)) = true
    · rw [if_pos e2] at h
      by_cases e3 : decP (r :: es.map (·.2)).Nodup = true
      · rw [if_pos e3] at h
        by_cases e4 : decP (ProtoP r es) = true
        · refine ⟨e1, e2, ?_, ?_⟩
          · by_cases hn : (r :: es.map (·.2)).Nodup
            · exact hn
            · rw [decP_f hn] at e3; cases e3
          · by_cases hn : ProtoP r es
            · exact hn
            · rw [decP_f hn] at e4; cases e4
        · rw [if_neg e4] at h; cases h
      · rw [if_neg e3] at h; cases h
    · rw [if_neg e2] at h; cases h
  · rw [if_neg e1] at h; exact absurd h e1
theorem tree_ok {H : HwT} {r : Int} {es : List Pl} (h1 : validS H = 0) (h2 : ((findC H.Cores r).2 && es.all (knownT H)) = true) (h3 : (r :: es.map (·.2)).Nodup) (h4 : ProtoP r es) : treeErr H r es = 0 := by
  unfold treeErr
  rw [if_pos h1, if_pos h2, if_pos (decP_t h3), if_pos (decP_t h4)]
theorem swap_treeL {H : HwT} {r : Int} {es : List Pl} (h : treeErr H r es = 0) {i k : Nat} (hik : i < k) {a b : Pl} (ha : es[i]? = some a) (hb : es[k]? = some b) (hf : a.1 = b.1) : treeErr H r ((es.set i b).set k a) = 0 := by
  obtain ⟨h1, h2, h3, h4⟩ := tree_facts h
  have hp := swap_perm2 ha hb
  refine tree_ok h1 ?_ ?_ (swap_protoL h3 h4 hik ha hb hf)
  · rw [Bool.and_eq_true] at h2 ⊢
    refine ⟨h2.1, List.all_eq_true.2 fun e he => List.all_eq_true.1 h2.2 e (hp.mem_iff.1 he)⟩
  · exact ((hp.map (·.2)).cons r).nodup_iff.2 h3

/-! ### arrivals of a tree of two levels -/
section
variable {far : Int → Int → Int} {cost : Int} {r : Int} {es : List Pl}
theorem root_arr (hn : (r :: es.map (·.2)).Nodup) {m : Nat} {e : Pl} (he : es[m]? = some e) (h1 : e.1 = r) : (arr0 far cost es)[m]? = some (((cntF es m r : Int) + 1) * cost + far r e.2) := by
  rw [List.nodup_cons] at hn
  have := arr0_root (far := far) (cost := cost) he fun p hp e' => hn.1 (by rw [← h1, ← e']; exact List.mem_map_of_mem hp)
  rw [h1] at this
  exact this
theorem child_arr (hn : (r :: es.map (·.2)).Nodup) {m q : Nat} {e d : Pl} (he : es[m]? = some e) (hd : es[q]? = some d) (hq : q < m) (h1 : d.1 = r) (h2 : d.2 = e.1) :
    (arr0 far cost es)[m]? = some (((cntF es q r : Int) + 1) * cost + far r e.1 + ((cntF es m e.1 : Int) + 1) * cost + far e.1 e.2) := by
  have h3 := root_arr (far := far) (cost := cost) hn hd h1
  rw [h2] at h3
  exact arr0_next he hd hq h2 h3 (List.nodup_cons.1 hn).2
end

/-! ### the plan -/
section
variable {H : HwT} {r : Int} {ms : List Int} {cost : Int}
theorem leaf_hh (p : PlanOk H r ms) {f d : Int} (hf : f ≠ r) (hd : d ∈ chP H r ms f) : hh (farI H) cost (chP H r ms) d = 0 := by
  have h0 := chP_leaf hf p.nr hd
  have hD : Dep (chP H r ms) 1 d := fun x hx => by rw [h0] at hx; simp at hx
  rw [hh_eq hD (by omega)]
  unfold srt
  rw [h0]
  unfold tsort
  rw [List.mergeSort_nil]; rfl
theorem leaf_far (p : PlanOk H r ms) {f d : Int} (hf : f ≠ r) (hd : d ∈ chP H r ms f) : farI H f d = 0 := by
  obtain ⟨h1, h2, h3, h4, -⟩ := chP_other hf hd
  unfold farI
  rw [h4]
  exact dstI_self (valid_links p.v) ⟨h2, h3⟩
theorem child_hh (p : PlanOk H r ms) {f : Int} (hf : f ∈ chP H r ms r) : hh (farI H) cost (chP H r ms) f = hmostF cost (tl (farI H) cost (chP H r ms) f) 0 0 (srt (farI H) cost (chP H r ms) f) :=
  hh_eq (k := 2) (chP_dep p.nr f hf) (by omega)
/-- What an edge of the root brings about. -/
noncomputable def bigB (H : HwT) (r : Int) (ms : List Int) (cost : Int) (n : Nat) (c : Int) : Int := ((n : Int) + 1) * cost + tl (farI H) cost (chP H r ms) r c
theorem plan_parts (p : PlanOk H r ms) {m : Nat} {e : Pl} (he : (planE H r ms cost)[m]? = some e) : (e.1 = r ∨ (e.1 ∈ srt (farI H) cost (chP H r ms) r ∧ e.1 ≠ r)) ∧ (srt (farI H) cost (chP H r ms) e.1)[cntF (planE H r ms cost) m e.1]? = some e.2 := by
  rw [planE_blocks] at he ⊢
  obtain ⟨h1, h2⟩ := block_at (planE_froms p) he
  refine ⟨?_, h2⟩
  have hn := List.nodup_cons.1 (planE_froms (cost := cost) p)
  rcases List.mem_cons.1 h1 with h | h
  · exact .inl h
  · exact .inr ⟨h, fun e' => hn.1 (e' ▸ h)⟩
theorem plan_rootlt (p : PlanOk H r ms) {m : Nat} {e : Pl} (he : (planE H r ms cost)[m]? = some e) : e.1 = r ↔ m < (srt (farI H) cost (chP H r ms) r).length := by
  constructor
  · intro h
    by_cases hm : m < (srt (farI H) cost (chP H r ms) r).length
    · exact hm
    · have := planE_later hm he
      rw [h] at this
      exact absurd this (List.nodup_cons.1 (planE_froms (cost := cost) p)).1
  · intro h
    obtain ⟨c, -, h2⟩ := planE_first h
    rw [he] at h2; cases h2; rfl
/-- The edge that reaches a forwarder. -/
theorem plan_up (p : PlanOk H r ms) {f : Int} (hf : f ∈ srt (farI H) cost (chP H r ms) r) : ∃ q, q < (srt (farI H) cost (chP H r ms) r).length ∧ (planE H r ms cost)[q]? = some (r, f) := by
  obtain ⟨q, hq⟩ := List.getElem?_of_mem hf
  have hql := (List.getElem?_eq_some_iff.1 hq).1
  obtain ⟨c, hc, hc2⟩ := planE_first hql
  rw [hq] at hc; cases hc
  exact ⟨q, hql, hc2⟩
theorem plan_nodup (p : PlanOk H r ms) : (r :: (planE H r ms cost).map (·.2)).Nodup := (tree_facts (planE_tree p)).2.2.1
/-- Every arrival of a plan is brought about by an edge of the root. -/
theorem plan_le (p : PlanOk H r ms) (hc : 0 ≤ cost) {m : Nat} {v : Int} (hv : (arr0 (farI H) cost (planE H r ms cost))[m]? = some v) : ∃ (q : Nat) (c : Int), (planE H r ms cost)[q]? = some (r, c) ∧ v ≤ bigB H r ms cost (cntF (planE H r ms cost) q r) c := by
  have hn := plan_nodup (cost := cost) p
  have hml : m < (planE H r ms cost).length := by rw [← arr0_len (far := farI H) (cost := cost)]; exact (List.getElem?_eq_some_iff.1 hv).1
  obtain ⟨e, he⟩ := get_lt hml
  obtain ⟨h1, h2⟩ := plan_parts p he
  have hh0 : ∀ c ∈ chP H r ms r, 0 ≤ hh (farI H) cost (chP H r ms) c := fun c hcm => by
    rw [child_hh p hcm]; exact (hmostF_ge).1
  rcases h1 with h1 | ⟨h1, h3⟩
  · have ha := root_arr (far := farI H) (cost := cost) hn he h1
    rw [ha] at hv; cases hv
    rw [h1] at h2
    refine ⟨m, e.2, by rw [he, ← h1], ?_⟩
    have := hh0 e.2 (srt_mem.1 (List.mem_of_getElem? h2))
    unfold bigB tl; omega
  · obtain ⟨q, hq, hqe⟩ := plan_up p h1
    have hqm : q < m := by
      have : ¬ m < (srt (farI H) cost (chP H r ms) r).length := fun h => h3 ((plan_rootlt p he).2 h)
      omega
    have ha := child_arr (far := farI H) (cost := cost) hn he hqe hqm rfl rfl
    rw [ha] at hv; cases hv
    refine ⟨q, e.1, hqe, ?_⟩
    have hf := srt_mem.1 h1
    have hd := srt_mem.1 (List.mem_of_getElem? h2)
    have h4 := (hmostF_ge (cost := cost) (t := tl (farI H) cost (chP H r ms) e.1) (l := srt (farI H) cost (chP H r ms) e.1) (i := 0) (m := 0)).2 _ _ h2
    rw [← child_hh p hf, Nat.zero_add] at h4
    have h5 : tl (farI H) cost (chP H r ms) e.1 e.2 = farI H e.1 e.2 + hh (farI H) cost (chP H r ms) e.2 := rfl
    rw [leaf_hh p h3 hd] at h5
    unfold bigB
    have h6 : tl (farI H) cost (chP H r ms) r e.1 = farI H r e.1 + hh (farI H) cost (chP H r ms) e.1 := rfl
    rw [h6]
    omega
/-- After an exchange of two edges of the root, an edge of the root brings about what it did. -/
theorem swap_ge (p : PlanOk H r ms) {i k : Nat} (hik : i < k) {a b : Pl} (ha : (planE H r ms cost)[i]? = some a) (hb : (planE H r ms cost)[k]? = some b) (har : a.1 = r) (hbr : b.1 = r) {q : Nat} {c : Int}
    (hq : (((planE H r ms cost).set i b).set k a)[q]? = some (r, c)) : bigB H r ms cost (cntF (planE H r ms cost) q r) c ≤ (arr0 (farI H) cost (((planE H r ms cost).set i b).set k a)).foldl max 0 := by
  have hf : a.1 = b.1 := har.trans hbr.symm
  obtain ⟨-, -, hn', -⟩ := tree_facts (swap_treeL (planE_tree p) hik ha hb hf)
  have hcnt := cntF_froms (swap_froms ha hb hf)
  have h1 := root_arr (far := farI H) (cost := cost) hn' hq rfl
  rw [hcnt] at h1
  have hcm : c ∈ chP H r ms r := by
    have := (swap_perm2 ha hb).mem_iff.1 (List.mem_of_getElem? hq)
    obtain ⟨m, hm⟩ := List.getElem?_of_mem this
    obtain ⟨-, h2⟩ := plan_parts p hm
    exact srt_mem.1 (List.mem_of_getElem? h2)
  have hcr : c ≠ r := fun e => p.nr (e ▸ chP_mem hcm)
  rcases hmostF_att (cost := cost) (t := tl (farI H) cost (chP H r ms) c) (l := srt (farI H) cost (chP H r ms) c) (i := 0) (m := 0) with h0 | ⟨j, d, hd, h0⟩
  · have := foldmax_mem (m := 0) _ (List.mem_of_getElem? h1)
    refine Int.le_trans (Int.le_of_eq ?_) this
    unfold bigB tl
    rw [child_hh p hcm, h0, Int.add_zero]
  · have hdm := srt_mem.1 (List.mem_of_getElem? hd)
    obtain ⟨m, hm, hmj⟩ := at_block (planE_froms (cost := cost) p) (List.mem_cons.2 (.inr (srt_mem.2 hcm))) hd
    rw [← planE_blocks] at hm hmj
    have hmk : m ≠ k := fun e => by subst e; rw [hb] at hm; cases hm; exact hcr hbr
    have hmi : m ≠ i := fun e => by subst e; rw [ha] at hm; cases hm; exact hcr har
    have hm' : (((planE H r ms cost).set i b).set k a)[m]? = some (c, d) := by rw [swap_get ha hb, if_neg hmk, if_neg hmi]; exact hm
    have hqm : q < m := by
      obtain ⟨e0, he0, ee⟩ := swap_from ha hb hf hq
      have h3 := (plan_rootlt p he0).1 ee
      have h4 : ¬ m < (srt (farI H) cost (chP H r ms) r).length := fun h => hcr ((plan_rootlt p hm).2 h)
      omega
    have h2 := child_arr (far := farI H) (cost := cost) hn' hm' hq hqm rfl rfl
    simp only [hcnt, hmj] at h2
    have := foldmax_mem (m := 0) _ (List.mem_of_getElem? h2)
    refine Int.le_trans (Int.le_of_eq ?_) this
    have h5 : tl (farI H) cost (chP H r ms) c d = farI H c d + hh (farI H) cost (chP H r ms) d := rfl
    rw [leaf_hh p hcr hdm] at h5
    unfold bigB
    have h6 : tl (farI H) cost (chP H r ms) r c = farI H r c + hh (farI H) cost (chP H r ms) c := rfl
    rw [h6, child_hh p hcm, h0, h5, Nat.zero_add]; omega
theorem srt_desc {c : Int} {x y : Nat} {u v : Int} (h : x ≤ y) (hu : (srt (farI H) cost (chP H r ms) c)[x]? = some u) (hv : (srt (farI H) cost (chP H r ms) c)[y]? = some v) : tl (farI H) cost (chP H r ms) c v ≤ tl (farI H) cost (chP H r ms) c u := by
  by_cases e : x = y
  · subst e; rw [hu] at hv; cases hv; exact Int.le_refl _
  · have := List.pairwise_iff_getElem.1 (tsort_pairwise (tl (farI H) cost (chP H r ms) c) (chP H r ms c))
    obtain ⟨hx, hx'⟩ := List.getElem?_eq_some_iff.1 hu
    obtain ⟨hy, hy'⟩ := List.getElem?_eq_some_iff.1 hv
    have := this x y hx hy (by omega)
    unfold srt at hx' hy'
    rw [hx', hy'] at this
    omega
theorem fastL (p : PlanOk H r ms) (hc : 0 ≤ cost) {i k : Nat} (hik : i < k) {a b : Pl} (ha : (planE H r ms cost)[i]? = some a) (hb : (planE H r ms cost)[k]? = some b) (hf : a.1 = b.1) :
    (arr0 (farI H) cost (planE H r ms cost)).foldl max 0 ≤ (arr0 (farI H) cost (((planE H r ms cost).set i b).set k a)).foldl max 0 := by
  refine foldmax_le foldmax_ge fun v hv => ?_
  obtain ⟨m, hm⟩ := List.getElem?_of_mem hv
  by_cases har : a.1 = r
  · have hbr : b.1 = r := hf.symm.trans har
    obtain ⟨q, c, hq, hle⟩ := plan_le p hc hm
    refine Int.le_trans hle ?_
    have hka : (((planE H r ms cost).set i b).set k a)[k]? = some (r, a.2) := by rw [swap_get ha hb, if_pos rfl, ← har]
    have hmon : ((cntF (planE H r ms cost) i r : Int) + 1) * cost ≤ ((cntF (planE H r ms cost) k r : Int) + 1) * cost := Int.mul_le_mul_of_nonneg_right (by have := cntF_mono (es := planE H r ms cost) (Nat.le_of_lt hik) r; omega) hc
    by_cases e1 : q = k
    · subst e1
      have hbc : b.2 = c := by rw [hb] at hq; exact congrArg Prod.snd (Option.some.inj hq)
      rw [← hbc]
      refine Int.le_trans ?_ (swap_ge p hik ha hb har hbr hka)
      have h1 := (plan_parts p ha).2
      have h2 := (plan_parts p hb).2
      rw [har] at h1
      rw [hbr] at h2
      have := srt_desc (cntF_mono (es := planE H r ms cost) (Nat.le_of_lt hik) r) h1 h2
      unfold bigB; omega
    · by_cases e2 : q = i
      · subst e2
        have hbc : a.2 = c := by rw [ha] at hq; exact congrArg Prod.snd (Option.some.inj hq)
        rw [← hbc]
        refine Int.le_trans ?_ (swap_ge p hik ha hb har hbr hka)
        unfold bigB; omega
      · exact swap_ge p hik ha hb har hbr (by rw [swap_get ha hb, if_neg e1, if_neg e2]; exact hq)
  · have hbr : b.1 ≠ r := fun e => har (hf.trans e)
    refine foldmax_mem v (List.mem_of_getElem? (i := m) ?_)
    have hn := plan_nodup (cost := cost) p
    obtain ⟨-, -, hn', -⟩ := tree_facts (swap_treeL (planE_tree p) hik ha hb hf)
    have hcnt := cntF_froms (swap_froms ha hb hf)
    have hml : m < (planE H r ms cost).length := by rw [← arr0_len (far := farI H) (cost := cost)]; exact (List.getElem?_eq_some_iff.1 hm).1
    obtain ⟨e, he⟩ := get_lt hml
    have keep : ∀ {q : Nat} {x : Pl}, (planE H r ms cost)[q]? = some x → x.1 = r → (((planE H r ms cost).set i b).set k a)[q]? = some x := fun {q x} hx hxr => by
      rw [swap_get ha hb, if_neg (fun e => by subst e; rw [hb] at hx; cases hx; exact hbr hxr), if_neg (fun e => by subst e; rw [ha] at hx; cases hx; exact har hxr)]
      exact hx
    obtain ⟨h1, h2⟩ := plan_parts p he
    rcases h1 with h1 | ⟨h1, h3⟩
    · rw [root_arr (far := farI H) (cost := cost) hn he h1] at hm
      rw [root_arr (far := farI H) (cost := cost) hn' (keep he h1) h1, hcnt]
      exact hm
    · obtain ⟨q, hq, hqe⟩ := plan_up p h1
      have hqm : q < m := by
        have : ¬ m < (srt (farI H) cost (chP H r ms) r).length := fun h => h3 ((plan_rootlt p he).2 h)
        omega
      rw [child_arr (far := farI H) (cost := cost) hn he hqe hqm rfl rfl] at hm
      obtain ⟨e', he'⟩ : ∃ e', (((planE H r ms cost).set i b).set k a)[m]? = some e' := ⟨_, List.getElem?_eq_getElem (by simpa using hml)⟩
      obtain ⟨e0, he0, ee⟩ := swap_from ha hb hf he'
      rw [he] at he0; cases he0
      have hz : farI H e'.1 e'.2 = 0 := by
        have := (swap_perm2 ha hb).mem_iff.1 (List.mem_of_getElem? he')
        obtain ⟨m2, hm2⟩ := List.getElem?_of_mem this
        obtain ⟨-, h4⟩ := plan_parts p hm2
        exact leaf_far p (by rw [← ee]; exact h3) (srt_mem.1 (List.mem_of_getElem? h4))
      have hz0 := leaf_far p h3 (srt_mem.1 (List.mem_of_getElem? h2))
      rw [child_arr (far := farI H) (cost := cost) hn' he' (keep hqe rfl) hqm rfl ee, hcnt, hcnt, hz, ← ee]
      rw [hz0] at hm
      exact hm
/-- The exchange, whichever edge comes first. -/
theorem swap_best (p : PlanOk H r ms) (hc : 0 ≤ cost) {i k : Nat} {a b : Pl} (ha : (planE H r ms cost)[i]? = some a) (hb : (planE H r ms cost)[k]? = some b) (hf : a.1 = b.1) :
    treeErr H r (((planE H r ms cost).set i b).set k a) = 0 ∧ (arr0 (farI H) cost (planE H r ms cost)).foldl max 0 ≤ (arr0 (farI H) cost (((planE H r ms cost).set i b).set k a)).foldl max 0 := by
  rcases Nat.lt_trichotomy i k with h | h | h
  · exact ⟨swap_treeL (planE_tree p) h ha hb hf, fastL p hc h ha hb hf⟩
  · subst h
    rw [ha] at hb; cases hb
    have : ((planE H r ms cost).set i a).set i a = planE H r ms cost := by
      refine List.ext_getElem? fun m => ?_
      rw [swap_get ha ha]
      by_cases e : m = i
      · rw [if_pos e, e, ha]
      · rw [if_neg e, if_neg e]
    rw [this]
    exact ⟨planE_tree p, Int.le_refl _⟩
  · have : ((planE H r ms cost).set i b).set k a = ((planE H r ms cost).set k a).set i b := List.set_comm _ _ (by omega)
    rw [this]
    exact ⟨swap_treeL (planE_tree p) h hb ha hf.symm, fastL p hc h hb ha hf.symm⟩
theorem arrS_ok {es : List Pl} (h : treeErr H r es = 0) (hc : 0 ≤ cost ∧ cost ≤ 1000000) : arrS H r es cost = (arr0 (farI H) cost es, 0) := by
  unfold arrS arr0
  rw [if_pos h, if_neg (by omega)]
theorem compS_ok {es : List Pl} (h : treeErr H r es = 0) (hc : 0 ≤ cost ∧ cost ≤ 1000000) : compS H r es cost = (arr0 (farI H) cost es).foldl max 0 := by
  unfold compS
  rw [arrS_ok h hc, if_pos rfl]
end
end Go.Proofs.Yteiijmclobggjaa
end
/- RouteFastest, walked. -/
section
open Go Mk
namespace Go.Proofs.Yteiijmclobggjaa
set_option maxHeartbeats 16000000
attribute [local irreducible] Calls

theorem valid_ids {H : HwT} (h : validS H = 0) : (H.Cores.map (·.ID)).Nodup := by
  obtain ⟨-, -, -, -, h5, -⟩ := valid_all h
  unfold uniqueB at h5
  simp only [Bool.and_eq_true, decide_eq_true_eq] at h5
  exact h5.2.1.1.1.1.1
theorem find_of_id {H : HwT} {x : Int} (h : x ∈ H.Cores.map (·.ID)) : (findC H.Cores x).2 = true := by
  obtain ⟨c, hc, he⟩ := List.mem_map.1 h
  rcases coreIx_cases H.Cores x with ⟨-, -, h3⟩ | ⟨k, y, -, -, -, h4⟩
  · exact absurd he (h3 c hc)
  · rw [h4]
theorem party_ok {H : HwT} {r : Int} {ms : List Int} (hv : validS H = 0) (p : Party H r ms) : PlanOk H r ms := by
  obtain ⟨rest, hp⟩ := p.sub
  have hn : (r :: (ms ++ rest)).Nodup := hp.nodup_iff.2 (valid_ids hv)
  rw [List.nodup_cons, List.nodup_append] at hn
  refine ⟨hv, find_of_id p.rt, fun a ha => find_of_id (hp.mem_iff.1 (by simp [ha])), fun h => hn.1 (by simp [h]), hn.2.1⟩
theorem plan_proj {H : HwT} {r : Int} {ms : List Int} {cost : Int} (p : PlanOk H r ms) (hc : 0 ≤ cost ∧ cost ≤ 1000000) : planErr H r ms cost = 0 ∧ planS H r ms cost = (r, planE H r ms cost) := by
  have h := p.err hc
  refine ⟨h, ?_⟩
  unfold planS
  rw [if_pos h]
theorem pls_one (es : List Pl) : (es.map plV).flatten.all (·.oneCell') = true := by
  rw [List.all_eq_true]
  intro u hu
  obtain ⟨r, hr, hur⟩ := List.mem_flatten.1 hu
  obtain ⟨x, _, rfl⟩ := List.mem_map.1 hr
  exact List.all_eq_true.1 (rfl : (plV x).all (·.oneCell') = true) u hur
theorem RouteFastest_any {Γ : Gho} {S : List Res} {w : World} {a ap : Option Addr} {m c np cp : Nat} {L Lp : List Int} {root cost x y : Int} (hr : RepS Γ (.slice a m c) 1 (intRows L)) (hp : RepS Γ (.slice ap np cp) 1 (intRows Lp)) (hw : Wd Γ S w) :
    Calls Try.prog 4 #[.slice a m c, .int .i64 root, .slice ap np cp, .int .i64 cost, .int .i64 x, .int .i64 y] w fun e w' => ∃ Γ', Γ.le Γ' ∧ e = .returned (.bool true) ∧ Wd Γ' S w' := by
  obtain ⟨hnp, hncp, hccp⟩ := rep_facts hp
  simp only [intRows, List.length_map] at hnp
  refine calls_of_W Try.func4 rfl rfl ?_
  repeat (first | refine byW ?_ | (refine byV ?_; intro w hw))
  refine W_cond rfl (fun h => ?_) (fun h => ?_)
  · repeat (first | refine byW ?_ | (refine byV ?_; intro w hw))
    exact ⟨_, rfl, Γ, .refl _, rfl, hw⟩
  have h : (decide ((m : Int) > 200) || decide ((np : Int) > 40)) = false := h
  have hnp40 : np ≤ 40 := by simp at h; omega
  clear h
  repeat (first | refine byW ?_ | (refine byV ?_; intro w hw))
  refine lCall ((Hardware_any hr hw).mono fun r w hq => ?_)
  clear hw
  obtain ⟨Γ1, H, u, nodes, sh, first, irq, hle1, rfl, hG, ho⟩ := hq
  refine ⟨_, rfl, ?_⟩
  have hv := gen_valid hG
  obtain ⟨Γ2, hle2, hR, hw⟩ := ho.freeze (gen_sz hG)
  have hnc := hG.nc
  have hp2 := (hp.mono hle1).mono hle2
  clear ho hr hG
  obtain ⟨a1, n1, c1, a2, n2, c2, a3, n3, c3, a4, n4, c4, a5, n5, c5, cs, rfl, hcs, hok, hsz, r1, r2, r3, r4, r5⟩ := hR.h
  repeat (first | refine byW ?_ | (refine byV ?_; intro w hw))
  refine lAlloc ?_
  intro b13 w hw
  refine lStore ?_
  intro w hw
  have hw : Wd Γ2 (.blk b13 (hwC H a1 n1 c1 a2 n2 c2 a3 n3 c3 a4 n4 c4 a5 n5 c5) :: S) w := hw
  repeat (first | refine byW ?_ | (refine byV ?_; intro w hw))
  refine lCall ((parties_any (hh := hR) (by omega) hp2 (by omega) hw).mono fun e w hq => ?_)
  clear hw
  obtain ⟨Γ3, r, ms, vm, hle3, rfl, hP, hml, hw⟩ := hq
  refine ⟨_, rfl, ?_⟩
  obtain ⟨am, nm, cm, rfl, hnm, hnmc, hcm⟩ := hw.own_shape (i := 0) rfl
  simp only [intRows, List.length_map] at hnm
  obtain ⟨Γ4, hle4, q1, hw⟩ := hw.freeze
  have pk := party_ok hv hP
  have hR4 := (hR.mono hle3).mono hle4
  haveI s1 : SlC Γ4 (.slice am nm cm) 1 (intRows ms) := ⟨q1⟩
  haveI s2 : ShortL ms := ⟨by omega⟩
  haveI : PosL 30 := ⟨by decide⟩
  obtain ⟨wc, hwc, hw0, hw30⟩ : ∃ wc : Int, cost % 30 = wc ∧ 0 ≤ wc ∧ wc < 30 := ⟨cost % 30, rfl, by omega, by omega⟩
  haveI p30 : PC Try.prog 7 [.int .i64 cost, .int .i64 30] (.int .i64 wc) := by rw [← hwc]; infer_instance
  obtain ⟨hpe, hps⟩ := plan_proj (cost := wc) pk (by omega)
  repeat (first | refine byW ?_ | (refine byV ?_; intro w hw))
  refine lCall ((plan_any (hhw := hR4) (hr := s1) r wc hw).mono fun e w hq => ?_)
  clear hw
  obtain ⟨ve, rfl, hw⟩ := hq
  rw [hps, hpe] at *
  refine ⟨_, rfl, ?_⟩
  have hel := planE_len (cost := wc) pk
  generalize hes : planE H r ms wc = es at *
  obtain ⟨ae, ne, ce, rfl, hne, hnec, hce⟩ := hw.own_shape (i := 0) rfl
  simp only [List.length_map] at hne
  obtain ⟨Γ5, hle5, q2, hw⟩ := hw.freeze
  haveI hR5 := hR4.mono hle5
  haveI s3 : SlC Γ5 (.slice ae ne ce) 2 (es.map plV) := ⟨q2⟩
  haveI s4 : ShortL es := ⟨by omega⟩
  have ht : treeErr H r es = 0 := by rw [← hes]; exact planE_tree pk
  have hcr : 0 ≤ wc ∧ wc ≤ 1000000 := by omega
  haveI p5 : PG Try.prog Γ5 12 [.agg #[.string H.Name, .slice a1 n1 c1, .slice a2 n2 c2, .slice a3 n3 c3, .slice a4 n4 c4, .slice a5 n5 c5], .agg #[.int .i64 r, .slice ae ne ce], .int .i64 wc] (.tuple #[.int .i64 ((arr0 (farI H) wc es).foldl max 0), .int .i64 0]) := by
    have := pg_Completion (hh := hR5) (hr := s3) (hsh := s4) r wc
    rwa [compS_ok ht hcr, arrS_ok ht hcr] at this
  repeat (first | refine byW ?_ | (refine byV ?_; intro w hw))
  refine lAlloc ?_
  intro b17 w hw
  refine lStore ?_
  intro w hw
  have hw : Wd Γ5 (.blk b17 (.cells #[.int .i64 r, .slice ae ne ce] 47) :: .blk b13 (hwC H a1 n1 c1 a2 n2 c2 a3 n3 c3 a4 n4 c4 a5 n5 c5) :: S) w := hw
  have hle : Γ.le Γ5 := hle1.trans (hle2.trans (hle3.trans (hle4.trans hle5)))
  generalize hn0 : (arr0 (farI H) wc es).foldl max 0 = n0 at *
  repeat (first | refine byW ?_ | (refine byV ?_; intro w hw))
  refine W_cond_false rfl ?_
  repeat (first | refine byW ?_ | (refine byV ?_; intro w hw))
  refine W_cond rfl (fun h => ?_) (fun h => ?_)
  · have h : (ne : Int) = 0 := of_decide_eq_true h
    have he0 : es = [] := List.eq_nil_of_length_eq_zero (by omega)
    have h0 : n0 = 0 := by rw [← hn0, he0]; rfl
    rw [h0]
    repeat (first | (first | refine W_seq ?_ | refine W_block ?_ | refine W_region ?_ | refine W_skip ?_ | refine W_ret ?_ | refine W_exit ?_) | ((first | apply L_bin | apply L_notop); first | (refine lT ?_ ?_; (first | exact rfl | exact decide_eq_true rfl | exact hb1 | exact hb2 | exact hb3 | exact hb4 | (focus (simp; done)))) | (refine lF ?_ ?_; (first | exact rfl | exact decide_eq_true rfl | exact hb1 | exact hb2 | exact hb3 | exact hb4 | (focus (simp; done))))) | (first | refine L_nil ?_ | (apply L_plain; first | (apply L_go; first | refine lP ?_ | (refine lPg ?_; intro w hw)) | (apply L_mf; refine lMakeFunc ?_) | refine lY ?_) | (apply L_guarded; first | refine lGT ?_ (hct := rfl) | refine lGF ?_ (hct := rfl) | (apply L_go; first | refine lPG ?_ | (refine lPgG ?_; intro w hw)) | refine lG ?_)) | (refine lAlloc ?_; intro _ w hw) | (refine lBox ?_; intro _ w hw) | (refine lStore ?_; intro w hw))
    exact ⟨_, rfl, Γ5, hle, rfl, hw.ds [0, 0]⟩
  have h : ¬ (ne : Int) = 0 := of_decide_eq_false h
  obtain ⟨i, hi, pi⟩ := place_at (x := x) (n := ne) (by omega) (by omega)
  obtain ⟨k, hk, pk2⟩ := place_at (x := y) (n := ne) (by omega) (by omega)
  obtain ⟨ea, ha⟩ := get_lt (l := es) (k := i) (by omega)
  obtain ⟨eb, hb⟩ := get_lt (l := es) (k := k) (by omega)
  clear h
  repeat (first | refine byW ?_ | (refine byV ?_; intro w hw))
  refine W_quiet (by kernel_rfl) (by kernel_rfl) hw ?_
  repeat (first | refine Q_nil ?_ | (apply Q_plain; first | (apply Q_go; first | refine qP ?_ | refine qPg ?_) | refine qY ?_) | (apply Q_guarded; first | (apply Q_go; first | refine qPG ?_ | refine qPgG ?_) | refine qG ?_))
  intro w hw
  repeat (first | refine byW ?_ | (refine byV ?_; intro w hw))
  refine W_quiet (by kernel_rfl) (by kernel_rfl) hw ?_
  repeat (first | refine Q_nil ?_ | (apply Q_plain; first | (apply Q_go; first | refine qP ?_ | refine qPg ?_) | refine qY ?_) | (apply Q_guarded; first | (apply Q_go; first | refine qPG ?_ | refine qPgG ?_) | refine qG ?_))
  intro w hw
  refine W_cond rfl (fun h => ?_) (fun h => ?_)
  · repeat (first | refine byW ?_ | (refine byV ?_; intro w hw))
    exact ⟨_, rfl, Γ5, hle, rfl, hw.ds [0, 0]⟩
  have hf : ea.1 = eb.1 := by
    have h : (decide (ea.1 ≠ eb.1)) = false := h
    simpa using h
  clear h
  repeat (first | refine byW ?_ | (refine byV ?_; intro w hw))
  refine W_mixed [.blk b17 (.cells #[.int .i64 r, .slice ae ne ce] 47), .blk b13 (hwC H a1 n1 c1 a2 n2 c2 a3 n3 c3 a4 n4 c4 a5 n5 c5)] [fun _ => [], fun _ => [], fun _ => S] [[],[],[],[],[0],[0],[1],[0,1]] [[],[],[],[],[0],[0],[1],[0,1]] [[105, 106], [23], []] (by
    show Wd Γ5 ([.blk b17 (.cells #[.int .i64 r, .slice ae ne ce] 47), .blk b13 (hwC H a1 n1 c1 a2 n2 c2 a3 n3 c3 a4 n4 c4 a5 n5 c5)] ++ ([] ++ ([] ++ (S ++ [])))) w
    rw [List.append_nil]; exact hw) ?_
  repeat (first | refine mY ?_ | refine mP ?_ | refine mPg ?_)
  refine mAppNil (c := 0) (m := ne) (rows2 := es.map plV) ?_ (fun Y w hw => q2.rd hw) (by simpa using hne) (List.all_eq_true.1 (pls_one es)) (hb := by omega) (h63 := by omega)
  refine mS (c := 0) (v := undef) (F := fun g => [.own (g 105) 52 2 (es.map plV)]) (exC (fun t g => g 106 = .agg #[.int .i64 r, t]) fun t => [.own t 52 2 (es.map plV)]) (fun g w Y hw => ?_) ?_
  · obtain ⟨a', n', c', h5, -, -, -⟩ := hw.own_shape (i := 0) rfl
    have h5 : g 105 = .slice a' n' c' := h5
    rw [show ovr ([[105, 106], [23], []].getD 0 []) g noFr 105 = .slice a' n' c' from h5] at hw
    refine Yields.step (v := .agg #[.int .i64 r, .slice a' n' c']) (y_build ?_) ⟨(fun h => by cases h), exC_mk (.slice a' n' c') rfl hw⟩
    show fillL _ _ [(0, .int .i64 r), (1, g 105)] = _
    rw [h5]; rfl
  refine mAlloc (c := 1) ?_
  refine mS2 (c := 0) (c2 := 1) (v := undef) (F := exC (fun t g => g 106 = .agg #[.int .i64 r, t]) fun t => [.own t 52 2 (es.map plV)]) (G := fun g => [atP (g 23) fun bb => [.blk bb (.cells #[.int .i64 0, .slice none 0 0] 47)]]) (fun _ => []) (exC (T := Value × Nat) (fun t g => g 23 = .pointer (some ⟨t.2, 0, none⟩)) fun t => [.blk t.2 (.cells #[.int .i64 r, t.1] 47), .own t.1 52 2 (es.map plV)]) (fun g w Y hw => ?_) ?_ (hM := (setC_other (by decide)).trans setC_self) (hM2 := setC_self)
  · obtain ⟨t, ht, hw⟩ := exC_open hw
    have hw : Wd Γ5 (atP (g 23) (fun bb => [.blk bb (.cells #[.int .i64 0, .slice none 0 0] 47)]) :: ([.own t 52 2 (es.map plV)] ++ ([.blk b17 (.cells #[.int .i64 r, .slice ae ne ce] 47), .blk b13 (hwC H a1 n1 c1 a2 n2 c2 a3 n3 c3 a4 n4 c4 a5 n5 c5)] ++ Y))) w := hw.perm (.swap _ _ _)
    obtain ⟨bb, h6, hw⟩ := hw.openAt
    obtain ⟨a', n', c', rfl, -, -, -⟩ := hw.own_shape (i := 1) rfl
    have h5 : g 106 = .agg #[.int .i64 r, .slice a' n' c'] := ht
    have h6 : g 23 = .pointer (some ⟨bb, 0, none⟩) := h6
    exact s_store (i := 0) (v := .agg #[.int .i64 r, .slice a' n' c']) (inferInstance : TSz Try.prog 47 2).h hw h6 h5 rfl rfl (List.all_eq_true.1 (rfl : [Value.int .i64 r, .slice a' n' c'].all (·.oneCell') = true)) rfl (Nat.le_refl _) fun w' hw' => ⟨(fun h => rfl), by rw [List.nil_append]; exact exC_mk (T := Value × Nat) (.slice a' n' c', bb) h6 hw'⟩
  refine mEnd fun w g hw => ?_
  have hw : Wd Γ5 ([.blk b17 (.cells #[.int .i64 r, .slice ae ne ce] 47), .blk b13 (hwC H a1 n1 c1 a2 n2 c2 a3 n3 c3 a4 n4 c4 a5 n5 c5)] ++ ([] ++ (exC (T := Value × Nat) (fun t g => g 23 = .pointer (some ⟨t.2, 0, none⟩)) (fun t => [.blk t.2 (.cells #[.int .i64 r, t.1] 47), .own t.1 52 2 (es.map plV)]) g ++ (S ++ [])))) w := hw
  rw [List.append_nil, List.nil_append] at hw
  obtain ⟨t, ht, hw⟩ := exC_open hw.swapApp
  obtain ⟨tv, b23⟩ := t
  have h23 : g 23 = .pointer (some ⟨b23, 0, none⟩) := ht
  obtain ⟨at', nt, ct, rfl, hnt, hntc, hct⟩ := hw.own_shape (i := 1) rfl
  simp only [List.length_map] at hnt
  have hnt : nt = ne := by omega
  subst hnt
  have hw : Wd Γ5 (.own (.slice at' nt ct) 52 2 (es.map plV) :: .blk b23 (.cells #[.int .i64 r, .slice at' nt ct] 47) :: .blk b13 (hwC H a1 n1 c1 a2 n2 c2 a3 n3 c3 a4 n4 c4 a5 n5 c5) :: S) w := Wd.ds [3] (hw.perm (S' := .own (.slice at' nt ct) 52 2 (es.map plV) :: .blk b23 (.cells #[.int .i64 r, .slice at' nt ct] 47) :: .blk b13 (hwC H a1 n1 c1 a2 n2 c2 a3 n3 c3 a4 n4 c4 a5 n5 c5) :: .blk b17 (.cells #[.int .i64 r, .slice ae nt ce] 47) :: S) byPM)
  refine W_has (l := [(13, .pointer (some ⟨b13, 0, none⟩)), (16, .int .i64 wc), (19, .int .i64 n0), (21, .int .i64 i), (22, .int .i64 k), (23, .pointer (some ⟨b23, 0, none⟩))]) ⟨rfl, rfl, rfl, rfl, rfl, h23, trivial⟩ fun ρ' hρ' => ?_
  rw [hρ'.eq]
  clear hρ' h23 ht
  repeat (first | refine byW ?_ | (refine byV ?_; intro w hw))
  refine lAlloc ?_
  intro b24 w hw
  refine lStore ?_
  intro w hw
  have hw : Wd Γ5 (.own (.slice at' nt ct) 52 2 (es.map plV) :: .blk b23 (.cells #[.int .i64 r, .slice at' nt ct] 47) :: .blk b24 (.cells (plV ea).toArray 52) :: .blk b13 (hwC H a1 n1 c1 a2 n2 c2 a3 n3 c3 a4 n4 c4 a5 n5 c5) :: S) w := hw.ps [2, 2]
  repeat (first | refine byW ?_ | (refine byV ?_; intro w hw))
  have hb' := pl_get hb
  refine W_mix1 [.blk b23 (.cells #[.int .i64 r, .slice at' nt ct] 47), .blk b24 (.cells (plV ea).toArray 52), .blk b13 (hwC H a1 n1 c1 a2 n2 c2 a3 n3 c3 a4 n4 c4 a5 n5 c5)] (.own (.slice at' nt ct) 52 2 (es.map plV) :: S) [[],[],[],[],[],[],[],[],[],[0]] [[],[],[],[],[],[],[0],[0],[0],[0]] (hw.ps [3, 3, 3]) ?_
  repeat (first | refine mY ?_ | refine mP ?_ | refine mEndAt ?_ | refine mEnd0 ?_ | refine mEnd ?_)
  refine mStoreE (k := i) (r := plV eb) ?_
  repeat (first | refine mY ?_ | refine mP ?_ | refine mEndAt ?_ | refine mEnd0 ?_ | refine mEnd ?_)
  intro w hw
  have hw : Wd Γ5 ([.blk b23 (.cells #[.int .i64 r, .slice at' nt ct] 47), .blk b24 (.cells (plV ea).toArray 52), .blk b13 (hwC H a1 n1 c1 a2 n2 c2 a3 n3 c3 a4 n4 c4 a5 n5 c5)] ++ ((.own (.slice at' nt ct) 52 2 ((es.map plV).set i (plV eb)) :: S) ++ [])) w := hw
  have hw : Wd Γ5 (.own (.slice at' nt ct) 52 2 ((es.map plV).set i (plV eb)) :: .blk b23 (.cells #[.int .i64 r, .slice at' nt ct] 47) :: .blk b24 (.cells (plV ea).toArray 52) :: .blk b13 (hwC H a1 n1 c1 a2 n2 c2 a3 n3 c3 a4 n4 c4 a5 n5 c5) :: S) w := hw.perm byPM
  repeat (first | refine byW ?_ | (refine byV ?_; intro w hw))
  refine lStoreE (i := 0) (k := k) (r := plV ea) ?_
  intro w hw
  have hw : Wd Γ5 (.own (.slice at' nt ct) 52 2 (((es.map plV).set i (plV eb)).set k (plV ea)) :: .blk b23 (.cells #[.int .i64 r, .slice at' nt ct] 47) :: .blk b24 (.cells (plV ea).toArray 52) :: .blk b13 (hwC H a1 n1 c1 a2 n2 c2 a3 n3 c3 a4 n4 c4 a5 n5 c5) :: S) w := hw
  rw [← List.map_set, ← List.map_set] at hw
  obtain ⟨hb1t, hb1l⟩ := swap_best (cost := wc) pk hw0 (by rw [hes]; exact ha) (by rw [hes]; exact hb) hf
  rw [hes] at hb1t hb1l
  rw [hn0] at hb1l
  have hlen : ((es.set i eb).set k ea).length ≤ 1000 := by simp; omega
  generalize hes2 : (es.set i eb).set k ea = es2 at *
  obtain ⟨Γ6, hle6, q3, hw⟩ := hw.freeze
  haveI hR6 := hR5.mono hle6
  haveI s5 : SlC Γ6 (.slice at' nt ct) 2 (es2.map plV) := ⟨q3⟩
  haveI s6 : ShortL es2 := ⟨hlen⟩
  generalize hn2 : (arr0 (farI H) wc es2).foldl max 0 = n2' at *
  haveI p6 : PG Try.prog Γ6 12 [.agg #[.string H.Name, .slice a1 n1 c1, .slice a2 n2 c2, .slice a3 n3 c3, .slice a4 n4 c4, .slice a5 n5 c5], .agg #[.int .i64 r, .slice at' nt ct], .int .i64 wc] (.tuple #[.int .i64 n2', .int .i64 0]) := by
    have := pg_Completion (hh := hR6) (hr := s5) (hsh := s6) r wc
    rwa [compS_ok hb1t hcr, arrS_ok hb1t hcr, hn2] at this
  have hb1 : decide (n2' ≥ n0) = true := decide_eq_true hb1l
  repeat (first | (first | refine W_seq ?_ | refine W_block ?_ | refine W_region ?_ | refine W_skip ?_ | refine W_ret ?_ | refine W_exit ?_) | ((first | apply L_bin | apply L_notop); first | (refine lT ?_ ?_; (first | exact rfl | exact decide_eq_true rfl | exact hb1 | exact hb2 | exact hb3 | exact hb4 | (focus (simp; done)))) | (refine lF ?_ ?_; (first | exact rfl | exact decide_eq_true rfl | exact hb1 | exact hb2 | exact hb3 | exact hb4 | (focus (simp; done))))) | (first | refine L_nil ?_ | (apply L_plain; first | (apply L_go; first | refine lP ?_ | (refine lPg ?_; intro w hw)) | (apply L_mf; refine lMakeFunc ?_) | refine lY ?_) | (apply L_guarded; first | refine lGT ?_ (hct := rfl) | refine lGF ?_ (hct := rfl) | (apply L_go; first | refine lPG ?_ | (refine lPgG ?_; intro w hw)) | refine lG ?_)) | (refine lAlloc ?_; intro _ w hw) | (refine lBox ?_; intro _ w hw) | (refine lStore ?_; intro w hw))
  exact ⟨_, rfl, Γ6, hle.trans hle6, rfl, hw.ds [0, 0, 0]⟩
end Go.Proofs.Yteiijmclobggjaa
end
